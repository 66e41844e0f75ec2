/- The functions of the program, as plain functions, and that the program computes them. Written by a program. -/
import Derived.Test.YtghfcfjnfgmkgaaGreatDoorLib8
import Derived.Test.YtghfcfjnfgmkgaaGreatDoorLay
import Derived.Lib.LaidU8
import Derived.Lib.BytesEntry
import Derived.Lib.Bytealg
import Derived.Lib.ValidU
import Derived.Test.YtghfcfjnfgmkgaaGreatDoorClone
import Derived.Test.YtghfcfjnfgmkgaaGreatDoorProg
import Derived.WalkKit
set_option linter.unusedVariables false
set_option maxRecDepth 100000
namespace Go.Proofs.YtghfcfjnfgmkgaaGreatDoor
open Go Go.Abs
structure ApiItem where
  kind:Int
  number:BitVec 64
  data:List UInt8
  deriving DecidableEq,Inhabited
structure ApiCredential where
  rP:List UInt8
  user:List UInt8
  name:List UInt8
  seed:BitVec 64
  height:Int
  resident:Bool
  protect:Int
  shared:Bool
  backed:Bool
  deriving DecidableEq,Inhabited
structure CborFrame where
  pairs:Bool
  left:Int
  last_:List UInt8
  deriving DecidableEq,Inhabited
structure CborWalk where
  open_:List CborFrame
  count:Int
  deriving DecidableEq,Inhabited
structure CborChecker where
  walk:CborWalk
  deriving DecidableEq,Inhabited
structure DigestState where
  v0:BitVec 64
  v1:BitVec 64
  v2:BitVec 64
  v3:BitVec 64
  deriving DecidableEq,Inhabited
structure Arr8_UInt8 where
  a0:UInt8
  a1:UInt8
  a2:UInt8
  a3:UInt8
  a4:UInt8
  a5:UInt8
  a6:UInt8
  a7:UInt8
  deriving DecidableEq,Inhabited
structure CborReader where
  walk:CborWalk
  b:List UInt8
  at_:Int
  deriving DecidableEq,Inhabited
structure Arr4_BitVec64 where
  a0:BitVec 64
  a1:BitVec 64
  a2:BitVec 64
  a3:BitVec 64
  deriving DecidableEq,Inhabited
abbrev T:Nat → Type
  | 0=>UInt8
  | 1=>ApiItem
  | 2=>ApiCredential
  | 3=>BitVec 64
  | 4=>List ApiItem
  | 5=>Int
  | 6=>CborFrame
  | 7=>CborWalk
  | 8=>CborChecker
  | 9=>DigestState
  | 10=>List UInt8
  | 11=>Arr8_UInt8
  | 12=>CborReader
  | 13=>List UInt8
  | 14=>Arr4_BitVec64
  | _=>Unit
def lfs:Nat → List Lf
  | 0=>[.u8]
  | 1=>[.int .i64,.u64,.str]
  | 2=>[.str,.str,.str,.u64,.int .i64,.bool,.int .i64,.bool,.bool]
  | 3=>[.u64]
  | 4=>[.rs 1]
  | 5=>[.int .i64]
  | 6=>[.bool,.int .i64,.rn 0]
  | 7=>[.rs 6,.int .i64]
  | 8=>[.rs 6,.int .i64]
  | 9=>[.u64,.u64,.u64,.u64]
  | 10=>[.rs 0]
  | 11=>[.u8,.u8,.u8,.u8,.u8,.u8,.u8,.u8]
  | 12=>[.rs 6,.int .i64,.rs 0,.int .i64]
  | 13=>[.str]
  | 14=>[.u64,.u64,.u64,.u64]
  | _=>[]
def to0 (x:UInt8):tyLs T (lfs 0):=(x,())
def of0 (y:tyLs T (lfs 0)):UInt8:=y.1
def eD0 (x:UInt8):List D:=[.int .u8 x.toNat]
def to1 (x:ApiItem):tyLs T (lfs 1):=(x.kind,x.number,x.data,())
def of1 (y:tyLs T (lfs 1)):ApiItem:=⟨y.1,y.2.1,y.2.2.1⟩
def eD1 (x:ApiItem):List D:=[.int .i64 x.kind,.int .u64 x.number.toNat,.str x.data]
def to2 (x:ApiCredential):tyLs T (lfs 2):=(x.rP,x.user,x.name,x.seed,x.height,x.resident,x.protect,x.shared,x.backed,())
def of2 (y:tyLs T (lfs 2)):ApiCredential:=⟨y.1,y.2.1,y.2.2.1,y.2.2.2.1,y.2.2.2.2.1,y.2.2.2.2.2.1,y.2.2.2.2.2.2.1,y.2.2.2.2.2.2.2.1,y.2.2.2.2.2.2.2.2.1⟩
def eD2 (x:ApiCredential):List D:=[.str x.rP,.str x.user,.str x.name,.int .u64 x.seed.toNat,.int .i64 x.height,.bool x.resident,.int .i64 x.protect,.bool x.shared,.bool x.backed]
def to3 (x:BitVec 64):tyLs T (lfs 3):=(x,())
def of3 (y:tyLs T (lfs 3)):BitVec 64:=y.1
def eD3 (x:BitVec 64):List D:=[.int .u64 x.toNat]
def to4 (x:List ApiItem):tyLs T (lfs 4):=(x,())
def of4 (y:tyLs T (lfs 4)):List ApiItem:=y.1
def eD4 (x:List ApiItem):List D:=[.rs 3 (x.map eD1)]
def to5 (x:Int):tyLs T (lfs 5):=(x,())
def of5 (y:tyLs T (lfs 5)):Int:=y.1
def eD5 (x:Int):List D:=[.int .i64 x]
def to6 (x:CborFrame):tyLs T (lfs 6):=(x.pairs,x.left,x.last_,())
def of6 (y:tyLs T (lfs 6)):CborFrame:=⟨y.1,y.2.1,y.2.2.1⟩
def eD6 (x:CborFrame):List D:=[.bool x.pairs,.int .i64 x.left,rnD 1 (x.last_.map eD0)]
def to7 (x:CborWalk):tyLs T (lfs 7):=(x.open_,x.count,())
def of7 (y:tyLs T (lfs 7)):CborWalk:=⟨y.1,y.2.1⟩
def eD7 (x:CborWalk):List D:=[.rs 3 (x.open_.map eD6),.int .i64 x.count]
def to8 (x:CborChecker):tyLs T (lfs 8):=(x.walk.open_,x.walk.count,())
def of8 (y:tyLs T (lfs 8)):CborChecker:=⟨⟨y.1,y.2.1⟩⟩
def eD8 (x:CborChecker):List D:=[.rs 3 (x.walk.open_.map eD6),.int .i64 x.walk.count]
def to9 (x:DigestState):tyLs T (lfs 9):=(x.v0,x.v1,x.v2,x.v3,())
def of9 (y:tyLs T (lfs 9)):DigestState:=⟨y.1,y.2.1,y.2.2.1,y.2.2.2.1⟩
def eD9 (x:DigestState):List D:=[.int .u64 x.v0.toNat,.int .u64 x.v1.toNat,.int .u64 x.v2.toNat,.int .u64 x.v3.toNat]
def to10 (x:List UInt8):tyLs T (lfs 10):=(x,())
def of10 (y:tyLs T (lfs 10)):List UInt8:=y.1
def eD10 (x:List UInt8):List D:=[.rs 1 (x.map eD0)]
def to11 (x:Arr8_UInt8):tyLs T (lfs 11):=(x.a0,x.a1,x.a2,x.a3,x.a4,x.a5,x.a6,x.a7,())
def of11 (y:tyLs T (lfs 11)):Arr8_UInt8:=⟨y.1,y.2.1,y.2.2.1,y.2.2.2.1,y.2.2.2.2.1,y.2.2.2.2.2.1,y.2.2.2.2.2.2.1,y.2.2.2.2.2.2.2.1⟩
def eD11 (x:Arr8_UInt8):List D:=[.int .u8 x.a0.toNat,.int .u8 x.a1.toNat,.int .u8 x.a2.toNat,.int .u8 x.a3.toNat,.int .u8 x.a4.toNat,.int .u8 x.a5.toNat,.int .u8 x.a6.toNat,.int .u8 x.a7.toNat]
def to12 (x:CborReader):tyLs T (lfs 12):=(x.walk.open_,x.walk.count,x.b,x.at_,())
def of12 (y:tyLs T (lfs 12)):CborReader:=⟨⟨y.1,y.2.1⟩,y.2.2.1,y.2.2.2.1⟩
def eD12 (x:CborReader):List D:=[.rs 3 (x.walk.open_.map eD6),.int .i64 x.walk.count,.rs 1 (x.b.map eD0),.int .i64 x.at_]
def to13 (x:List UInt8):tyLs T (lfs 13):=(x,())
def of13 (y:tyLs T (lfs 13)):List UInt8:=y.1
def eD13 (x:List UInt8):List D:=[.str x]
def to14 (x:Arr4_BitVec64):tyLs T (lfs 14):=(x.a0,x.a1,x.a2,x.a3,())
def of14 (y:tyLs T (lfs 14)):Arr4_BitVec64:=⟨y.1,y.2.1,y.2.2.1,y.2.2.2.1⟩
def eD14 (x:Arr4_BitVec64):List D:=[.int .u64 x.a0.toNat,.int .u64 x.a1.toNat,.int .u64 x.a2.toNat,.int .u64 x.a3.toNat]
def cd:Cd T where
  sz:=fun c=>match c with
    | 0=>1
    | 1=>3
    | 2=>9
    | 3=>1
    | 4=>1
    | 5=>1
    | 6=>3
    | 7=>2
    | 8=>2
    | 9=>4
    | 10=>1
    | 11=>8
    | 12=>4
    | 13=>1
    | 14=>4
    | _=>0
  encD:=fun c x=>match c,x with
    | 0,x=>eD0 x
    | 1,x=>eD1 x
    | 2,x=>eD2 x
    | 3,x=>eD3 x
    | 4,x=>eD4 x
    | 5,x=>eD5 x
    | 6,x=>eD6 x
    | 7,x=>eD7 x
    | 8,x=>eD8 x
    | 9,x=>eD9 x
    | 10,x=>eD10 x
    | 11,x=>eD11 x
    | 12,x=>eD12 x
    | 13,x=>eD13 x
    | 14,x=>eD14 x
    | _,_=>[]
  enc:=fun c x=>match c,x with
    | 0,x=>encL (lfs 0) (to0 x)
    | 1,x=>encL (lfs 1) (to1 x)
    | 2,x=>encL (lfs 2) (to2 x)
    | 3,x=>encL (lfs 3) (to3 x)
    | 4,x=>encL (lfs 4) (to4 x)
    | 5,x=>encL (lfs 5) (to5 x)
    | 6,x=>encL (lfs 6) (to6 x)
    | 7,x=>encL (lfs 7) (to7 x)
    | 8,x=>encL (lfs 8) (to8 x)
    | 9,x=>encL (lfs 9) (to9 x)
    | 10,x=>encL (lfs 10) (to10 x)
    | 11,x=>encL (lfs 11) (to11 x)
    | 12,x=>encL (lfs 12) (to12 x)
    | 13,x=>encL (lfs 13) (to13 x)
    | 14,x=>encL (lfs 14) (to14 x)
    | _,_=>[]
  dec:=fun c ds=>match c with
    | 0=>(decL (lfs 0) ds).map of0
    | 1=>(decL (lfs 1) ds).map of1
    | 2=>(decL (lfs 2) ds).map of2
    | 3=>(decL (lfs 3) ds).map of3
    | 4=>(decL (lfs 4) ds).map of4
    | 5=>(decL (lfs 5) ds).map of5
    | 6=>(decL (lfs 6) ds).map of6
    | 7=>(decL (lfs 7) ds).map of7
    | 8=>(decL (lfs 8) ds).map of8
    | 9=>(decL (lfs 9) ds).map of9
    | 10=>(decL (lfs 10) ds).map of10
    | 11=>(decL (lfs 11) ds).map of11
    | 12=>(decL (lfs 12) ds).map of12
    | 13=>(decL (lfs 13) ds).map of13
    | 14=>(decL (lfs 14) ds).map of14
    | _=>none
  bt:=0
  hb:=rfl
  rn:=fun c=>match c with
    | 6=>[false,false,true]
    | _=>[]
  im:=fun t=>match t with
    | 60=>true
    | _=>false
  la:=fun t=>match t with
    | 117=>some 0
    | _=>none
theorem cd_ok:CdOk cd where
  len:=fun c=>match c with
    | 0=>fun _=>rfl
    | 1=>fun _=>rfl
    | 2=>fun _=>rfl
    | 3=>fun _=>rfl
    | 4=>fun _=>rfl
    | 5=>fun _=>rfl
    | 6=>fun _=>rfl
    | 7=>fun _=>rfl
    | 8=>fun _=>rfl
    | 9=>fun _=>rfl
    | 10=>fun _=>rfl
    | 11=>fun _=>rfl
    | 12=>fun _=>rfl
    | 13=>fun _=>rfl
    | 14=>fun _=>rfl
    | _ + 15=>fun _=>rfl
  enc:=fun c=>match c with
    | 0=>fun _=>rfl
    | 1=>fun _=>rfl
    | 2=>fun _=>rfl
    | 3=>fun _=>rfl
    | 4=>fun _=>rfl
    | 5=>fun _=>rfl
    | 6=>fun _=>rfl
    | 7=>fun _=>rfl
    | 8=>fun _=>rfl
    | 9=>fun _=>rfl
    | 10=>fun _=>rfl
    | 11=>fun _=>rfl
    | 12=>fun _=>rfl
    | 13=>fun _=>rfl
    | 14=>fun _=>rfl
    | _ + 15=>fun _=>rfl
  epure:=fun c=>match c with
    | 0=>fun _=>rfl
    | 1=>fun _=>rfl
    | 2=>fun _=>rfl
    | 3=>fun _=>rfl
    | 4=>fun _=>rfl
    | 5=>fun _=>rfl
    | 6=>fun _=>rfl
    | 7=>fun _=>rfl
    | 8=>fun _=>rfl
    | 9=>fun _=>rfl
    | 10=>fun _=>rfl
    | 11=>fun _=>rfl
    | 12=>fun _=>rfl
    | 13=>fun _=>rfl
    | 14=>fun _=>rfl
    | _ + 15=>fun _=>rfl
  byte:=fun _=>rfl
  bsz:=rfl
  dec:=fun c=>match c with
    | 0=>fun ds x h=>dec_ok cd (c:=0) (lfs 0) (of:=of0) (e:=eD0) (fun _=>rfl) ds x h
    | 1=>fun ds x h=>dec_ok cd (c:=1) (lfs 1) (of:=of1) (e:=eD1) (fun _=>rfl) ds x h
    | 2=>fun ds x h=>dec_ok cd (c:=2) (lfs 2) (of:=of2) (e:=eD2) (fun _=>rfl) ds x h
    | 3=>fun ds x h=>dec_ok cd (c:=3) (lfs 3) (of:=of3) (e:=eD3) (fun _=>rfl) ds x h
    | 4=>fun ds x h=>dec_ok cd (c:=4) (lfs 4) (of:=of4) (e:=eD4) (fun _=>rfl) ds x h
    | 5=>fun ds x h=>dec_ok cd (c:=5) (lfs 5) (of:=of5) (e:=eD5) (fun _=>rfl) ds x h
    | 6=>fun ds x h=>dec_ok cd (c:=6) (lfs 6) (of:=of6) (e:=eD6) (fun _=>rfl) ds x h
    | 7=>fun ds x h=>dec_ok cd (c:=7) (lfs 7) (of:=of7) (e:=eD7) (fun _=>rfl) ds x h
    | 8=>fun ds x h=>dec_ok cd (c:=8) (lfs 8) (of:=of8) (e:=eD8) (fun _=>rfl) ds x h
    | 9=>fun ds x h=>dec_ok cd (c:=9) (lfs 9) (of:=of9) (e:=eD9) (fun _=>rfl) ds x h
    | 10=>fun ds x h=>dec_ok cd (c:=10) (lfs 10) (of:=of10) (e:=eD10) (fun _=>rfl) ds x h
    | 11=>fun ds x h=>dec_ok cd (c:=11) (lfs 11) (of:=of11) (e:=eD11) (fun _=>rfl) ds x h
    | 12=>fun ds x h=>dec_ok cd (c:=12) (lfs 12) (of:=of12) (e:=eD12) (fun _=>rfl) ds x h
    | 13=>fun ds x h=>dec_ok cd (c:=13) (lfs 13) (of:=of13) (e:=eD13) (fun _=>rfl) ds x h
    | 14=>fun ds x h=>dec_ok cd (c:=14) (lfs 14) (of:=of14) (e:=eD14) (fun _=>rfl) ds x h
    | _ + 15=>fun _ _ h=>by cases h
def ti3:TI:=⟨5,1,8,.int .i64,[.i .i64],[],[],none⟩
def ti4:TI:=⟨16,1,1,.bool,[.b],[],[],none⟩
def ti5:TI:=⟨0,1,1,.int .u8,[.i .u8],[],[],none⟩
def ti9:TI:=⟨13,1,16,.str,[.s],[],[],none⟩
def ti22:TI:=⟨3,1,8,.int .u64,[.i .u64],[],[],none⟩
def ti24:TI:=⟨2,9,88,.strct,[.s,.s,.s,.i .u64,.i .i64,.b,.i .i64,.b,.b],[some (0,9),some (1,9),some (2,9),some (3,22),some (4,3),some (5,4),some (6,3),some (7,4),some (8,4)],[(0,1),(1,1),(2,1),(3,1),(4,1),(5,1),(6,1),(7,1),(8,1)],some [2,2,2,3,3,1,3,1,1]⟩
def ti28:TI:=⟨10,1,24,.slice 5,[.ns],[],[],none⟩
def ti29:TI:=⟨16,1,8,.int .i64,[.i .i64],[],[],none⟩
def ti39:TI:=⟨16,1,8,.int .u64,[.i .u64],[],[],none⟩
def ti59:TI:=⟨16,1,24,.slice 9,[.ns],[],[],none⟩
def ti60:TI:=⟨16,1,24,.slice 22,[.ns],[],[],none⟩
def ti61:TI:=⟨4,1,24,.slice 71,[.ns],[],[],none⟩
def ti68:TI:=⟨16,1,24,.slice 61,[.ns],[],[],none⟩
def ti71:TI:=⟨1,3,32,.strct,[.i .i64,.i .u64,.s],[some (0,3),some (1,22),some (2,9)],[(0,1),(1,1),(2,1)],some [3,3,2]⟩
def ti91:TI:=⟨16,1,24,.slice 3,[.ns],[],[],none⟩
def ti105:TI:=⟨16,1,24,.slice 180,[.ns],[],[],none⟩
def ti107:TI:=⟨7,2,32,.strct,[.ns,.i .i64],[some (0,105),some (1,3)],[(0,1),(1,1)],none⟩
def ti109:TI:=⟨12,4,64,.strct,[.ns,.i .i64,.ns,.i .i64],[some (0,107),some (2,28),some (3,3)],[(0,2),(2,1),(3,1)],none⟩
def ti117:TI:=⟨11,8,8,.arr 8 5,[.i .u8,.i .u8,.i .u8,.i .u8,.i .u8,.i .u8,.i .u8,.i .u8],[],[],some [3,3,3,3,3,3,3,3]⟩
def ti136:TI:=⟨8,2,32,.strct,[.ns,.i .i64],[some (0,107)],[(0,2)],none⟩
def ti151:TI:=⟨14,4,32,.arr 4 22,[.i .u64,.i .u64,.i .u64,.i .u64],[],[],some [3,3,3,3]⟩
def ti153:TI:=⟨16,1,24,.slice 28,[.ns],[],[],none⟩
def ti156:TI:=⟨9,4,32,.strct,[.i .u64,.i .u64,.i .u64,.i .u64],[some (0,22),some (1,22),some (2,22),some (3,22)],[(0,1),(1,1),(2,1),(3,1)],some [3,3,3,3]⟩
def ti180:TI:=⟨6,3,40,.strct,[.b,.i .i64,.ns],[some (0,4),some (1,3),some (2,28)],[(0,1),(1,1),(2,1)],none⟩
def ti184:TI:=⟨16,3,48,.strct,[.s,.i .i64,.ns],[some (0,9),some (1,3),some (2,61)],[(0,1),(1,1),(2,1)],none⟩
def tab:Tr:=.node (.node (.node (.node (.node .leaf 3 ti3 .leaf) 4 ti4 (.node .leaf 5 ti5 .leaf)) 9 ti9 (.node (.node .leaf 22 ti22 .leaf) 24 ti24 .leaf)) 28 ti28 (.node (.node (.node .leaf 29 ti29 .leaf) 39 ti39 .leaf) 59 ti59 (.node (.node .leaf 60 ti60 .leaf) 61 ti61 .leaf))) 68 ti68 (.node (.node (.node (.node .leaf 71 ti71 .leaf) 91 ti91 (.node .leaf 105 ti105 .leaf)) 107 ti107 (.node (.node .leaf 109 ti109 .leaf) 117 ti117 .leaf)) 136 ti136 (.node (.node (.node .leaf 151 ti151 .leaf) 153 ti153 .leaf) 156 ti156 (.node (.node .leaf 180 ti180 .leaf) 184 ti184 .leaf)))
def globs:Nat → Option (List (DT T)):=fun g=>match g with
  | 0=>some (Lib.firstTab.map fun z=>DT.int .u8 z)
  | 1=>some (((List.range 16).flatMap fun i=>[((Lib.accLo i:Nat):Int),((Lib.accHi i:Nat):Int)]).map fun z=>DT.int .u8 z)
  | _=>none
def flc:Nat → Bool:=fun c=>match c with
  | 0=>true
  | 1=>true
  | 2=>true
  | 3=>true
  | 4=>false
  | 5=>true
  | 6=>false
  | 7=>false
  | 8=>false
  | 9=>true
  | 10=>false
  | 11=>true
  | 12=>false
  | 13=>true
  | 14=>true
  | _=>false
theorem hmix:Tryz.prog.follows .mixedOrders=true:=by kernel_rfl
theorem tys:TysOk Tryz.prog tab.find:=tys_ok (by kernel_rfl)
abbrev gdn:Nat → Option (List D):=fun g=>(globs g).map (denL cd)
theorem fl_ok:FlOk cd flc:=fun c=>match c with
  | 0=>fun h _=>rfl
  | 1=>fun h _=>rfl
  | 2=>fun h _=>rfl
  | 3=>fun h _=>rfl
  | 4=>fun h _=>by cases h
  | 5=>fun h _=>rfl
  | 6=>fun h _=>by cases h
  | 7=>fun h _=>by cases h
  | 8=>fun h _=>by cases h
  | 9=>fun h _=>rfl
  | 10=>fun h _=>by cases h
  | 11=>fun h _=>rfl
  | 12=>fun h _=>by cases h
  | 13=>fun h _=>rfl
  | 14=>fun h _=>rfl
  | _ + 15=>fun h _=>by cases h
theorem row_lt {w:World} {b:Nat} (h:0 < rowSize w b):b < w.heap.size:=by
  unfold rowSize at h
  cases hh:w.heap[b]? with
  | none=>rw [hh] at h; cases h
  | some o=>exact (Array.getElem?_eq_some_iff.1 hh).1
def accTab:List Int:=(List.range 16).flatMap fun i=>[Lib.accLo i,Lib.accHi i]
theorem gdn0:gdn 0=some (tabD .u8 Lib.firstTab):=by
  show some (denL cd _)=_
  rw [denL_map]
  simp [tabD,den,Function.comp_def]
theorem gdn1:gdn 1=some (tabD .u8 accTab):=by
  show some (denL cd _)=_
  rw [denL_map]
  simp [tabD,den,Function.comp_def,accTab]
theorem acc_lo:∀ i:Fin 16,accTab[2 * i.val]? = some ((Lib.accLo i.val:Nat):Int):=by decide
theorem acc_hi:∀ i:Fin 16,accTab[2 * i.val + 1]? = some ((Lib.accHi i.val:Nat):Int):=by decide
theorem tabs_of {I:Nat → Prop} {w:World} (h:Glob gdn I w):Lib.Utf8Tabs 0 1 w:=by
  refine ⟨fun c hc=>glob_tab (h 0 _ gdn0).2.1 (by simp [Lib.firstTab,hc]),fun i hi=>⟨?_,?_⟩⟩
  · exact glob_tab (h 1 _ gdn1).2.1 (acc_lo ⟨i,hi⟩)
  · exact glob_tab (h 1 _ gdn1).2.1 (acc_hi ⟨i,hi⟩)
theorem glob_of {w:World} (h:Lib.Utf8Tabs 0 1 w) (h0:rowSize w 0=256) (h1:rowSize w 1=32):Glob gdn (All w) w:=by
  intro g cs e
  match g,e with
  | 0,e=>
    rw [gdn0] at e; cases e
    refine ⟨row_lt (by omega),tab_glob fun i n hn=>?_,by rw [h0]; simp [tabD,Lib.firstTab]⟩
    have hi:i < 256:=by
      have:=(List.getElem?_eq_some_iff.1 hn).1
      simpa [Lib.firstTab] using this
    have e2:Lib.firstTab[i]? = some ((Lib.firstT i:Nat):Int):=by simp [Lib.firstTab,hi]
    rw [hn] at e2; cases e2
    exact h.1 i hi
  | 1,e=>
    rw [gdn1] at e; cases e
    refine ⟨row_lt (by omega),tab_glob fun i n hn=>?_,by rw [h1]; decide⟩
    have hi:i < 32:=by
      have:=(List.getElem?_eq_some_iff.1 hn).1
      have e:accTab.length=32:=by decide
      omega
    rcases Nat.mod_two_eq_zero_or_one i with hm | hm
    · have e3:i=2 * (i / 2):=by omega
      have e2:=acc_lo ⟨i / 2,by omega⟩
      simp only at e2
      rw [← e3,hn] at e2; cases e2
      have:=(h.2 (i / 2) (by omega)).1
      rwa [← e3] at this
    · have e3:i=2 * (i / 2) + 1:=by omega
      have e2:=acc_hi ⟨i / 2,by omega⟩
      simp only at e2
      rw [← e3,hn] at e2; cases e2
      have:=(h.2 (i / 2) (by omega)).2
      rwa [← e3] at this
  | n + 2,e=>cases e
def Zcg (a0:List UInt8):Option (Unit × (Bool × Unit)):=bif decide (a0.length ≤ 9223372036854775807) then some ((),Lib.validD a0,()) else none
def S_Zcg:FSpec T:=⟨[.f (.v .str)],[.v .bool],fun x=>Zcg x.1⟩
theorem Zcg_ok:SoundT Tryz.prog cd gdn 49 S_Zcg:=by
  refine sound_below (vts:=[.str]) (rts:=[.bool]) ⟨_,Tryz.func49,by kernel_rfl,by kernel_rfl⟩ fun I own w args x r hG hv hF=>?_
  obtain ⟨v,vr,_,_,rfl,h1,rfl,_⟩:=hv
  change V I w (.str x.1) free v at h1
  simp only [V] at h1
  subst h1
  change Zcg x.1=some r at hF
  unfold Zcg at hF
  by_cases hs:x.1.length ≤ 9223372036854775807
  · simp only [hs,decide_true,cond_true] at hF
    have hr:=Option.some.inj hF
    subst hr
    refine ⟨[.bool (Lib.validD x.1)],fun I' w'=>⟨_,_,none',none',rfl,(show V I' w' (.bool (Lib.validD x.1)) free _ by simp [V]),rfl,fun _ h=>h,fun _ h=>h,fun _ h=>h.elim⟩,?_⟩
    exact (Any.utf8_ValidString Tryz.lays196 ⟨x.1.toArray⟩ w (by rw [show ByteArray.size ⟨List.toArray x.1⟩=List.length x.1 from List.size_toArray]; exact hs) (tabs_of hG)).mono fun e w' h=>⟨h.1,h.2⟩
  · simp [hs] at hF
theorem bytesOf_rs {I:Nat → Prop} {w:World} {l:List UInt8} {v:Value} (h:V I w (.rs 1 (l.map byteD)) free v):(Extern.Bytes.bytesOf v).run Tryz.prog w = .ok ⟨l.toArray⟩ w:=by
  simp only [V] at h
  rcases h with ⟨hl,p,cap,rfl⟩ | ⟨b,o,cap,rfl,hcap,hIb,hvr⟩
  · have:l=[]:=List.map_eq_nil_iff.1 hl
    subst this
    cases p <;> rfl
  · have:=Lib.run_loadBytesX (P:=Tryz.prog) w (l.map fun c=>(c.toNat:Int)) ⟨b,o,none⟩ .empty (fun j x hj=>by
      rw [List.getElem?_map] at hj
      obtain ⟨c,hc,rfl⟩:=Option.map_eq_some_iff.1 hj
      rw [← VR_bytes hvr hc,Addr.add_lit])
    have e:Lib.bytesOf (l.map fun c=>(c.toNat:Int))=l:=by
      unfold Lib.bytesOf
      rw [List.map_map]
      conv=>rhs; rw [← List.map_id l]
      apply List.map_congr_left
      intro c _
      simp
    rw [e] at this
    simp only [Extern.Bytes.bytesOf,List.length_map] at this ⊢
    rw [this]
    simp
theorem Zcq_calls (v1 v2:Value) (a b:List UInt8) (w:World) (h1:(Extern.Bytes.bytesOf v1).run Tryz.prog w = .ok ⟨a.toArray⟩ w) (h2:(Extern.Bytes.bytesOf v2).run Tryz.prog w = .ok ⟨b.toArray⟩ w):Calls Tryz.prog 171 #[v1,v2] w fun e w'=>e = .returned (.int .i64 (Lib.compareBytes a b)) ∧ w'=w:=by
  have hx:∀ w',w'=w → (callFunc 174 #[v1,v2]).run Tryz.prog w' = .ok (.value (.int .i64 (Lib.compareBytes a b))) w':=by
    intro w' e
    subst e
    rw [run_callFunc_extern Tryz.func174 (by kernel_rfl) (by kernel_rfl) (by kernel_rfl) (e:=Extern.BytealgCompare.compare) (by kernel_rfl)]
    change Result.andThen (Sem.run Tryz.prog (do pure (goInt (Extern.BytealgCompare.cmp (← Extern.Bytes.bytesOf v1) (← Extern.Bytes.bytesOf v2)))) w') _=_
    simp only [Sem.run_bind,h1,h2,Sem.run_pure,Result.andThen]
    rw [Lib.cmp_eq]
    rfl
  go_enter Tryz.func171,Tryz.ntmps171
  go_wp2
  go_ret
  exact ⟨rfl,rfl⟩
def Zcq (a0 a1:List UInt8):Option (Unit × (Int × Unit)):=some ((),Lib.compareBytes a0 a1,())
def S_Zcq:FSpec T:=⟨[.f (.v (.rs 0)),.f (.v (.rs 0))],[.v (.int .i64)],fun x=>Zcq x.1 x.2.1⟩
theorem Zcq_ok:SoundT Tryz.prog cd gdn 171 S_Zcq:=by
  refine sound_below (vts:=[.rs 0,.rs 0]) (rts:=[.int .i64]) ⟨_,Tryz.func171,by kernel_rfl,by kernel_rfl⟩ fun I own w args x r hG hv hF=>?_
  obtain ⟨v,vr,_,_,rfl,h1,⟨v2,vr2,_,_,rfl,h2,rfl,_⟩,_⟩:=hv
  change V I w (.rs 1 (List.map byteD x.1)) free v at h1
  change V I w (.rs 1 (List.map byteD x.2.1)) free v2 at h2
  change Zcq x.1 x.2.1=some r at hF
  unfold Zcq at hF
  have hr:=Option.some.inj hF
  subst hr
  refine ⟨[.int .i64 (Lib.compareBytes x.1 x.2.1)],fun I' w'=>⟨_,_,none',none',rfl,(show V I' w' (.int .i64 (Lib.compareBytes x.1 x.2.1)) free _ by simp [V]),rfl,fun _ h=>h,fun _ h=>h,fun _ h=>h.elim⟩,?_⟩
  refine (Zcq_calls _ _ _ _ w (bytesOf_rs h1) (bytesOf_rs h2)).mono fun e w' h=>?_
  obtain ⟨rfl,rfl⟩:=h
  exact ⟨rfl,RowKit.Below.refl _ _⟩
def Zcz (a0:List ApiItem):Option (Unit × (List ApiItem × Unit)):=bif decide (a0.length ≤ 1000000) then some ((),a0,()) else none
def S_Zcz:FSpec T:=⟨[.f (.v (.rs 1))],[.own 1],fun x=>Zcz x.1⟩
theorem Zcz_ok:SoundT Tryz.prog cd gdn 118 S_Zcz:=by
  refine sound_cloneE (C:=cd) (c:=1) (te:=71) (F:=fun x=>Zcz x.1) (by decide) ⟨_,Tryz.func118,by kernel_rfl,by kernel_rfl⟩ (fun x r h=>?_) (fun n c w=>AnyE.slices_Clone_nil Tryz.laysCl n c w) (fun a n c news w h1 h2 h3 h4=>?_)
  · change Zcz x.1=some r at h
    unfold Zcz at h
    by_cases hs:List.length x.1 ≤ 1000000
    · simp only [hs,decide_true,cond_true] at h
      have hr:=Option.some.inj h
      subst hr
      exact ⟨rfl,hs⟩
    · simp [hs] at h
  · have hi:((Tryz.prog.info? 71).bind fun i=>i.zero.bind fun z=>some (i.size,i.bytes,z.cells.size))=some (3,32,3):=by kernel_rfl
    cases hq:Tryz.prog.info? 71 with
    | none=>rw [hq] at hi; cases hi
    | some i0=>
    rw [hq] at hi
    cases hz:i0.zero with
    | none=>rw [Option.bind_some,hz] at hi; cases hi
    | some z=>
    rw [Option.bind_some,hz,Option.bind_some] at hi
    obtain ⟨e1,e2,e3⟩:i0.size=3 ∧ i0.bytes=32 ∧ z.cells.size=3:=by
      have:=Option.some.inj hi
      simpa using this
    exact clone_at Tryz.laysCl i0 z 3 32 hq hz e1 e2 e3 (by decide) Tryz.sizeOf71 a n c news w h1 (by unfold maxLen; omega) (by omega) h3 h4
def Zbo (a0:Int) (a1:Int) (a2:Int):Option ((Unit) × (Bool × Unit)):=
 (bif (decide (a1 ≤ a0)) then (some ((),((decide (a0 ≤ a2)),())))
 else (some ((),(false,()))))
def S_Zbo:FSpec T:=⟨[.f (.v (.int .i64)),.f (.v (.int .i64)),.f (.v (.int .i64))],[(.v .bool)],fun x=>Zbo x.1 x.2.1 x.2.2.1⟩
def E_Zbo:Env T:=⟨tab.find,cd,globs,flc,fun f ds=>match f with
    | _=>none,fun f=>match f with
    | _=>false⟩
def A_Zbo:Loc2 T:=⟨fun id=>match id with
    | _=>none,fun r=>match r with
    | _=>none,fun r=>match r with
    | _=>false⟩
theorem Zbo_eq (x:tySs T S_Zbo.ps):run E_Zbo A_Zbo (Tryz.f48.body.getD .skip) (enterT E_Zbo.C S_Zbo.ps x) (retK E_Zbo Tryz.f48.results.toList S_Zbo.ps S_Zbo.rs)=S_Zbo.fn x:=by kernel_rfl
theorem Zbo_env:EnvOk Tryz.prog E_Zbo:=envOk (E:=E_Zbo) cd_ok tys fl_ok fun f ds S h=>by cases h
theorem Zbo_ok:SoundT Tryz.prog cd gdn 48 S_Zbo:=
  sound_fn (E:=E_Zbo) (A:=A_Zbo) (done:=[]) (c:=(Tryz.f48.body.getD .skip)) (S:=S_Zbo) (fn:=Tryz.f48) hmix Zbo_env Tryz.func48 rfl (by kernel_rfl) (by kernel_rfl) done_nil (by kernel_rfl) (by kernel_rfl) Zbo_eq
def Zau (a0:ApiCredential):Option ((Unit) × (Int × Unit)):=
 ((Zbo ((a0.rP).length:Int) (1:Int) (64:Int)).bind fun r1=>(bif (!r1.2.1) then (bif (!r1.2.1) then (some ((),((9:Int),())))
 else ((Zcg a0.rP).bind fun r2=>(bif (!r2.2.1) then (bif (!r2.2.1) then (some ((),((6:Int),())))
 else (bif a0.shared then (bif (!a0.resident) then (bif (!a0.resident) then (some ((),((18:Int),())))
 else (some ((),((0:Int),()))))
 else (bif a0.backed then (bif (!a0.shared) then (some ((),((18:Int),())))
 else (some ((),((0:Int),()))))
 else (some ((),((0:Int),())))))
 else (bif a0.backed then (bif (!a0.shared) then (some ((),((18:Int),())))
 else (some ((),((0:Int),()))))
 else (some ((),((0:Int),()))))))
 else ((Zcg a0.name).bind fun r3=>(bif (!r3.2.1) then (some ((),((6:Int),())))
 else (bif a0.shared then (bif (!a0.resident) then (bif (!a0.resident) then (some ((),((18:Int),())))
 else (some ((),((0:Int),()))))
 else (bif a0.backed then (bif (!a0.shared) then (some ((),((18:Int),())))
 else (some ((),((0:Int),()))))
 else (some ((),((0:Int),())))))
 else (bif a0.backed then (bif (!a0.shared) then (some ((),((18:Int),())))
 else (some ((),((0:Int),()))))
 else (some ((),((0:Int),()))))))))))
 else ((Zbo ((a0.user).length:Int) (1:Int) (16:Int)).bind fun r4=>(bif (!r4.2.1) then (bif (!r4.2.1) then (some ((),((9:Int),())))
 else ((Zcg a0.rP).bind fun r5=>(bif (!r5.2.1) then (bif (!r5.2.1) then (some ((),((6:Int),())))
 else (bif a0.shared then (bif (!a0.resident) then (bif (!a0.resident) then (some ((),((18:Int),())))
 else (some ((),((0:Int),()))))
 else (bif a0.backed then (bif (!a0.shared) then (some ((),((18:Int),())))
 else (some ((),((0:Int),()))))
 else (some ((),((0:Int),())))))
 else (bif a0.backed then (bif (!a0.shared) then (some ((),((18:Int),())))
 else (some ((),((0:Int),()))))
 else (some ((),((0:Int),()))))))
 else ((Zcg a0.name).bind fun r6=>(bif (!r6.2.1) then (some ((),((6:Int),())))
 else (bif a0.shared then (bif (!a0.resident) then (bif (!a0.resident) then (some ((),((18:Int),())))
 else (some ((),((0:Int),()))))
 else (bif a0.backed then (bif (!a0.shared) then (some ((),((18:Int),())))
 else (some ((),((0:Int),()))))
 else (some ((),((0:Int),())))))
 else (bif a0.backed then (bif (!a0.shared) then (some ((),((18:Int),())))
 else (some ((),((0:Int),()))))
 else (some ((),((0:Int),()))))))))))
 else (bif (decide ((32:Int) < ((a0.name).length:Int))) then (bif (decide ((32:Int) < ((a0.name).length:Int))) then (some ((),((9:Int),())))
 else ((Zcg a0.rP).bind fun r7=>(bif (!r7.2.1) then (bif (!r7.2.1) then (some ((),((6:Int),())))
 else (bif a0.shared then (bif (!a0.resident) then (bif (!a0.resident) then (some ((),((18:Int),())))
 else (some ((),((0:Int),()))))
 else (bif a0.backed then (bif (!a0.shared) then (some ((),((18:Int),())))
 else (some ((),((0:Int),()))))
 else (some ((),((0:Int),())))))
 else (bif a0.backed then (bif (!a0.shared) then (some ((),((18:Int),())))
 else (some ((),((0:Int),()))))
 else (some ((),((0:Int),()))))))
 else ((Zcg a0.name).bind fun r8=>(bif (!r8.2.1) then (some ((),((6:Int),())))
 else (bif a0.shared then (bif (!a0.resident) then (bif (!a0.resident) then (some ((),((18:Int),())))
 else (some ((),((0:Int),()))))
 else (bif a0.backed then (bif (!a0.shared) then (some ((),((18:Int),())))
 else (some ((),((0:Int),()))))
 else (some ((),((0:Int),())))))
 else (bif a0.backed then (bif (!a0.shared) then (some ((),((18:Int),())))
 else (some ((),((0:Int),()))))
 else (some ((),((0:Int),()))))))))))
 else ((Zbo a0.height (1:Int) (4:Int)).bind fun r9=>(bif (!r9.2.1) then (bif (!r9.2.1) then (some ((),((9:Int),())))
 else ((Zcg a0.rP).bind fun r10=>(bif (!r10.2.1) then (bif (!r10.2.1) then (some ((),((6:Int),())))
 else (bif a0.shared then (bif (!a0.resident) then (bif (!a0.resident) then (some ((),((18:Int),())))
 else (some ((),((0:Int),()))))
 else (bif a0.backed then (bif (!a0.shared) then (some ((),((18:Int),())))
 else (some ((),((0:Int),()))))
 else (some ((),((0:Int),())))))
 else (bif a0.backed then (bif (!a0.shared) then (some ((),((18:Int),())))
 else (some ((),((0:Int),()))))
 else (some ((),((0:Int),()))))))
 else ((Zcg a0.name).bind fun r11=>(bif (!r11.2.1) then (some ((),((6:Int),())))
 else (bif a0.shared then (bif (!a0.resident) then (bif (!a0.resident) then (some ((),((18:Int),())))
 else (some ((),((0:Int),()))))
 else (bif a0.backed then (bif (!a0.shared) then (some ((),((18:Int),())))
 else (some ((),((0:Int),()))))
 else (some ((),((0:Int),())))))
 else (bif a0.backed then (bif (!a0.shared) then (some ((),((18:Int),())))
 else (some ((),((0:Int),()))))
 else (some ((),((0:Int),()))))))))))
 else ((Zbo a0.protect (1:Int) (3:Int)).bind fun r12=>(bif (!r12.2.1) then (some ((),((9:Int),())))
 else ((Zcg a0.rP).bind fun r13=>(bif (!r13.2.1) then (bif (!r13.2.1) then (some ((),((6:Int),())))
 else (bif a0.shared then (bif (!a0.resident) then (bif (!a0.resident) then (some ((),((18:Int),())))
 else (some ((),((0:Int),()))))
 else (bif a0.backed then (bif (!a0.shared) then (some ((),((18:Int),())))
 else (some ((),((0:Int),()))))
 else (some ((),((0:Int),())))))
 else (bif a0.backed then (bif (!a0.shared) then (some ((),((18:Int),())))
 else (some ((),((0:Int),()))))
 else (some ((),((0:Int),()))))))
 else ((Zcg a0.name).bind fun r14=>(bif (!r14.2.1) then (some ((),((6:Int),())))
 else (bif a0.shared then (bif (!a0.resident) then (bif (!a0.resident) then (some ((),((18:Int),())))
 else (some ((),((0:Int),()))))
 else (bif a0.backed then (bif (!a0.shared) then (some ((),((18:Int),())))
 else (some ((),((0:Int),()))))
 else (some ((),((0:Int),())))))
 else (bif a0.backed then (bif (!a0.shared) then (some ((),((18:Int),())))
 else (some ((),((0:Int),()))))
 else (some ((),((0:Int),()))))))))))))))))))
def S_Zau:FSpec T:=⟨[.f (.v (.agg 2))],[(.v (.int .i64))],fun x=>Zau x.1⟩
def E_Zau:Env T:=⟨tab.find,cd,globs,flc,fun f ds=>match f with
    | 48=>some S_Zbo
    | 49=>some S_Zcg
    | _=>none,fun f=>match f with
    | 48=>true
    | 49=>true
    | _=>false⟩
def A_Zau:Loc2 T:=⟨fun id=>match id with
    | _=>none,fun r=>match r with
    | _=>none,fun r=>match r with
    | _=>false⟩
theorem Zau_eq (x:tySs T S_Zau.ps):run E_Zau A_Zau (Tryz.f14.body.getD .skip) (enterT E_Zau.C S_Zau.ps x) (retK E_Zau Tryz.f14.results.toList S_Zau.ps S_Zau.rs)=S_Zau.fn x:=by kernel_rfl
theorem Zau_env:EnvOk Tryz.prog E_Zau:=envOk (E:=E_Zau) cd_ok tys fl_ok fun f ds S h=>by
    dsimp only [E_Zau] at h
    split at h
    · cases h; exact Zbo_ok
    · cases h; exact Zcg_ok
    · cases h
theorem Zau_ok:SoundT Tryz.prog cd gdn 14 S_Zau:=
  sound_fn (E:=E_Zau) (A:=A_Zau) (done:=[]) (c:=(Tryz.f14.body.getD .skip)) (S:=S_Zau) (fn:=Tryz.f14) hmix Zau_env Tryz.func14 rfl (by kernel_rfl) (by kernel_rfl) done_nil (by kernel_rfl) (by kernel_rfl) Zau_eq
def Zdp (a0:(List UInt8)):Option ((Unit) × ((List (ApiItem)) × Unit)):=
 (some ((),(([(⟨(4:Int),0#64,a0⟩:ApiItem)]:List (ApiItem)),())))
def S_Zdp:FSpec T:=⟨[.f (.v .str)],[(.own 1)],fun x=>Zdp x.1⟩
def E_Zdp:Env T:=⟨tab.find,cd,globs,flc,fun f ds=>match f with
    | _=>none,fun f=>match f with
    | _=>false⟩
def A_Zdp:Loc2 T:=⟨fun id=>match id with
    | _=>none,fun r=>match r with
    | _=>none,fun r=>match r with
    | _=>false⟩
theorem Zdp_eq (x:tySs T S_Zdp.ps):run E_Zdp A_Zdp (Tryz.f38.body.getD .skip) (enterT E_Zdp.C S_Zdp.ps x) (retK E_Zdp Tryz.f38.results.toList S_Zdp.ps S_Zdp.rs)=S_Zdp.fn x:=by kernel_rfl
theorem Zdp_env:EnvOk Tryz.prog E_Zdp:=envOk (E:=E_Zdp) cd_ok tys fl_ok fun f ds S h=>by cases h
theorem Zdp_ok:SoundT Tryz.prog cd gdn 38 S_Zdp:=
  sound_fn (E:=E_Zdp) (A:=A_Zdp) (done:=[]) (c:=(Tryz.f38.body.getD .skip)) (S:=S_Zdp) (fn:=Tryz.f38) hmix Zdp_env Tryz.func38 rfl (by kernel_rfl) (by kernel_rfl) done_nil (by kernel_rfl) (by kernel_rfl) Zdp_eq
def Zdj (a0:(List (UInt8))):Option ((Unit) × ((List (ApiItem)) × Unit)):=
 (some ((),(([(⟨(3:Int),0#64,a0⟩:ApiItem)]:List (ApiItem)),())))
def S_Zdj:FSpec T:=⟨[.f (.v (.rs 0))],[(.own 1)],fun x=>Zdj x.1⟩
def E_Zdj:Env T:=⟨tab.find,cd,globs,flc,fun f ds=>match f with
    | _=>none,fun f=>match f with
    | _=>false⟩
def A_Zdj:Loc2 T:=⟨fun id=>match id with
    | _=>none,fun r=>match r with
    | _=>none,fun r=>match r with
    | _=>false⟩
theorem Zdj_eq (x:tySs T S_Zdj.ps):run E_Zdj A_Zdj (Tryz.f39.body.getD .skip) (enterT E_Zdj.C S_Zdj.ps x) (retK E_Zdj Tryz.f39.results.toList S_Zdj.ps S_Zdj.rs)=S_Zdj.fn x:=by kernel_rfl
theorem Zdj_env:EnvOk Tryz.prog E_Zdj:=envOk (E:=E_Zdj) cd_ok tys fl_ok fun f ds S h=>by cases h
theorem Zdj_ok:SoundT Tryz.prog cd gdn 39 S_Zdj:=
  sound_fn (E:=E_Zdj) (A:=A_Zdj) (done:=[]) (c:=(Tryz.f39.body.getD .skip)) (S:=S_Zdj) (fn:=Tryz.f39) hmix Zdj_env Tryz.func39 rfl (by kernel_rfl) (by kernel_rfl) done_nil (by kernel_rfl) (by kernel_rfl) Zdj_eq
def Zdq (a0:(BitVec 64)):Option ((Unit) × ((List (ApiItem)) × Unit)):=
 (let v1:List (ApiItem):=([(⟨(1:Int),a0,([]:List UInt8)⟩:ApiItem)]:List (ApiItem))
 (some ((),(v1,()))))
def S_Zdq:FSpec T:=⟨[.f (.v .u64)],[(.own 1)],fun x=>Zdq x.1⟩
def E_Zdq:Env T:=⟨tab.find,cd,globs,flc,fun f ds=>match f with
    | _=>none,fun f=>match f with
    | _=>false⟩
def A_Zdq:Loc2 T:=⟨fun id=>match id with
    | _=>none,fun r=>match r with
    | _=>none,fun r=>match r with
    | _=>false⟩
theorem Zdq_eq (x:tySs T S_Zdq.ps):run E_Zdq A_Zdq (Tryz.f40.body.getD .skip) (enterT E_Zdq.C S_Zdq.ps x) (retK E_Zdq Tryz.f40.results.toList S_Zdq.ps S_Zdq.rs)=S_Zdq.fn x:=by kernel_rfl
theorem Zdq_env:EnvOk Tryz.prog E_Zdq:=envOk (E:=E_Zdq) cd_ok tys fl_ok fun f ds S h=>by cases h
theorem Zdq_ok:SoundT Tryz.prog cd gdn 40 S_Zdq:=
  sound_fn (E:=E_Zdq) (A:=A_Zdq) (done:=[]) (c:=(Tryz.f40.body.getD .skip)) (S:=S_Zdq) (fn:=Tryz.f40) hmix Zdq_env Tryz.func40 rfl (by kernel_rfl) (by kernel_rfl) done_nil (by kernel_rfl) (by kernel_rfl) Zdq_eq
def Zdo (a0:Bool):Option ((Unit) × ((List (ApiItem)) × Unit)):=
 (bif a0 then (let v1:List (ApiItem):=([(⟨(7:Int),1#64,([]:List UInt8)⟩:ApiItem)]:List (ApiItem))
 (some ((),(v1,()))))
 else (let v2:List (ApiItem):=([(⟨(7:Int),0#64,([]:List UInt8)⟩:ApiItem)]:List (ApiItem))
 (some ((),(v2,())))))
def S_Zdo:FSpec T:=⟨[.f (.v .bool)],[(.own 1)],fun x=>Zdo x.1⟩
def E_Zdo:Env T:=⟨tab.find,cd,globs,flc,fun f ds=>match f with
    | _=>none,fun f=>match f with
    | _=>false⟩
def A_Zdo:Loc2 T:=⟨fun id=>match id with
    | _=>none,fun r=>match r with
    | _=>none,fun r=>match r with
    | _=>false⟩
theorem Zdo_eq (x:tySs T S_Zdo.ps):run E_Zdo A_Zdo (Tryz.f41.body.getD .skip) (enterT E_Zdo.C S_Zdo.ps x) (retK E_Zdo Tryz.f41.results.toList S_Zdo.ps S_Zdo.rs)=S_Zdo.fn x:=by kernel_rfl
theorem Zdo_env:EnvOk Tryz.prog E_Zdo:=envOk (E:=E_Zdo) cd_ok tys fl_ok fun f ds S h=>by cases h
theorem Zdo_ok:SoundT Tryz.prog cd gdn 41 S_Zdo:=
  sound_fn (E:=E_Zdo) (A:=A_Zdo) (done:=[]) (c:=(Tryz.f41.body.getD .skip)) (S:=S_Zdo) (fn:=Tryz.f41) hmix Zdo_env Tryz.func41 rfl (by kernel_rfl) (by kernel_rfl) done_nil (by kernel_rfl) (by kernel_rfl) Zdo_eq
def Zcm (a0:(BitVec 64)):Option ((Unit) × (Int × Unit)):=
 ((bif (decide ((4294967296#64).toNat ≤ a0.toNat)) then (some ((a0 >>> 32),(32:Int),()))
 else (some (a0,(0:Int),()))).bind (fun (j1:((BitVec 64) × Int × Unit))=>((bif (decide ((65536#64).toNat ≤ j1.1.toNat)) then (some ((j1.1 >>> 16),(IntKind.wrap .i64 (j1.2.1 + (16:Int))),()))
 else (some (j1.1,j1.2.1,()))).bind (fun (j2:((BitVec 64) × Int × Unit))=>(bif (decide ((256#64).toNat ≤ j2.1.toNat)) then (((([0,1,2,2,3,3,3,3,4,4,4,4,4,4,4,4,5,5,5,5,5,5,5,5,5,5,5,5,5,5,5,5,6,6,6,6,6,6,6,6,6,6,6,6,6,6,6,6,6,6,6,6,6,6,6,6,6,6,6,6,6,6,6,6,7,7,7,7,7,7,7,7,7,7,7,7,7,7,7,7,7,7,7,7,7,7,7,7,7,7,7,7,7,7,7,7,7,7,7,7,7,7,7,7,7,7,7,7,7,7,7,7,7,7,7,7,7,7,7,7,7,7,7,7,7,7,7,7,8,8,8,8,8,8,8,8,8,8,8,8,8,8,8,8,8,8,8,8,8,8,8,8,8,8,8,8,8,8,8,8,8,8,8,8,8,8,8,8,8,8,8,8,8,8,8,8,8,8,8,8,8,8,8,8,8,8,8,8,8,8,8,8,8,8,8,8,8,8,8,8,8,8,8,8,8,8,8,8,8,8,8,8,8,8,8,8,8,8,8,8,8,8,8,8,8,8,8,8,8,8,8,8,8,8,8,8,8,8,8,8,8,8,8,8,8,8,8,8,8,8,8,8,8,8,8,8]:List UInt8))[(UInt8.ofBitVec (BitVec.setWidth 8 (j2.1 >>> 8))).toNat]?).bind fun x3=>(let v4:Int:=(IntKind.wrap .i64 ((IntKind.wrap .i64 (j2.2.1 + (8:Int))) + (x3.toBitVec.toNat:Int)))
 (some ((),(v4,())))))
 else (((([0,1,2,2,3,3,3,3,4,4,4,4,4,4,4,4,5,5,5,5,5,5,5,5,5,5,5,5,5,5,5,5,6,6,6,6,6,6,6,6,6,6,6,6,6,6,6,6,6,6,6,6,6,6,6,6,6,6,6,6,6,6,6,6,7,7,7,7,7,7,7,7,7,7,7,7,7,7,7,7,7,7,7,7,7,7,7,7,7,7,7,7,7,7,7,7,7,7,7,7,7,7,7,7,7,7,7,7,7,7,7,7,7,7,7,7,7,7,7,7,7,7,7,7,7,7,7,7,8,8,8,8,8,8,8,8,8,8,8,8,8,8,8,8,8,8,8,8,8,8,8,8,8,8,8,8,8,8,8,8,8,8,8,8,8,8,8,8,8,8,8,8,8,8,8,8,8,8,8,8,8,8,8,8,8,8,8,8,8,8,8,8,8,8,8,8,8,8,8,8,8,8,8,8,8,8,8,8,8,8,8,8,8,8,8,8,8,8,8,8,8,8,8,8,8,8,8,8,8,8,8,8,8,8,8,8,8,8,8,8,8,8,8,8,8,8,8,8,8,8,8,8,8,8,8,8]:List UInt8))[(UInt8.ofBitVec (BitVec.setWidth 8 j2.1)).toNat]?).bind fun x5=>(some ((),((IntKind.wrap .i64 (j2.2.1 + (x5.toBitVec.toNat:Int))),())))))))))
def S_Zcm:FSpec T:=⟨[.f (.v .u64)],[(.v (.int .i64))],fun x=>Zcm x.1⟩
def E_Zcm:Env T:=⟨tab.find,cd,globs,flc,fun f ds=>match f with
    | _=>none,fun f=>match f with
    | _=>false⟩
def A_Zcm:Loc2 T:=⟨fun id=>match id with
    | _=>none,fun r=>match r with
    | 4=>some ([(0,.f (.v .u64)),(2,.f (.v (.int .i64)))],true)
    | 7=>some ([(0,.f (.v .u64)),(2,.f (.v (.int .i64)))],true)
    | _=>none,fun r=>match r with
    | _=>false⟩
theorem Zcm_eq (x:tySs T S_Zcm.ps):run E_Zcm A_Zcm (Tryz.f145.body.getD .skip) (enterT E_Zcm.C S_Zcm.ps x) (retK E_Zcm Tryz.f145.results.toList S_Zcm.ps S_Zcm.rs)=S_Zcm.fn x:=by kernel_rfl
theorem Zcm_env:EnvOk Tryz.prog E_Zcm:=envOk (E:=E_Zcm) cd_ok tys fl_ok fun f ds S h=>by cases h
theorem Zcm_ok:SoundT Tryz.prog cd gdn 145 S_Zcm:=
  sound_fn (E:=E_Zcm) (A:=A_Zcm) (done:=[]) (c:=(Tryz.f145.body.getD .skip)) (S:=S_Zcm) (fn:=Tryz.f145) hmix Zcm_env Tryz.func145 rfl (by kernel_rfl) (by kernel_rfl) done_nil (by kernel_rfl) (by kernel_rfl) Zcm_eq
def Zcv (a0:(BitVec 64)):Option ((Unit) × (Int × Unit)):=
 ((Zcm a0).bind fun r1=>(some ((),(r1.2.1,()))))
def S_Zcv:FSpec T:=⟨[.f (.v .u64)],[(.v (.int .i64))],fun x=>Zcv x.1⟩
def E_Zcv:Env T:=⟨tab.find,cd,globs,flc,fun f ds=>match f with
    | 145=>some S_Zcm
    | _=>none,fun f=>match f with
    | 145=>true
    | _=>false⟩
def A_Zcv:Loc2 T:=⟨fun id=>match id with
    | _=>none,fun r=>match r with
    | _=>none,fun r=>match r with
    | _=>false⟩
theorem Zcv_eq (x:tySs T S_Zcv.ps):run E_Zcv A_Zcv (Tryz.f108.body.getD .skip) (enterT E_Zcv.C S_Zcv.ps x) (retK E_Zcv Tryz.f108.results.toList S_Zcv.ps S_Zcv.rs)=S_Zcv.fn x:=by kernel_rfl
theorem Zcv_env:EnvOk Tryz.prog E_Zcv:=envOk (E:=E_Zcv) cd_ok tys fl_ok fun f ds S h=>by
    dsimp only [E_Zcv] at h
    split at h
    · cases h; exact Zcm_ok
    · cases h
theorem Zcv_ok:SoundT Tryz.prog cd gdn 108 S_Zcv:=
  sound_fn (E:=E_Zcv) (A:=A_Zcv) (done:=[]) (c:=(Tryz.f108.body.getD .skip)) (S:=S_Zcv) (fn:=Tryz.f108) hmix Zcv_env Tryz.func108 rfl (by kernel_rfl) (by kernel_rfl) done_nil (by kernel_rfl) (by kernel_rfl) Zcv_eq
def Zbz (a0:(BitVec 64)):Option ((Unit) × (Bool × Unit)):=
 (some ((),((!decide (a0=a0)),())))
def S_Zbz:FSpec T:=⟨[.f (.v .u64)],[(.v .bool)],fun x=>Zbz x.1⟩
def E_Zbz:Env T:=⟨tab.find,cd,globs,flc,fun f ds=>match f with
    | _=>none,fun f=>match f with
    | _=>false⟩
def A_Zbz:Loc2 T:=⟨fun id=>match id with
    | _=>none,fun r=>match r with
    | _=>none,fun r=>match r with
    | _=>false⟩
theorem Zbz_eq (x:tySs T S_Zbz.ps):run E_Zbz A_Zbz (Tryz.f109.body.getD .skip) (enterT E_Zbz.C S_Zbz.ps x) (retK E_Zbz Tryz.f109.results.toList S_Zbz.ps S_Zbz.rs)=S_Zbz.fn x:=by kernel_rfl
theorem Zbz_env:EnvOk Tryz.prog E_Zbz:=envOk (E:=E_Zbz) cd_ok tys fl_ok fun f ds S h=>by cases h
theorem Zbz_ok:SoundT Tryz.prog cd gdn 109 S_Zbz:=
  sound_fn (E:=E_Zbz) (A:=A_Zbz) (done:=[]) (c:=(Tryz.f109.body.getD .skip)) (S:=S_Zbz) (fn:=Tryz.f109) hmix Zbz_env Tryz.func109 rfl (by kernel_rfl) (by kernel_rfl) done_nil (by kernel_rfl) (by kernel_rfl) Zbz_eq
def Zbc (a0:(BitVec 64)) (a1:(BitVec 64)):Option ((Unit) × (Int × Unit)):=
 ((Zbz a0).bind fun r1=>((Zbz a1).bind fun r2=>(bif r1.2.1 then (bif r2.2.1 then (some ((),((0:Int),())))
 else (some ((),((-1:Int),()))))
 else (bif r2.2.1 then (some ((),((1:Int),())))
 else (bif (decide (a0.toNat < a1.toNat)) then (some ((),((-1:Int),())))
 else (bif (decide (a1.toNat < a0.toNat)) then (some ((),((1:Int),())))
 else (some ((),((0:Int),())))))))))
def S_Zbc:FSpec T:=⟨[.f (.v .u64),.f (.v .u64)],[(.v (.int .i64))],fun x=>Zbc x.1 x.2.1⟩
def E_Zbc:Env T:=⟨tab.find,cd,globs,flc,fun f ds=>match f with
    | 109=>some S_Zbz
    | _=>none,fun f=>match f with
    | 109=>true
    | _=>false⟩
def A_Zbc:Loc2 T:=⟨fun id=>match id with
    | _=>none,fun r=>match r with
    | _=>none,fun r=>match r with
    | _=>false⟩
theorem Zbc_eq (x:tySs T S_Zbc.ps):run E_Zbc A_Zbc (Tryz.f75.body.getD .skip) (enterT E_Zbc.C S_Zbc.ps x) (retK E_Zbc Tryz.f75.results.toList S_Zbc.ps S_Zbc.rs)=S_Zbc.fn x:=by kernel_rfl
theorem Zbc_env:EnvOk Tryz.prog E_Zbc:=envOk (E:=E_Zbc) cd_ok tys fl_ok fun f ds S h=>by
    dsimp only [E_Zbc] at h
    split at h
    · cases h; exact Zbz_ok
    · cases h
theorem Zbc_ok:SoundT Tryz.prog cd gdn 75 S_Zbc:=
  sound_fn (E:=E_Zbc) (A:=A_Zbc) (done:=[]) (c:=(Tryz.f75.body.getD .skip)) (S:=S_Zbc) (fn:=Tryz.f75) hmix Zbc_env Tryz.func75 rfl (by kernel_rfl) (by kernel_rfl) done_nil (by kernel_rfl) (by kernel_rfl) Zbc_eq
def Zdk (a0:Int) (a1:Int) (a2:(List (BitVec 64))):Option ((Unit) × (Int × Unit)):=
 ((getI a2 a0).bind fun x1=>((getI a2 a1).bind fun x2=>((Zbc x1 x2).bind fun r3=>(some ((),(r3.2.1,()))))))
def S_Zdk:FSpec T:=⟨[.f (.v (.int .i64)),.f (.v (.int .i64)),.f (.v (.ref (.rs 3)))],[(.v (.int .i64))],fun x=>Zdk x.1 x.2.1 x.2.2.1⟩
def E_Zdk:Env T:=⟨tab.find,cd,globs,flc,fun f ds=>match f with
    | 75=>some S_Zbc
    | _=>none,fun f=>match f with
    | 75=>true
    | _=>false⟩
def A_Zdk:Loc2 T:=⟨fun id=>match id with
    | _=>none,fun r=>match r with
    | _=>none,fun r=>match r with
    | _=>false⟩
theorem Zdk_eq (x:tySs T S_Zdk.ps):run E_Zdk A_Zdk (Tryz.f74.body.getD .skip) (enterT E_Zdk.C S_Zdk.ps x) (retK E_Zdk Tryz.f74.results.toList S_Zdk.ps S_Zdk.rs)=S_Zdk.fn x:=by kernel_rfl
theorem Zdk_env:EnvOk Tryz.prog E_Zdk:=envOk (E:=E_Zdk) cd_ok tys fl_ok fun f ds S h=>by
    dsimp only [E_Zdk] at h
    split at h
    · cases h; exact Zbc_ok
    · cases h
theorem Zdk_ok:SoundT Tryz.prog cd gdn 74 S_Zdk:=
  sound_fn (E:=E_Zdk) (A:=A_Zdk) (done:=[]) (c:=(Tryz.f74.body.getD .skip)) (S:=S_Zdk) (fn:=Tryz.f74) hmix Zdk_env Tryz.func74 rfl (by kernel_rfl) (by kernel_rfl) done_nil (by kernel_rfl) (by kernel_rfl) Zdk_eq
def Zab_L2b (y0:(List (Int))) (y1:Int) (y2:Int) (y3:((List (BitVec 64)) × Unit)) (y4:Int) (y5:Int):Option (((List (Int)) × Int × Int × ((List (BitVec 64)) × Unit) × Int × Int × Unit) ⊕ ((List (Int)) × Int × Int × ((List (BitVec 64)) × Unit) × Int × Unit)):=
 (bif (decide (y1 < y5)) then (bif (decide ((0:Int) ≤ y5) && decide (y5 < ((y0).length:Int))) then (((y0)[(y5).toNat]?).bind fun x1=>(bif (decide ((0:Int) ≤ (IntKind.wrap .i64 (y5 - (1:Int)))) && decide ((IntKind.wrap .i64 (y5 - (1:Int))) < ((y0).length:Int))) then (((y0)[((IntKind.wrap .i64 (y5 - (1:Int)))).toNat]?).bind fun x2=>((Zdk x1 x2 y3.1).bind fun r3=>(bif (decide (r3.2.1 < (0:Int))) then (bif (decide ((0:Int) ≤ (IntKind.wrap .i64 (y5 - (1:Int)))) && decide ((IntKind.wrap .i64 (y5 - (1:Int))) < ((y0).length:Int))) then (((y0)[((IntKind.wrap .i64 (y5 - (1:Int)))).toNat]?).bind fun x4=>(bif (decide ((0:Int) ≤ y5) && decide (y5 < ((y0).length:Int))) then (((y0)[(y5).toNat]?).bind fun x5=>(bif (decide ((0:Int) ≤ y5) && decide (y5 < ((y0).length:Int))) then (((y0)[(y5).toNat]?).bind fun x6=>(bif (decide ((0:Int) ≤ (IntKind.wrap .i64 (y5 - (1:Int)))) && decide ((IntKind.wrap .i64 (y5 - (1:Int))) < ((y0).length:Int))) then ((((List.set y0 (y5).toNat x4))[((IntKind.wrap .i64 (y5 - (1:Int)))).toNat]?).bind fun x7=>(let v8:List (Int):=(List.set (List.set y0 (y5).toNat x4) ((IntKind.wrap .i64 (y5 - (1:Int)))).toNat x5)
 (some (Sum.inl (v8,y1,y2,(y3.1,()),y4,(IntKind.wrap .i64 (y5 - (1:Int))),())))))
 else none))
 else none))
 else none))
 else none)
 else (some (Sum.inr (y0,y1,y2,(y3.1,()),y4,()))))))
 else none))
 else none)
 else (some (Sum.inr (y0,y1,y2,(y3.1,()),y4,()))))
def Zab_L2 (y:((List (Int)) × Int × Int × ((List (BitVec 64)) × Unit) × Int × Int × Unit)):Option ((List (Int)) × Int × Int × ((List (BitVec 64)) × Unit) × Int × Unit):=iter (fun (y:((List (Int)) × Int × Int × ((List (BitVec 64)) × Unit) × Int × Int × Unit))=>Zab_L2b y.1 y.2.1 y.2.2.1 y.2.2.2.1 y.2.2.2.2.1 y.2.2.2.2.2.1) rounds y
def Zab_L0b (y0:(List (Int))) (y1:Int) (y2:Int) (y3:((List (BitVec 64)) × Unit)) (y4:Int):Option (((List (Int)) × Int × Int × ((List (BitVec 64)) × Unit) × Int × Unit) ⊕ ((List (Int)) × Unit)):=
 (bif (decide (y4 < y2)) then ((Zab_L2 (y0,y1,y2,(y3.1,()),y4,y4,())).bind (fun (z1:((List (Int)) × Int × Int × ((List (BitVec 64)) × Unit) × Int × Unit))=>(some (Sum.inl (z1.1,z1.2.1,z1.2.2.1,(z1.2.2.2.1.1,()),(IntKind.wrap .i64 (z1.2.2.2.2.1 + (1:Int))),())))))
 else (some (Sum.inr (y0,()))))
def Zab_L0 (y:((List (Int)) × Int × Int × ((List (BitVec 64)) × Unit) × Int × Unit)):Option ((List (Int)) × Unit):=iter (fun (y:((List (Int)) × Int × Int × ((List (BitVec 64)) × Unit) × Int × Unit))=>Zab_L0b y.1 y.2.1 y.2.2.1 y.2.2.2.1 y.2.2.2.2.1) rounds y
def Zab (a0:(List (Int))) (a1:Int) (a2:Int) (a3:((List (BitVec 64)) × Unit)):Option (((List (Int)) × Unit) × (Unit)):=
 ((Zab_L0 (a0,a1,a2,(a3.1,()),(IntKind.wrap .i64 (a1 + (1:Int))),())).bind (fun (z2:((List (Int)) × Unit))=>(some ((z2.1,()),()))))
def S_Zab:FSpec T:=⟨[.inp 5,.f (.v (.int .i64)),.f (.v (.int .i64)),.f (.v (.fn 74 (.cons (.ref (.rs 3)) .nil)))],[],fun x=>Zab x.1 x.2.1 x.2.2.1 x.2.2.2.1⟩
def E_Zab:Env T:=⟨tab.find,cd,globs,flc,fun f ds=>match f with
    | 74=>some S_Zdk
    | _=>none,fun f=>match f with
    | 74=>true
    | _=>false⟩
def A_Zab:Loc2 T:=⟨fun id=>match id with
    | 2=>some ⟨[(0,.f (.own 5)),(1,.f (.v (.int .i64))),(2,.f (.v (.int .i64))),(3,.f (.v (.fn 74 (.cons (.ref (.rs 3)) .nil)))),(8,.f (.v (.int .i64))),(9,.f (.v (.int .i64)))],[(.exit 2,[(0,.f (.own 5)),(1,.f (.v (.int .i64))),(2,.f (.v (.int .i64))),(3,.f (.v (.fn 74 (.cons (.ref (.rs 3)) .nil)))),(8,.f (.v (.int .i64)))])],Zab_L2,[]⟩
    | 0=>some ⟨[(0,.f (.own 5)),(1,.f (.v (.int .i64))),(2,.f (.v (.int .i64))),(3,.f (.v (.fn 74 (.cons (.ref (.rs 3)) .nil)))),(8,.f (.v (.int .i64)))],[(.exit 0,[(0,.f (.own 5))])],Zab_L0,[]⟩
    | _=>none,fun r=>match r with
    | _=>none,fun r=>match r with
    | _=>false⟩
theorem Zab_L2_eq (y0:(List (Int))) (y1:Int) (y2:Int) (y3:((List (BitVec 64)) × Unit)) (y4:Int) (y5:Int):run E_Zab A_Zab (loopAt 2 (Tryz.f136.body.getD .skip)) (layC cd [(0,.f (.own 5)),(1,.f (.v (.int .i64))),(2,.f (.v (.int .i64))),(3,.f (.v (.fn 74 (.cons (.ref (.rs 3)) .nil)))),(8,.f (.v (.int .i64))),(9,.f (.v (.int .i64)))] [] (y0,y1,y2,y3,y4,y5,())) (roundK cd [(0,.f (.own 5)),(1,.f (.v (.int .i64))),(2,.f (.v (.int .i64))),(3,.f (.v (.fn 74 (.cons (.ref (.rs 3)) .nil)))),(8,.f (.v (.int .i64))),(9,.f (.v (.int .i64)))] [] [(.exit 2,[(0,.f (.own 5)),(1,.f (.v (.int .i64))),(2,.f (.v (.int .i64))),(3,.f (.v (.fn 74 (.cons (.ref (.rs 3)) .nil)))),(8,.f (.v (.int .i64)))])])=Zab_L2b y0 y1 y2 y3 y4 y5:=by kernel_rfl
theorem Zab_L0_eq (y0:(List (Int))) (y1:Int) (y2:Int) (y3:((List (BitVec 64)) × Unit)) (y4:Int):run E_Zab A_Zab (loopAt 0 (Tryz.f136.body.getD .skip)) (layC cd [(0,.f (.own 5)),(1,.f (.v (.int .i64))),(2,.f (.v (.int .i64))),(3,.f (.v (.fn 74 (.cons (.ref (.rs 3)) .nil)))),(8,.f (.v (.int .i64)))] [] (y0,y1,y2,y3,y4,())) (roundK cd [(0,.f (.own 5)),(1,.f (.v (.int .i64))),(2,.f (.v (.int .i64))),(3,.f (.v (.fn 74 (.cons (.ref (.rs 3)) .nil)))),(8,.f (.v (.int .i64)))] [] [(.exit 0,[(0,.f (.own 5))])])=Zab_L0b y0 y1 y2 y3 y4:=by kernel_rfl
theorem Zab_eq (x:tySs T S_Zab.ps):run E_Zab A_Zab (Tryz.f136.body.getD .skip) (enterT E_Zab.C S_Zab.ps x) (retK E_Zab Tryz.f136.results.toList S_Zab.ps S_Zab.rs)=S_Zab.fn x:=by kernel_rfl
theorem Zab_env:EnvOk Tryz.prog E_Zab:=envOk (E:=E_Zab) cd_ok tys fl_ok fun f ds S h=>by
    dsimp only [E_Zab] at h
    split at h
    · cases h; exact Zdk_ok
    · cases h
theorem Zab_L2_ok:LoopOk Tryz.prog E_Zab Tryz.f136.ntmps (kqOf S_Zab.ps 0) (loopAt 2 (Tryz.f136.body.getD .skip)) ⟨[(0,.f (.own 5)),(1,.f (.v (.int .i64))),(2,.f (.v (.int .i64))),(3,.f (.v (.fn 74 (.cons (.ref (.rs 3)) .nil)))),(8,.f (.v (.int .i64))),(9,.f (.v (.int .i64)))],[(.exit 2,[(0,.f (.own 5)),(1,.f (.v (.int .i64))),(2,.f (.v (.int .i64))),(3,.f (.v (.fn 74 (.cons (.ref (.rs 3)) .nil)))),(8,.f (.v (.int .i64)))])],Zab_L2,[]⟩:=
  loop_ok (A:=A_Zab) (done:=[]) (c0:=(Tryz.f136.body.getD .skip)) hmix Zab_env done_nil rounds (by kernel_rfl) (by kernel_rfl) (fun x=>Zab_L2_eq x.1 x.2.1 x.2.2.1 x.2.2.2.1 x.2.2.2.2.1 x.2.2.2.2.2.1) (fun _=>rfl)
theorem Zab_L0_ok:LoopOk Tryz.prog E_Zab Tryz.f136.ntmps (kqOf S_Zab.ps 0) (loopAt 0 (Tryz.f136.body.getD .skip)) ⟨[(0,.f (.own 5)),(1,.f (.v (.int .i64))),(2,.f (.v (.int .i64))),(3,.f (.v (.fn 74 (.cons (.ref (.rs 3)) .nil)))),(8,.f (.v (.int .i64)))],[(.exit 0,[(0,.f (.own 5))])],Zab_L0,[]⟩:=
  loop_ok (A:=A_Zab) (done:=[2]) (c0:=(Tryz.f136.body.getD .skip)) hmix Zab_env (done_cons rfl Zab_L2_ok done_nil) rounds (by kernel_rfl) (by kernel_rfl) (fun x=>Zab_L0_eq x.1 x.2.1 x.2.2.1 x.2.2.2.1 x.2.2.2.2.1) (fun _=>rfl)
theorem Zab_ok:SoundT Tryz.prog cd gdn 136 S_Zab:=
  sound_fn (E:=E_Zab) (A:=A_Zab) (done:=[2,0]) (c:=(Tryz.f136.body.getD .skip)) (S:=S_Zab) (fn:=Tryz.f136) hmix Zab_env Tryz.func136 rfl (by kernel_rfl) (by kernel_rfl) (done_cons rfl Zab_L2_ok (done_cons rfl Zab_L0_ok done_nil)) (by kernel_rfl) (by kernel_rfl) Zab_eq
def Zaf_L0b (y0:(List (Int))) (y1:Int) (y2:Int) (y3:Int) (y4:((List (BitVec 64)) × Unit)) (y5:Bool) (y6:Bool):Option (((List (Int)) × Int × Int × Int × ((List (BitVec 64)) × Unit) × Bool × Bool × Unit) ⊕ ((List (Int)) × Unit)):=
 (bif (decide ((IntKind.wrap .i64 (y2 - y1)) ≤ (12:Int))) then ((Zab y0 y1 y2 (y4.1,())).bind fun r1=>(some (Sum.inr (r1.1.1,()))))
 else (bif (decide (y3=(0:Int))) then none
 else ((bif (!y5) then none
 else (some (y0,y1,y2,y3,(y4.1,()),y5,y6,(IntKind.wrap .i64 (y2 - y1)),()))).bind (fun (j2:((List (Int)) × Int × Int × Int × ((List (BitVec 64)) × Unit) × Bool × Bool × Int × Unit))=>none))))
def Zaf_L0 (y:((List (Int)) × Int × Int × Int × ((List (BitVec 64)) × Unit) × Bool × Bool × Unit)):Option ((List (Int)) × Unit):=iter (fun (y:((List (Int)) × Int × Int × Int × ((List (BitVec 64)) × Unit) × Bool × Bool × Unit))=>Zaf_L0b y.1 y.2.1 y.2.2.1 y.2.2.2.1 y.2.2.2.2.1 y.2.2.2.2.2.1 y.2.2.2.2.2.2.1) rounds y
def Zaf (a0:(List (Int))) (a1:Int) (a2:Int) (a3:Int) (a4:((List (BitVec 64)) × Unit)):Option (((List (Int)) × Unit) × (Unit)):=
 ((Zaf_L0 (a0,a1,a2,a3,(a4.1,()),true,true,())).bind (fun (z3:((List (Int)) × Unit))=>(some ((z3.1,()),()))))
def S_Zaf:FSpec T:=⟨[.inp 5,.f (.v (.int .i64)),.f (.v (.int .i64)),.f (.v (.int .i64)),.f (.v (.fn 74 (.cons (.ref (.rs 3)) .nil)))],[],fun x=>Zaf x.1 x.2.1 x.2.2.1 x.2.2.2.1 x.2.2.2.2.1⟩
def E_Zaf:Env T:=⟨tab.find,cd,globs,flc,fun f ds=>match f with
    | 136=>match fnAt ds 3 with
      | some 74=>some S_Zab
      | _=>none
    | _=>none,fun f=>match f with
    | _=>false⟩
def A_Zaf:Loc2 T:=⟨fun id=>match id with
    | 0=>some ⟨[(0,.f (.own 5)),(1,.f (.v (.int .i64))),(2,.f (.v (.int .i64))),(3,.f (.v (.int .i64))),(4,.f (.v (.fn 74 (.cons (.ref (.rs 3)) .nil)))),(10,.f (.v .bool)),(11,.f (.v .bool))],[(.ret,[(0,.f (.own 5))])],Zaf_L0,[]⟩
    | _=>none,fun r=>match r with
    | 10=>some ([(0,.f (.own 5)),(1,.f (.v (.int .i64))),(2,.f (.v (.int .i64))),(3,.f (.v (.int .i64))),(4,.f (.v (.fn 74 (.cons (.ref (.rs 3)) .nil)))),(10,.f (.v .bool)),(11,.f (.v .bool)),(12,.f (.v (.int .i64)))],true)
    | _=>none,fun r=>match r with
    | _=>false⟩
theorem Zaf_L0_eq (y0:(List (Int))) (y1:Int) (y2:Int) (y3:Int) (y4:((List (BitVec 64)) × Unit)) (y5:Bool) (y6:Bool):run E_Zaf A_Zaf (loopAt 0 (Tryz.f107.body.getD .skip)) (layC cd [(0,.f (.own 5)),(1,.f (.v (.int .i64))),(2,.f (.v (.int .i64))),(3,.f (.v (.int .i64))),(4,.f (.v (.fn 74 (.cons (.ref (.rs 3)) .nil)))),(10,.f (.v .bool)),(11,.f (.v .bool))] [] (y0,y1,y2,y3,y4,y5,y6,())) (roundK cd [(0,.f (.own 5)),(1,.f (.v (.int .i64))),(2,.f (.v (.int .i64))),(3,.f (.v (.int .i64))),(4,.f (.v (.fn 74 (.cons (.ref (.rs 3)) .nil)))),(10,.f (.v .bool)),(11,.f (.v .bool))] [] [(.ret,[(0,.f (.own 5))])])=Zaf_L0b y0 y1 y2 y3 y4 y5 y6:=by kernel_rfl
theorem Zaf_eq (x:tySs T S_Zaf.ps):run E_Zaf A_Zaf (Tryz.f107.body.getD .skip) (enterT E_Zaf.C S_Zaf.ps x) (retK E_Zaf Tryz.f107.results.toList S_Zaf.ps S_Zaf.rs)=S_Zaf.fn x:=by kernel_rfl
theorem Zaf_env:EnvOk Tryz.prog E_Zaf:=envOk (E:=E_Zaf) cd_ok tys fl_ok fun f ds S h=>by
    dsimp only [E_Zaf] at h
    split at h
    · split at h
      · cases h; exact Zab_ok
      · cases h
    · cases h
theorem Zaf_L0_ok:LoopOk Tryz.prog E_Zaf Tryz.f107.ntmps (kqOf S_Zaf.ps 0) (loopAt 0 (Tryz.f107.body.getD .skip)) ⟨[(0,.f (.own 5)),(1,.f (.v (.int .i64))),(2,.f (.v (.int .i64))),(3,.f (.v (.int .i64))),(4,.f (.v (.fn 74 (.cons (.ref (.rs 3)) .nil)))),(10,.f (.v .bool)),(11,.f (.v .bool))],[(.ret,[(0,.f (.own 5))])],Zaf_L0,[]⟩:=
  loop_ok (A:=A_Zaf) (done:=[]) (c0:=(Tryz.f107.body.getD .skip)) hmix Zaf_env done_nil rounds (by kernel_rfl) (by kernel_rfl) (fun x=>Zaf_L0_eq x.1 x.2.1 x.2.2.1 x.2.2.2.1 x.2.2.2.2.1 x.2.2.2.2.2.1 x.2.2.2.2.2.2.1) (fun _=>rfl)
theorem Zaf_ok:SoundT Tryz.prog cd gdn 107 S_Zaf:=
  sound_fn (E:=E_Zaf) (A:=A_Zaf) (done:=[0]) (c:=(Tryz.f107.body.getD .skip)) (S:=S_Zaf) (fn:=Tryz.f107) hmix Zaf_env Tryz.func107 rfl (by kernel_rfl) (by kernel_rfl) (done_cons rfl Zaf_L0_ok done_nil) (by kernel_rfl) (by kernel_rfl) Zaf_eq
def Zal (a0:(List (Int))) (a1:((List (BitVec 64)) × Unit)):Option (((List (Int)) × Unit) × (Unit)):=
 ((Zcv (BitVec.ofInt 64 ((a0).length:Int))).bind fun r1=>((Zaf a0 (0:Int) ((a0).length:Int) r1.2.1 (a1.1,())).bind fun r2=>(some ((r2.1.1,()),()))))
def S_Zal:FSpec T:=⟨[.inp 5,.f (.v (.fn 74 (.cons (.ref (.rs 3)) .nil)))],[],fun x=>Zal x.1 x.2.1⟩
def E_Zal:Env T:=⟨tab.find,cd,globs,flc,fun f ds=>match f with
    | 107=>match fnAt ds 4 with
      | some 74=>some S_Zaf
      | _=>none
    | 108=>some S_Zcv
    | _=>none,fun f=>match f with
    | 108=>true
    | _=>false⟩
def A_Zal:Loc2 T:=⟨fun id=>match id with
    | _=>none,fun r=>match r with
    | _=>none,fun r=>match r with
    | _=>false⟩
theorem Zal_eq (x:tySs T S_Zal.ps):run E_Zal A_Zal (Tryz.f73.body.getD .skip) (enterT E_Zal.C S_Zal.ps x) (retK E_Zal Tryz.f73.results.toList S_Zal.ps S_Zal.rs)=S_Zal.fn x:=by kernel_rfl
theorem Zal_env:EnvOk Tryz.prog E_Zal:=envOk (E:=E_Zal) cd_ok tys fl_ok fun f ds S h=>by
    dsimp only [E_Zal] at h
    split at h
    · split at h
      · cases h; exact Zaf_ok
      · cases h
    · cases h; exact Zcv_ok
    · cases h
theorem Zal_ok:SoundT Tryz.prog cd gdn 73 S_Zal:=
  sound_fn (E:=E_Zal) (A:=A_Zal) (done:=[]) (c:=(Tryz.f73.body.getD .skip)) (S:=S_Zal) (fn:=Tryz.f73) hmix Zal_env Tryz.func73 rfl (by kernel_rfl) (by kernel_rfl) done_nil (by kernel_rfl) (by kernel_rfl) Zal_eq
def Zcn (a0:CborWalk):Option ((Unit) × (Bool × Unit)):=
 (bif (decide ((0:Int) < a0.count)) then (some ((),((decide (((a0.open_).length:Int)=(0:Int))),())))
 else (some ((),(false,()))))
def S_Zcn:FSpec T:=⟨[.f (.v (.ref (.agg 7)))],[(.v .bool)],fun x=>Zcn x.1⟩
def E_Zcn:Env T:=⟨tab.find,cd,globs,flc,fun f ds=>match f with
    | _=>none,fun f=>match f with
    | _=>false⟩
def A_Zcn:Loc2 T:=⟨fun id=>match id with
    | _=>none,fun r=>match r with
    | _=>none,fun r=>match r with
    | _=>false⟩
theorem Zcn_eq (x:tySs T S_Zcn.ps):run E_Zcn A_Zcn (Tryz.f83.body.getD .skip) (enterT E_Zcn.C S_Zcn.ps x) (retK E_Zcn Tryz.f83.results.toList S_Zcn.ps S_Zcn.rs)=S_Zcn.fn x:=by kernel_rfl
theorem Zcn_env:EnvOk Tryz.prog E_Zcn:=envOk (E:=E_Zcn) cd_ok tys fl_ok fun f ds S h=>by cases h
theorem Zcn_ok:SoundT Tryz.prog cd gdn 83 S_Zcn:=
  sound_fn (E:=E_Zcn) (A:=A_Zcn) (done:=[]) (c:=(Tryz.f83.body.getD .skip)) (S:=S_Zcn) (fn:=Tryz.f83) hmix Zcn_env Tryz.func83 rfl (by kernel_rfl) (by kernel_rfl) done_nil (by kernel_rfl) (by kernel_rfl) Zcn_eq
def Zcl (a0:CborWalk):Option ((Unit) × (Bool × Unit)):=
 (bif (decide ((0:Int) < ((a0.open_).length:Int))) then ((getI a0.open_ (IntKind.wrap .i64 (((a0.open_).length:Int) - (1:Int)))).bind fun x1=>(bif x1.pairs then ((getI a0.open_ (IntKind.wrap .i64 (((a0.open_).length:Int) - (1:Int)))).bind fun x2=>(some ((),((decide ((Int.tmod x2.left (2:Int))=(0:Int))),()))))
 else (some ((),(false,())))))
 else (some ((),(false,()))))
def S_Zcl:FSpec T:=⟨[.f (.v (.ref (.agg 7)))],[(.v .bool)],fun x=>Zcl x.1⟩
def E_Zcl:Env T:=⟨tab.find,cd,globs,flc,fun f ds=>match f with
    | _=>none,fun f=>match f with
    | _=>false⟩
def A_Zcl:Loc2 T:=⟨fun id=>match id with
    | _=>none,fun r=>match r with
    | _=>none,fun r=>match r with
    | _=>false⟩
theorem Zcl_eq (x:tySs T S_Zcl.ps):run E_Zcl A_Zcl (Tryz.f149.body.getD .skip) (enterT E_Zcl.C S_Zcl.ps x) (retK E_Zcl Tryz.f149.results.toList S_Zcl.ps S_Zcl.rs)=S_Zcl.fn x:=by kernel_rfl
theorem Zcl_env:EnvOk Tryz.prog E_Zcl:=envOk (E:=E_Zcl) cd_ok tys fl_ok fun f ds S h=>by cases h
theorem Zcl_ok:SoundT Tryz.prog cd gdn 149 S_Zcl:=
  sound_fn (E:=E_Zcl) (A:=A_Zcl) (done:=[]) (c:=(Tryz.f149.body.getD .skip)) (S:=S_Zcl) (fn:=Tryz.f149) hmix Zcl_env Tryz.func149 rfl (by kernel_rfl) (by kernel_rfl) done_nil (by kernel_rfl) (by kernel_rfl) Zcl_eq
def Zck (a0:CborWalk) (a1:Int):Option ((Unit) × (Int × Unit)):=
 (bif (decide ((512:Int) ≤ a0.count)) then (some ((),((8:Int),())))
 else (bif (decide (a1 < (1:Int))) then (some ((),((3:Int),())))
 else (bif (decide ((8:Int) < a1)) then (some ((),((3:Int),())))
 else ((Zcl a0).bind fun r1=>(bif r1.2.1 then (bif (!decide (a1=(1:Int))) then (bif (!decide (a1=(2:Int))) then (bif (!decide (a1=(4:Int))) then (some ((),((3:Int),())))
 else (bif (decide ((8:Int) < ((a0.open_).length:Int))) then (some ((),((5:Int),())))
 else (some ((),((0:Int),())))))
 else (bif (decide ((8:Int) < ((a0.open_).length:Int))) then (some ((),((5:Int),())))
 else (some ((),((0:Int),())))))
 else (bif (decide ((8:Int) < ((a0.open_).length:Int))) then (some ((),((5:Int),())))
 else (some ((),((0:Int),())))))
 else (bif (decide ((8:Int) < ((a0.open_).length:Int))) then (some ((),((5:Int),())))
 else (some ((),((0:Int),())))))))))
def S_Zck:FSpec T:=⟨[.f (.v (.ref (.agg 7))),.f (.v (.int .i64))],[(.v (.int .i64))],fun x=>Zck x.1 x.2.1⟩
def E_Zck:Env T:=⟨tab.find,cd,globs,flc,fun f ds=>match f with
    | 149=>some S_Zcl
    | _=>none,fun f=>match f with
    | 149=>true
    | _=>false⟩
def A_Zck:Loc2 T:=⟨fun id=>match id with
    | _=>none,fun r=>match r with
    | _=>none,fun r=>match r with
    | _=>false⟩
theorem Zck_eq (x:tySs T S_Zck.ps):run E_Zck A_Zck (Tryz.f115.body.getD .skip) (enterT E_Zck.C S_Zck.ps x) (retK E_Zck Tryz.f115.results.toList S_Zck.ps S_Zck.rs)=S_Zck.fn x:=by kernel_rfl
theorem Zck_env:EnvOk Tryz.prog E_Zck:=envOk (E:=E_Zck) cd_ok tys fl_ok fun f ds S h=>by
    dsimp only [E_Zck] at h
    split at h
    · cases h; exact Zcl_ok
    · cases h
theorem Zck_ok:SoundT Tryz.prog cd gdn 115 S_Zck:=
  sound_fn (E:=E_Zck) (A:=A_Zck) (done:=[]) (c:=(Tryz.f115.body.getD .skip)) (S:=S_Zck) (fn:=Tryz.f115) hmix Zck_env Tryz.func115 rfl (by kernel_rfl) (by kernel_rfl) done_nil (by kernel_rfl) (by kernel_rfl) Zck_eq
def Zdf (a0:ApiItem):Option ((Unit) × (Bool × Unit)):=
 (bif (decide (a0.kind=(3:Int))) then (bif (decide (a0.kind=(3:Int))) then (some ((),((decide (a0.number=0#64)),())))
 else (bif (decide (a0.kind=(8:Int))) then (bif (decide (a0.number=0#64)) then (some ((),((decide (a0.data=([]:List UInt8))),())))
 else (some ((),(false,()))))
 else (bif (decide (a0.kind=(7:Int))) then (bif (decide (a0.number.toNat ≤ (1#64).toNat)) then (some ((),((decide (a0.data=([]:List UInt8))),())))
 else (some ((),(false,()))))
 else (some ((),((decide (a0.data=([]:List UInt8))),()))))))
 else (bif (decide (a0.kind=(4:Int))) then (some ((),((decide (a0.number=0#64)),())))
 else (bif (decide (a0.kind=(8:Int))) then (bif (decide (a0.number=0#64)) then (some ((),((decide (a0.data=([]:List UInt8))),())))
 else (some ((),(false,()))))
 else (bif (decide (a0.kind=(7:Int))) then (bif (decide (a0.number.toNat ≤ (1#64).toNat)) then (some ((),((decide (a0.data=([]:List UInt8))),())))
 else (some ((),(false,()))))
 else (some ((),((decide (a0.data=([]:List UInt8))),())))))))
def S_Zdf:FSpec T:=⟨[.f (.v (.agg 1))],[(.v .bool)],fun x=>Zdf x.1⟩
def E_Zdf:Env T:=⟨tab.find,cd,globs,flc,fun f ds=>match f with
    | _=>none,fun f=>match f with
    | _=>false⟩
def A_Zdf:Loc2 T:=⟨fun id=>match id with
    | _=>none,fun r=>match r with
    | _=>none,fun r=>match r with
    | _=>false⟩
theorem Zdf_eq (x:tySs T S_Zdf.ps):run E_Zdf A_Zdf (Tryz.f146.body.getD .skip) (enterT E_Zdf.C S_Zdf.ps x) (retK E_Zdf Tryz.f146.results.toList S_Zdf.ps S_Zdf.rs)=S_Zdf.fn x:=by kernel_rfl
theorem Zdf_env:EnvOk Tryz.prog E_Zdf:=envOk (E:=E_Zdf) cd_ok tys fl_ok fun f ds S h=>by cases h
theorem Zdf_ok:SoundT Tryz.prog cd gdn 146 S_Zdf:=
  sound_fn (E:=E_Zdf) (A:=A_Zdf) (done:=[]) (c:=(Tryz.f146.body.getD .skip)) (S:=S_Zdf) (fn:=Tryz.f146) hmix Zdf_env Tryz.func146 rfl (by kernel_rfl) (by kernel_rfl) done_nil (by kernel_rfl) (by kernel_rfl) Zdf_eq
def Zci_L1b (y0:(List (UInt8))) (y1:(BitVec 64)) (y2:Int):Option (((List (UInt8)) × (BitVec 64) × Int × Unit) ⊕ ((List (UInt8)) × Unit)):=
 (bif (decide ((0:Int) ≤ y2)) then (bif decide ((0:Int) ≤ (IntKind.wrap .i64 ((8:Int) * y2))) then (let v7:UInt8:=(UInt8.ofBitVec (BitVec.setWidth 8 (y1 >>> ((IntKind.wrap .i64 ((8:Int) * y2))).toNat)))
 (bif small ((y0).length + (([v7]:List (UInt8)):List (UInt8)).length) 1 then (some (Sum.inl ((y0 ++ ([v7]:List (UInt8))),y1,(IntKind.wrap .i64 (y2 - (1:Int))),())))
 else none))
 else none)
 else (some (Sum.inr (y0,()))))
def Zci_L1 (y:((List (UInt8)) × (BitVec 64) × Int × Unit)):Option ((List (UInt8)) × Unit):=iter (fun (y:((List (UInt8)) × (BitVec 64) × Int × Unit))=>Zci_L1b y.1 y.2.1 y.2.2.1) rounds y
def Zci (a0:(List (UInt8))) (a1:UInt8) (a2:(BitVec 64)):Option ((Unit) × ((List (UInt8)) × Unit)):=
 ((bif (decide (a2.toNat < (24#64).toNat)) then (let v1:UInt8:=(UInt8.ofBitVec ((UInt8.ofBitVec (a1.toBitVec <<< 5)).toBitVec + (UInt8.ofBitVec (BitVec.setWidth 8 a2)).toBitVec))
 (bif small ((a0).length + (([v1]:List (UInt8)):List (UInt8)).length) 1 then (((some ((),((a0 ++ ([v1]:List (UInt8))),())))).bind fun q=>some (Sum.inr q))
 else none))
 else (bif (decide (a2.toNat < (256#64).toNat)) then (let v2:UInt8:=(UInt8.ofBitVec ((UInt8.ofBitVec (a1.toBitVec <<< 5)).toBitVec + (24:UInt8).toBitVec))
 (some (Sum.inl (a0,a2,v2,(1:Int),()))))
 else (bif (decide (a2.toNat < (65536#64).toNat)) then (let v3:UInt8:=(UInt8.ofBitVec ((UInt8.ofBitVec (a1.toBitVec <<< 5)).toBitVec + (25:UInt8).toBitVec))
 (some (Sum.inl (a0,a2,v3,(2:Int),()))))
 else (bif (decide (a2.toNat < (4294967296#64).toNat)) then (let v4:UInt8:=(UInt8.ofBitVec ((UInt8.ofBitVec (a1.toBitVec <<< 5)).toBitVec + (26:UInt8).toBitVec))
 (some (Sum.inl (a0,a2,v4,(4:Int),()))))
 else (let v5:UInt8:=(UInt8.ofBitVec ((UInt8.ofBitVec (a1.toBitVec <<< 5)).toBitVec + (27:UInt8).toBitVec))
 (some (Sum.inl (a0,a2,v5,(8:Int),())))))))).bind (Sum.elim (fun (j6:((List (UInt8)) × (BitVec 64) × UInt8 × Int × Unit))=>(bif small ((j6.1).length + (([j6.2.2.1]:List (UInt8)):List (UInt8)).length) 1 then ((Zci_L1 ((j6.1 ++ ([j6.2.2.1]:List (UInt8))),j6.2.1,(IntKind.wrap .i64 (j6.2.2.2.1 - (1:Int))),())).bind (fun (z8:((List (UInt8)) × Unit))=>(some ((),(z8.1,())))))
 else none)) some))
def S_Zci:FSpec T:=⟨[.f (.own 0),.f (.v .u8),.f (.v .u64)],[(.own 0)],fun x=>Zci x.1 x.2.1 x.2.2.1⟩
def E_Zci:Env T:=⟨tab.find,cd,globs,flc,fun f ds=>match f with
    | _=>none,fun f=>match f with
    | _=>false⟩
def A_Zci:Loc2 T:=⟨fun id=>match id with
    | 1=>some ⟨[(0,.f (.own 0)),(2,.f (.v .u64)),(9,.f (.v (.int .i64)))],[(.exit 1,[(0,.f (.own 0))])],Zci_L1,[]⟩
    | _=>none,fun r=>match r with
    | 12=>some ([(0,.f (.own 0)),(2,.f (.v .u64)),(7,.f (.v .u8)),(8,.f (.v (.int .i64)))],false)
    | _=>none,fun r=>match r with
    | _=>false⟩
theorem Zci_L1_eq (y0:(List (UInt8))) (y1:(BitVec 64)) (y2:Int):run E_Zci A_Zci (loopAt 1 (Tryz.f111.body.getD .skip)) (layC cd [(0,.f (.own 0)),(2,.f (.v .u64)),(9,.f (.v (.int .i64)))] [] (y0,y1,y2,())) (roundK cd [(0,.f (.own 0)),(2,.f (.v .u64)),(9,.f (.v (.int .i64)))] [] [(.exit 1,[(0,.f (.own 0))])])=Zci_L1b y0 y1 y2:=by kernel_rfl
theorem Zci_eq (x:tySs T S_Zci.ps):run E_Zci A_Zci (Tryz.f111.body.getD .skip) (enterT E_Zci.C S_Zci.ps x) (retK E_Zci Tryz.f111.results.toList S_Zci.ps S_Zci.rs)=S_Zci.fn x:=by kernel_rfl
theorem Zci_env:EnvOk Tryz.prog E_Zci:=envOk (E:=E_Zci) cd_ok tys fl_ok fun f ds S h=>by cases h
theorem Zci_L1_ok:LoopOk Tryz.prog E_Zci Tryz.f111.ntmps (kqOf S_Zci.ps 0) (loopAt 1 (Tryz.f111.body.getD .skip)) ⟨[(0,.f (.own 0)),(2,.f (.v .u64)),(9,.f (.v (.int .i64)))],[(.exit 1,[(0,.f (.own 0))])],Zci_L1,[]⟩:=
  loop_ok (A:=A_Zci) (done:=[]) (c0:=(Tryz.f111.body.getD .skip)) hmix Zci_env done_nil rounds (by kernel_rfl) (by kernel_rfl) (fun x=>Zci_L1_eq x.1 x.2.1 x.2.2.1) (fun _=>rfl)
theorem Zci_ok:SoundT Tryz.prog cd gdn 111 S_Zci:=
  sound_fn (E:=E_Zci) (A:=A_Zci) (done:=[1]) (c:=(Tryz.f111.body.getD .skip)) (S:=S_Zci) (fn:=Tryz.f111) hmix Zci_env Tryz.func111 rfl (by kernel_rfl) (by kernel_rfl) (done_cons rfl Zci_L1_ok done_nil) (by kernel_rfl) (by kernel_rfl) Zci_eq
def Zcj (a0:(List (UInt8))) (a1:ApiItem):Option ((Unit) × ((List (UInt8)) × Unit)):=
 (bif (decide (a1.kind=(7:Int))) then (let v1:UInt8:=(UInt8.ofBitVec ((244:UInt8).toBitVec + (UInt8.ofBitVec (BitVec.setWidth 8 a1.number)).toBitVec))
 (bif small ((a0).length + (([v1]:List (UInt8)):List (UInt8)).length) 1 then (some ((),((a0 ++ ([v1]:List (UInt8))),())))
 else none))
 else (bif (decide (a1.kind=(8:Int))) then (bif small ((a0).length + (([(246:UInt8)]:List (UInt8)):List (UInt8)).length) 1 then (some ((),((a0 ++ ([(246:UInt8)]:List (UInt8))),())))
 else none)
 else (bif (decide (a1.kind=(3:Int))) then (bif (decide (a1.kind=(3:Int))) then (let v2:UInt8:=(UInt8.ofBitVec (BitVec.ofInt 8 (IntKind.wrap .i64 (a1.kind - (1:Int)))))
 ((Zci a0 v2 (BitVec.ofInt 64 ((a1.data).length:Int))).bind fun r3=>(bif small ((r3.2.1).length + (a1.data:List (UInt8)).length) 1 then (some ((),((r3.2.1 ++ a1.data),())))
 else none)))
 else (let v4:UInt8:=(UInt8.ofBitVec (BitVec.ofInt 8 (IntKind.wrap .i64 (a1.kind - (1:Int)))))
 ((Zci a0 v4 a1.number).bind fun r5=>(some ((),(r5.2.1,()))))))
 else (bif (decide (a1.kind=(4:Int))) then (let v6:UInt8:=(UInt8.ofBitVec (BitVec.ofInt 8 (IntKind.wrap .i64 (a1.kind - (1:Int)))))
 ((Zci a0 v6 (BitVec.ofInt 64 ((a1.data).length:Int))).bind fun r7=>(bif small ((r7.2.1).length + (a1.data:List (UInt8)).length) 1 then (some ((),((r7.2.1 ++ a1.data),())))
 else none)))
 else (let v8:UInt8:=(UInt8.ofBitVec (BitVec.ofInt 8 (IntKind.wrap .i64 (a1.kind - (1:Int)))))
 ((Zci a0 v8 a1.number).bind fun r9=>(some ((),(r9.2.1,())))))))))
def S_Zcj:FSpec T:=⟨[.f (.own 0),.f (.v (.agg 1))],[(.own 0)],fun x=>Zcj x.1 x.2.1⟩
def E_Zcj:Env T:=⟨tab.find,cd,globs,flc,fun f ds=>match f with
    | 111=>some S_Zci
    | _=>none,fun f=>match f with
    | _=>false⟩
def A_Zcj:Loc2 T:=⟨fun id=>match id with
    | _=>none,fun r=>match r with
    | _=>none,fun r=>match r with
    | _=>false⟩
theorem Zcj_eq (x:tySs T S_Zcj.ps):run E_Zcj A_Zcj (Tryz.f79.body.getD .skip) (enterT E_Zcj.C S_Zcj.ps x) (retK E_Zcj Tryz.f79.results.toList S_Zcj.ps S_Zcj.rs)=S_Zcj.fn x:=by kernel_rfl
theorem Zcj_env:EnvOk Tryz.prog E_Zcj:=envOk (E:=E_Zcj) cd_ok tys fl_ok fun f ds S h=>by
    dsimp only [E_Zcj] at h
    split at h
    · cases h; exact Zci_ok
    · cases h
theorem Zcj_ok:SoundT Tryz.prog cd gdn 79 S_Zcj:=
  sound_fn (E:=E_Zcj) (A:=A_Zcj) (done:=[]) (c:=(Tryz.f79.body.getD .skip)) (S:=S_Zcj) (fn:=Tryz.f79) hmix Zcj_env Tryz.func79 rfl (by kernel_rfl) (by kernel_rfl) done_nil (by kernel_rfl) (by kernel_rfl) Zcj_eq
def Zcx (a0:(List (UInt8))) (a1:(List (UInt8))):Option ((Unit) × (Bool × Unit)):=
 (bif (!decide (((a0).length:Int)=((a1).length:Int))) then (some ((),((decide (((a0).length:Int) < ((a1).length:Int))),())))
 else ((Zcq a0 a1).bind fun r1=>(some ((),((decide (r1.2.1 < (0:Int))),())))))
def S_Zcx:FSpec T:=⟨[.f (.v (.rs 0)),.f (.v (.rs 0))],[(.v .bool)],fun x=>Zcx x.1 x.2.1⟩
def E_Zcx:Env T:=⟨tab.find,cd,globs,flc,fun f ds=>match f with
    | 171=>some S_Zcq
    | _=>none,fun f=>match f with
    | 171=>true
    | _=>false⟩
def A_Zcx:Loc2 T:=⟨fun id=>match id with
    | _=>none,fun r=>match r with
    | _=>none,fun r=>match r with
    | _=>false⟩
theorem Zcx_eq (x:tySs T S_Zcx.ps):run E_Zcx A_Zcx (Tryz.f150.body.getD .skip) (enterT E_Zcx.C S_Zcx.ps x) (retK E_Zcx Tryz.f150.results.toList S_Zcx.ps S_Zcx.rs)=S_Zcx.fn x:=by kernel_rfl
theorem Zcx_env:EnvOk Tryz.prog E_Zcx:=envOk (E:=E_Zcx) cd_ok tys fl_ok fun f ds S h=>by
    dsimp only [E_Zcx] at h
    split at h
    · cases h; exact Zcq_ok
    · cases h
theorem Zcx_ok:SoundT Tryz.prog cd gdn 150 S_Zcx:=
  sound_fn (E:=E_Zcx) (A:=A_Zcx) (done:=[]) (c:=(Tryz.f150.body.getD .skip)) (S:=S_Zcx) (fn:=Tryz.f150) hmix Zcx_env Tryz.func150 rfl (by kernel_rfl) (by kernel_rfl) done_nil (by kernel_rfl) (by kernel_rfl) Zcx_eq
def Zco_L0b (y0:((List (CborFrame)) × Int × Unit)) (y1:Int):Option ((((List (CborFrame)) × Int × Unit) × Int × Unit) ⊕ (((List (CborFrame)) × Int × Unit) × Unit)):=
 (bif (decide ((0:Int) < y1)) then (bif (decide ((0:Int) ≤ (IntKind.wrap .i64 (y1 - (1:Int)))) && decide ((IntKind.wrap .i64 (y1 - (1:Int))) < ((y0.1).length:Int))) then (((y0.1)[((IntKind.wrap .i64 (y1 - (1:Int)))).toNat]?).bind fun x10=>(bif (decide (x10.left=(0:Int))) then (bif (decide ((0:Int) ≤ (IntKind.wrap .i64 (y1 - (1:Int)))) && decide ((IntKind.wrap .i64 (y1 - (1:Int))) ≤ ((y0.1).length:Int))) then (bif decide (((IntKind.wrap .i64 (y1 - (1:Int)))).toNat ≤ (y0.1).length) then (some (Sum.inl (((List.take ((IntKind.wrap .i64 (y1 - (1:Int)))).toNat y0.1),y0.2.1,()),(IntKind.wrap .i64 (y1 - (1:Int))),())))
 else none)
 else none)
 else (some (Sum.inr ((y0.1,y0.2.1,()),())))))
 else none)
 else (some (Sum.inr ((y0.1,y0.2.1,()),()))))
def Zco_L0 (y:(((List (CborFrame)) × Int × Unit) × Int × Unit)):Option (((List (CborFrame)) × Int × Unit) × Unit):=iter (fun (y:(((List (CborFrame)) × Int × Unit) × Int × Unit))=>Zco_L0b y.1 y.2.1) rounds y
def Zco (a0:((List (CborFrame)) × Int × Unit)) (a1:ApiItem):Option ((((List (CborFrame)) × Int × Unit) × Unit) × (Unit)):=
 ((bif (decide ((0:Int) < ((a0.1).length:Int))) then (bif (decide ((0:Int) ≤ (IntKind.wrap .i64 (((a0.1).length:Int) - (1:Int)))) && decide ((IntKind.wrap .i64 (((a0.1).length:Int) - (1:Int))) < ((a0.1).length:Int))) then (((a0.1)[((IntKind.wrap .i64 (((a0.1).length:Int) - (1:Int)))).toNat]?).bind fun x1=>(bif (decide ((0:Int) ≤ (IntKind.wrap .i64 (((a0.1).length:Int) - (1:Int)))) && decide ((IntKind.wrap .i64 (((a0.1).length:Int) - (1:Int))) < ((a0.1).length:Int))) then (((a0.1)[((IntKind.wrap .i64 (((a0.1).length:Int) - (1:Int)))).toNat]?).bind fun x2=>(let v3:List (CborFrame):=(List.set a0.1 ((IntKind.wrap .i64 (((a0.1).length:Int) - (1:Int)))).toNat (⟨x2.pairs,(IntKind.wrap .i64 (x1.left - (1:Int))),x2.last_⟩:CborFrame))
 (some ((v3,(IntKind.wrap .i64 (a0.2.1 + (1:Int))),()),(a1,()),()))))
 else none))
 else none)
 else (some ((a0.1,(IntKind.wrap .i64 (a0.2.1 + (1:Int))),()),(a1,()),()))).bind (fun (j4:(((List (CborFrame)) × Int × Unit) × (ApiItem × Unit) × Unit))=>((bif (decide (j4.2.1.1.kind=(5:Int))) then (bif (decide ((0#64).toNat < j4.2.1.1.number.toNat)) then (let v5:List (CborFrame):=([(⟨false,(IntKind.wrap .i64 (j4.2.1.1.number.toNat:Int)),[]⟩:CborFrame)]:List (CborFrame))
 (bif small ((j4.1.1).length + (v5:List (CborFrame)).length) 40 then (some (((j4.1.1 ++ v5),j4.1.2.1,()),(j4.2.1.1,()),()))
 else none))
 else (some ((j4.1.1,j4.1.2.1,()),(j4.2.1.1,()),())))
 else (some ((j4.1.1,j4.1.2.1,()),(j4.2.1.1,()),()))).bind (fun (j6:(((List (CborFrame)) × Int × Unit) × (ApiItem × Unit) × Unit))=>((bif (decide (j6.2.1.1.kind=(6:Int))) then (bif (decide ((0#64).toNat < j6.2.1.1.number.toNat)) then (let v7:Int:=(IntKind.wrap .i64 ((2:Int) * (IntKind.wrap .i64 (j6.2.1.1.number.toNat:Int))))
 (bif small ((j6.1.1).length + (([(⟨true,v7,[]⟩:CborFrame)]:List (CborFrame)):List (CborFrame)).length) 40 then (let v8:List (CborFrame):=(j6.1.1 ++ ([(⟨true,v7,[]⟩:CborFrame)]:List (CborFrame)))
 (some ((v8,j6.1.2.1,()),())))
 else none))
 else (some ((j6.1.1,j6.1.2.1,()),())))
 else (some ((j6.1.1,j6.1.2.1,()),()))).bind (fun (j9:(((List (CborFrame)) × Int × Unit) × Unit))=>((Zco_L0 ((j9.1.1,j9.1.2.1,()),((j9.1.1).length:Int),())).bind (fun (z11:(((List (CborFrame)) × Int × Unit) × Unit))=>(some (((z11.1.1,z11.1.2.1,()),()),()))))))))))
def S_Zco:FSpec T:=⟨[.ptr [(.own 6),(.v (.int .i64))],.f (.v (.agg 1))],[],fun x=>Zco x.1 x.2.1⟩
def E_Zco:Env T:=⟨tab.find,cd,globs,flc,fun f ds=>match f with
    | _=>none,fun f=>match f with
    | _=>false⟩
def A_Zco:Loc2 T:=⟨fun id=>match id with
    | 0=>some ⟨[(0,.ptr [(.own 6),(.v (.int .i64))]),(5,.f (.v (.int .i64)))],[(.exit 0,[(0,.ptr [(.own 6),(.v (.int .i64))])])],Zco_L0,[]⟩
    | _=>none,fun r=>match r with
    | 5=>some ([(0,.ptr [(.own 6),(.v (.int .i64))]),(3,.ptr [(.v (.agg 1))])],true)
    | 7=>some ([(0,.ptr [(.own 6),(.v (.int .i64))]),(3,.ptr [(.v (.agg 1))])],true)
    | 9=>some ([(0,.ptr [(.own 6),(.v (.int .i64))])],true)
    | _=>none,fun r=>match r with
    | 6=>true
    | 8=>true
    | _=>false⟩
theorem Zco_L0_eq (y0:((List (CborFrame)) × Int × Unit)) (y1:Int):run E_Zco A_Zco (loopAt 0 (Tryz.f151.body.getD .skip)) (layC cd [(0,.ptr [(.own 6),(.v (.int .i64))]),(5,.f (.v (.int .i64)))] [] (y0,y1,())) (roundK cd [(0,.ptr [(.own 6),(.v (.int .i64))]),(5,.f (.v (.int .i64)))] [] [(.exit 0,[(0,.ptr [(.own 6),(.v (.int .i64))])])])=Zco_L0b y0 y1:=by kernel_rfl
theorem Zco_eq (x:tySs T S_Zco.ps):run E_Zco A_Zco (Tryz.f151.body.getD .skip) (enterT E_Zco.C S_Zco.ps x) (retK E_Zco Tryz.f151.results.toList S_Zco.ps S_Zco.rs)=S_Zco.fn x:=by kernel_rfl
theorem Zco_env:EnvOk Tryz.prog E_Zco:=envOk (E:=E_Zco) cd_ok tys fl_ok fun f ds S h=>by cases h
theorem Zco_L0_ok:LoopOk Tryz.prog E_Zco Tryz.f151.ntmps (kqOf S_Zco.ps 0) (loopAt 0 (Tryz.f151.body.getD .skip)) ⟨[(0,.ptr [(.own 6),(.v (.int .i64))]),(5,.f (.v (.int .i64)))],[(.exit 0,[(0,.ptr [(.own 6),(.v (.int .i64))])])],Zco_L0,[]⟩:=
  loop_ok (A:=A_Zco) (done:=[]) (c0:=(Tryz.f151.body.getD .skip)) hmix Zco_env done_nil rounds (by kernel_rfl) (by kernel_rfl) (fun x=>Zco_L0_eq x.1 x.2.1) (fun _=>rfl)
theorem Zco_ok:SoundT Tryz.prog cd gdn 151 S_Zco:=
  sound_fn (E:=E_Zco) (A:=A_Zco) (done:=[0]) (c:=(Tryz.f151.body.getD .skip)) (S:=S_Zco) (fn:=Tryz.f151) hmix Zco_env Tryz.func151 rfl (by kernel_rfl) (by kernel_rfl) (done_cons rfl Zco_L0_ok done_nil) (by kernel_rfl) (by kernel_rfl) Zco_eq
def Zbx (a0:((List (CborFrame)) × Int × Unit)) (a1:ApiItem):Option ((((List (CborFrame)) × Int × Unit) × Unit) × (Int × Unit)):=
 (bif (decide (a1.kind=(4:Int))) then ((Zcg a1.data).bind fun r1=>(bif (!r1.2.1) then (some (((a0.1,a0.2.1,()),()),((6:Int),())))
 else ((Zcl (⟨a0.1,a0.2.1⟩:CborWalk)).bind fun r2=>(bif r2.2.1 then (bif (decide ((0:Int) ≤ (IntKind.wrap .i64 (((a0.1).length:Int) - (1:Int)))) && decide ((IntKind.wrap .i64 (((a0.1).length:Int) - (1:Int))) < ((a0.1).length:Int))) then ((Zcj [] a1).bind fun r3=>(((a0.1)[((IntKind.wrap .i64 (((a0.1).length:Int) - (1:Int)))).toNat]?).bind fun x4=>(bif (!(x4.last_).isEmpty) then (((a0.1)[((IntKind.wrap .i64 (((a0.1).length:Int) - (1:Int)))).toNat]?).bind fun x5=>((Zcx x5.last_ r3.2.1).bind fun r6=>(bif (!r6.2.1) then (some (((a0.1,a0.2.1,()),()),((7:Int),())))
 else (((a0.1)[((IntKind.wrap .i64 (((a0.1).length:Int) - (1:Int)))).toNat]?).bind fun x7=>(bif (r3.2.1).isEmpty then none
 else (let v8:List (CborFrame):=(List.set a0.1 ((IntKind.wrap .i64 (((a0.1).length:Int) - (1:Int)))).toNat (⟨x7.pairs,x7.left,r3.2.1⟩:CborFrame))
 ((Zco (v8,a0.2.1,()) a1).bind fun r9=>(some (((r9.1.1.1,r9.1.1.2.1,()),()),((0:Int),()))))))))))
 else (((a0.1)[((IntKind.wrap .i64 (((a0.1).length:Int) - (1:Int)))).toNat]?).bind fun x10=>(bif (r3.2.1).isEmpty then none
 else (let v11:List (CborFrame):=(List.set a0.1 ((IntKind.wrap .i64 (((a0.1).length:Int) - (1:Int)))).toNat (⟨x10.pairs,x10.left,r3.2.1⟩:CborFrame))
 ((Zco (v11,a0.2.1,()) a1).bind fun r12=>(some (((r12.1.1.1,r12.1.1.2.1,()),()),((0:Int),()))))))))))
 else none)
 else ((Zco (a0.1,a0.2.1,()) a1).bind fun r13=>(some (((r13.1.1.1,r13.1.1.2.1,()),()),((0:Int),()))))))))
 else ((Zcl (⟨a0.1,a0.2.1⟩:CborWalk)).bind fun r14=>(bif r14.2.1 then (bif (decide ((0:Int) ≤ (IntKind.wrap .i64 (((a0.1).length:Int) - (1:Int)))) && decide ((IntKind.wrap .i64 (((a0.1).length:Int) - (1:Int))) < ((a0.1).length:Int))) then ((Zcj [] a1).bind fun r15=>(((a0.1)[((IntKind.wrap .i64 (((a0.1).length:Int) - (1:Int)))).toNat]?).bind fun x16=>(bif (!(x16.last_).isEmpty) then (((a0.1)[((IntKind.wrap .i64 (((a0.1).length:Int) - (1:Int)))).toNat]?).bind fun x17=>((Zcx x17.last_ r15.2.1).bind fun r18=>(bif (!r18.2.1) then (some (((a0.1,a0.2.1,()),()),((7:Int),())))
 else (((a0.1)[((IntKind.wrap .i64 (((a0.1).length:Int) - (1:Int)))).toNat]?).bind fun x19=>(bif (r15.2.1).isEmpty then none
 else (let v20:List (CborFrame):=(List.set a0.1 ((IntKind.wrap .i64 (((a0.1).length:Int) - (1:Int)))).toNat (⟨x19.pairs,x19.left,r15.2.1⟩:CborFrame))
 ((Zco (v20,a0.2.1,()) a1).bind fun r21=>(some (((r21.1.1.1,r21.1.1.2.1,()),()),((0:Int),()))))))))))
 else (((a0.1)[((IntKind.wrap .i64 (((a0.1).length:Int) - (1:Int)))).toNat]?).bind fun x22=>(bif (r15.2.1).isEmpty then none
 else (let v23:List (CborFrame):=(List.set a0.1 ((IntKind.wrap .i64 (((a0.1).length:Int) - (1:Int)))).toNat (⟨x22.pairs,x22.left,r15.2.1⟩:CborFrame))
 ((Zco (v23,a0.2.1,()) a1).bind fun r24=>(some (((r24.1.1.1,r24.1.1.2.1,()),()),((0:Int),()))))))))))
 else none)
 else ((Zco (a0.1,a0.2.1,()) a1).bind fun r25=>(some (((r25.1.1.1,r25.1.1.2.1,()),()),((0:Int),())))))))
def S_Zbx:FSpec T:=⟨[.ptr [(.own 6),(.v (.int .i64))],.f (.v (.agg 1))],[(.v (.int .i64))],fun x=>Zbx x.1 x.2.1⟩
def E_Zbx:Env T:=⟨tab.find,cd,globs,flc,fun f ds=>match f with
    | 49=>some S_Zcg
    | 79=>some S_Zcj
    | 149=>some S_Zcl
    | 150=>some S_Zcx
    | 151=>some S_Zco
    | _=>none,fun f=>match f with
    | 49=>true
    | 149=>true
    | 150=>true
    | _=>false⟩
def A_Zbx:Loc2 T:=⟨fun id=>match id with
    | _=>none,fun r=>match r with
    | _=>none,fun r=>match r with
    | _=>false⟩
theorem Zbx_eq (x:tySs T S_Zbx.ps):run E_Zbx A_Zbx (Tryz.f116.body.getD .skip) (enterT E_Zbx.C S_Zbx.ps x) (retK E_Zbx Tryz.f116.results.toList S_Zbx.ps S_Zbx.rs)=S_Zbx.fn x:=by kernel_rfl
theorem Zbx_env:EnvOk Tryz.prog E_Zbx:=envOk (E:=E_Zbx) cd_ok tys fl_ok fun f ds S h=>by
    dsimp only [E_Zbx] at h
    split at h
    · cases h; exact Zcg_ok
    · cases h; exact Zcj_ok
    · cases h; exact Zcl_ok
    · cases h; exact Zcx_ok
    · cases h; exact Zco_ok
    · cases h
theorem Zbx_ok:SoundT Tryz.prog cd gdn 116 S_Zbx:=
  sound_fn (E:=E_Zbx) (A:=A_Zbx) (done:=[]) (c:=(Tryz.f116.body.getD .skip)) (S:=S_Zbx) (fn:=Tryz.f116) hmix Zbx_env Tryz.func116 rfl (by kernel_rfl) (by kernel_rfl) done_nil (by kernel_rfl) (by kernel_rfl) Zbx_eq
def Zbk (a0:((List (CborFrame)) × Int × Unit)) (a1:ApiItem):Option ((((List (CborFrame)) × Int × Unit) × Unit) × (Int × Unit)):=
 ((Zcn (⟨a0.1,a0.2.1⟩:CborWalk)).bind fun r1=>(bif r1.2.1 then (some (((a0.1,a0.2.1,()),()),((2:Int),())))
 else ((Zck (⟨a0.1,a0.2.1⟩:CborWalk) a1.kind).bind fun r2=>(bif (!decide (r2.2.1=(0:Int))) then (some (((a0.1,a0.2.1,()),()),(r2.2.1,())))
 else ((Zdf a1).bind fun r3=>(bif (!r3.2.1) then (some (((a0.1,a0.2.1,()),()),((4:Int),())))
 else (bif (decide ((1024:Int) < ((a1.data).length:Int))) then (some (((a0.1,a0.2.1,()),()),((8:Int),())))
 else (bif (decide (a1.kind=(5:Int))) then (bif (decide ((512#64).toNat < a1.number.toNat)) then (some (((a0.1,a0.2.1,()),()),((8:Int),())))
 else ((Zbx (a0.1,a0.2.1,()) a1).bind fun r4=>(some (((r4.1.1.1,r4.1.1.2.1,()),()),(r4.2.1,())))))
 else (bif (decide (a1.kind=(6:Int))) then (bif (decide ((512#64).toNat < a1.number.toNat)) then (some (((a0.1,a0.2.1,()),()),((8:Int),())))
 else ((Zbx (a0.1,a0.2.1,()) a1).bind fun r5=>(some (((r5.1.1.1,r5.1.1.2.1,()),()),(r5.2.1,())))))
 else ((Zbx (a0.1,a0.2.1,()) a1).bind fun r6=>(some (((r6.1.1.1,r6.1.1.2.1,()),()),(r6.2.1,())))))))))))))
def S_Zbk:FSpec T:=⟨[.ptr [(.own 6),(.v (.int .i64))],.f (.v (.agg 1))],[(.v (.int .i64))],fun x=>Zbk x.1 x.2.1⟩
def E_Zbk:Env T:=⟨tab.find,cd,globs,flc,fun f ds=>match f with
    | 83=>some S_Zcn
    | 115=>some S_Zck
    | 116=>some S_Zbx
    | 146=>some S_Zdf
    | _=>none,fun f=>match f with
    | 83=>true
    | 115=>true
    | 146=>true
    | _=>false⟩
def A_Zbk:Loc2 T:=⟨fun id=>match id with
    | _=>none,fun r=>match r with
    | _=>none,fun r=>match r with
    | _=>false⟩
theorem Zbk_eq (x:tySs T S_Zbk.ps):run E_Zbk A_Zbk (Tryz.f110.body.getD .skip) (enterT E_Zbk.C S_Zbk.ps x) (retK E_Zbk Tryz.f110.results.toList S_Zbk.ps S_Zbk.rs)=S_Zbk.fn x:=by kernel_rfl
theorem Zbk_env:EnvOk Tryz.prog E_Zbk:=envOk (E:=E_Zbk) cd_ok tys fl_ok fun f ds S h=>by
    dsimp only [E_Zbk] at h
    split at h
    · cases h; exact Zcn_ok
    · cases h; exact Zck_ok
    · cases h; exact Zbx_ok
    · cases h; exact Zdf_ok
    · cases h
theorem Zbk_ok:SoundT Tryz.prog cd gdn 110 S_Zbk:=
  sound_fn (E:=E_Zbk) (A:=A_Zbk) (done:=[]) (c:=(Tryz.f110.body.getD .skip)) (S:=S_Zbk) (fn:=Tryz.f110) hmix Zbk_env Tryz.func110 rfl (by kernel_rfl) (by kernel_rfl) done_nil (by kernel_rfl) (by kernel_rfl) Zbk_eq
def Zcr_L0b (y0:((List (CborFrame)) × Int × Unit)) (y1:(List (ApiItem))) (y2:Int) (y3:Int):Option ((((List (CborFrame)) × Int × Unit) × (List (ApiItem)) × Int × Int × Unit) ⊕ ((Int × Unit) ⊕ (((List (CborFrame)) × Int × Unit) × Unit))):=
 (bif (decide (y3 < y2)) then ((getI y1 y3).bind fun x1=>((Zbk (y0.1,y0.2.1,()) x1).bind fun r2=>(bif (!decide (r2.2.1=(0:Int))) then (some (Sum.inr (Sum.inl (r2.2.1,()))))
 else (some (Sum.inl ((r2.1.1.1,r2.1.1.2.1,()),y1,y2,(IntKind.wrap .i64 (y3 + (1:Int))),()))))))
 else (some (Sum.inr (Sum.inr ((y0.1,y0.2.1,()),())))))
def Zcr_L0 (y:(((List (CborFrame)) × Int × Unit) × (List (ApiItem)) × Int × Int × Unit)):Option ((Int × Unit) ⊕ (((List (CborFrame)) × Int × Unit) × Unit)):=iter (fun (y:(((List (CborFrame)) × Int × Unit) × (List (ApiItem)) × Int × Int × Unit))=>Zcr_L0b y.1 y.2.1 y.2.2.1 y.2.2.2.1) rounds y
def Zcr (a0:(List (ApiItem))):Option ((Unit) × (Int × Unit)):=
 ((Zcr_L0 (([],(0:Int),()),a0,((a0).length:Int),(0:Int),())).bind (Sum.elim (fun (z3:(Int × Unit))=>(some ((),(z3.1,())))) (fun (z4:(((List (CborFrame)) × Int × Unit) × Unit))=>((Zcn (⟨z4.1.1,z4.1.2.1⟩:CborWalk)).bind fun r5=>(bif (!r5.2.1) then (some ((),((1:Int),())))
 else (some ((),((0:Int),()))))))))
def S_Zcr:FSpec T:=⟨[.f (.v (.rs 1))],[(.v (.int .i64))],fun x=>Zcr x.1⟩
def E_Zcr:Env T:=⟨tab.find,cd,globs,flc,fun f ds=>match f with
    | 83=>some S_Zcn
    | 110=>some S_Zbk
    | _=>none,fun f=>match f with
    | 83=>true
    | _=>false⟩
def A_Zcr:Loc2 T:=⟨fun id=>match id with
    | 0=>some ⟨[(3,.ptr [(.own 6),(.v (.int .i64))]),(7,.f (.v (.rs 1))),(8,.f (.v (.int .i64))),(9,.f (.v (.int .i64)))],[(.ret,[(2,.f (.v (.int .i64)))]),(.exit 0,[(3,.ptr [(.own 6),(.v (.int .i64))])])],Zcr_L0,[]⟩
    | _=>none,fun r=>match r with
    | _=>none,fun r=>match r with
    | _=>false⟩
theorem Zcr_L0_eq (y0:((List (CborFrame)) × Int × Unit)) (y1:(List (ApiItem))) (y2:Int) (y3:Int):run E_Zcr A_Zcr (loopAt 0 (Tryz.f78.body.getD .skip)) (layC cd [(3,.ptr [(.own 6),(.v (.int .i64))]),(7,.f (.v (.rs 1))),(8,.f (.v (.int .i64))),(9,.f (.v (.int .i64)))] [] (y0,y1,y2,y3,())) (roundK cd [(3,.ptr [(.own 6),(.v (.int .i64))]),(7,.f (.v (.rs 1))),(8,.f (.v (.int .i64))),(9,.f (.v (.int .i64)))] [] [(.ret,[(2,.f (.v (.int .i64)))]),(.exit 0,[(3,.ptr [(.own 6),(.v (.int .i64))])])])=Zcr_L0b y0 y1 y2 y3:=by kernel_rfl
theorem Zcr_eq (x:tySs T S_Zcr.ps):run E_Zcr A_Zcr (Tryz.f78.body.getD .skip) (enterT E_Zcr.C S_Zcr.ps x) (retK E_Zcr Tryz.f78.results.toList S_Zcr.ps S_Zcr.rs)=S_Zcr.fn x:=by kernel_rfl
theorem Zcr_env:EnvOk Tryz.prog E_Zcr:=envOk (E:=E_Zcr) cd_ok tys fl_ok fun f ds S h=>by
    dsimp only [E_Zcr] at h
    split at h
    · cases h; exact Zcn_ok
    · cases h; exact Zbk_ok
    · cases h
theorem Zcr_L0_ok:LoopOk Tryz.prog E_Zcr Tryz.f78.ntmps (kqOf S_Zcr.ps 0) (loopAt 0 (Tryz.f78.body.getD .skip)) ⟨[(3,.ptr [(.own 6),(.v (.int .i64))]),(7,.f (.v (.rs 1))),(8,.f (.v (.int .i64))),(9,.f (.v (.int .i64)))],[(.ret,[(2,.f (.v (.int .i64)))]),(.exit 0,[(3,.ptr [(.own 6),(.v (.int .i64))])])],Zcr_L0,[]⟩:=
  loop_ok (A:=A_Zcr) (done:=[]) (c0:=(Tryz.f78.body.getD .skip)) hmix Zcr_env done_nil rounds (by kernel_rfl) (by kernel_rfl) (fun x=>Zcr_L0_eq x.1 x.2.1 x.2.2.1 x.2.2.2.1) (fun _=>rfl)
theorem Zcr_ok:SoundT Tryz.prog cd gdn 78 S_Zcr:=
  sound_fn (E:=E_Zcr) (A:=A_Zcr) (done:=[0]) (c:=(Tryz.f78.body.getD .skip)) (S:=S_Zcr) (fn:=Tryz.f78) hmix Zcr_env Tryz.func78 rfl (by kernel_rfl) (by kernel_rfl) (done_cons rfl Zcr_L0_ok done_nil) (by kernel_rfl) (by kernel_rfl) Zcr_eq
def Zde_L0b (y0:(List (List ApiItem))) (y1:Int) (y2:Int):Option (((List (List ApiItem)) × Int × Int × Unit) ⊕ ((Int × Unit) ⊕ (Unit))):=
 (bif (decide (y2 < y1)) then ((getI y0 y2).bind fun x1=>((Zcr x1).bind fun r2=>(bif (!decide (r2.2.1=(0:Int))) then (some (Sum.inr (Sum.inl (r2.2.1,()))))
 else (some (Sum.inl (y0,y1,(IntKind.wrap .i64 (y2 + (1:Int))),()))))))
 else (some (Sum.inr (Sum.inr ()))))
def Zde_L0 (y:((List (List ApiItem)) × Int × Int × Unit)):Option ((Int × Unit) ⊕ (Unit)):=iter (fun (y:((List (List ApiItem)) × Int × Int × Unit))=>Zde_L0b y.1 y.2.1 y.2.2.1) rounds y
def Zde (a0:(List (List ApiItem))):Option ((Unit) × (Int × Unit)):=
 ((Zde_L0 (a0,((a0).length:Int),(0:Int),())).bind (Sum.elim (fun (z3:(Int × Unit))=>(some ((),(z3.1,())))) (fun (z4:(Unit))=>(some ((),((0:Int),()))))))
def S_Zde:FSpec T:=⟨[.f (.v (.rs 4))],[(.v (.int .i64))],fun x=>Zde x.1⟩
def E_Zde:Env T:=⟨tab.find,cd,globs,flc,fun f ds=>match f with
    | 78=>some S_Zcr
    | _=>none,fun f=>match f with
    | 78=>true
    | _=>false⟩
def A_Zde:Loc2 T:=⟨fun id=>match id with
    | 0=>some ⟨[(6,.f (.v (.rs 4))),(7,.f (.v (.int .i64))),(8,.f (.v (.int .i64)))],[(.ret,[(2,.f (.v (.int .i64)))]),(.exit 0,[])],Zde_L0,[]⟩
    | _=>none,fun r=>match r with
    | _=>none,fun r=>match r with
    | _=>false⟩
theorem Zde_L0_eq (y0:(List (List ApiItem))) (y1:Int) (y2:Int):run E_Zde A_Zde (loopAt 0 (Tryz.f76.body.getD .skip)) (layC cd [(6,.f (.v (.rs 4))),(7,.f (.v (.int .i64))),(8,.f (.v (.int .i64)))] [] (y0,y1,y2,())) (roundK cd [(6,.f (.v (.rs 4))),(7,.f (.v (.int .i64))),(8,.f (.v (.int .i64)))] [] [(.ret,[(2,.f (.v (.int .i64)))]),(.exit 0,[])])=Zde_L0b y0 y1 y2:=by kernel_rfl
theorem Zde_eq (x:tySs T S_Zde.ps):run E_Zde A_Zde (Tryz.f76.body.getD .skip) (enterT E_Zde.C S_Zde.ps x) (retK E_Zde Tryz.f76.results.toList S_Zde.ps S_Zde.rs)=S_Zde.fn x:=by kernel_rfl
theorem Zde_env:EnvOk Tryz.prog E_Zde:=envOk (E:=E_Zde) cd_ok tys fl_ok fun f ds S h=>by
    dsimp only [E_Zde] at h
    split at h
    · cases h; exact Zcr_ok
    · cases h
theorem Zde_L0_ok:LoopOk Tryz.prog E_Zde Tryz.f76.ntmps (kqOf S_Zde.ps 0) (loopAt 0 (Tryz.f76.body.getD .skip)) ⟨[(6,.f (.v (.rs 4))),(7,.f (.v (.int .i64))),(8,.f (.v (.int .i64)))],[(.ret,[(2,.f (.v (.int .i64)))]),(.exit 0,[])],Zde_L0,[]⟩:=
  loop_ok (A:=A_Zde) (done:=[]) (c0:=(Tryz.f76.body.getD .skip)) hmix Zde_env done_nil rounds (by kernel_rfl) (by kernel_rfl) (fun x=>Zde_L0_eq x.1 x.2.1 x.2.2.1) (fun _=>rfl)
theorem Zde_ok:SoundT Tryz.prog cd gdn 76 S_Zde:=
  sound_fn (E:=E_Zde) (A:=A_Zde) (done:=[0]) (c:=(Tryz.f76.body.getD .skip)) (S:=S_Zde) (fn:=Tryz.f76) hmix Zde_env Tryz.func76 rfl (by kernel_rfl) (by kernel_rfl) (done_cons rfl Zde_L0_ok done_nil) (by kernel_rfl) (by kernel_rfl) Zde_eq
def Zcw (a0:(List (ApiItem))):Option ((Unit) × ((List (ApiItem)) × Int × Unit)):=
 ((Zcr a0).bind fun r1=>(bif (!decide (r1.2.1=(0:Int))) then (some ((),([],r1.2.1,())))
 else (some ((),(a0,(0:Int),())))))
def S_Zcw:FSpec T:=⟨[.f (.v (.rs 1))],[(.v (.rs 1)),(.v (.int .i64))],fun x=>Zcw x.1⟩
def E_Zcw:Env T:=⟨tab.find,cd,globs,flc,fun f ds=>match f with
    | 78=>some S_Zcr
    | _=>none,fun f=>match f with
    | 78=>true
    | _=>false⟩
def A_Zcw:Loc2 T:=⟨fun id=>match id with
    | _=>none,fun r=>match r with
    | _=>none,fun r=>match r with
    | _=>false⟩
theorem Zcw_eq (x:tySs T S_Zcw.ps):run E_Zcw A_Zcw (Tryz.f77.body.getD .skip) (enterT E_Zcw.C S_Zcw.ps x) (retK E_Zcw Tryz.f77.results.toList S_Zcw.ps S_Zcw.rs)=S_Zcw.fn x:=by kernel_rfl
theorem Zcw_env:EnvOk Tryz.prog E_Zcw:=envOk (E:=E_Zcw) cd_ok tys fl_ok fun f ds S h=>by
    dsimp only [E_Zcw] at h
    split at h
    · cases h; exact Zcr_ok
    · cases h
theorem Zcw_ok:SoundT Tryz.prog cd gdn 77 S_Zcw:=
  sound_fn (E:=E_Zcw) (A:=A_Zcw) (done:=[]) (c:=(Tryz.f77.body.getD .skip)) (S:=S_Zcw) (fn:=Tryz.f77) hmix Zcw_env Tryz.func77 rfl (by kernel_rfl) (by kernel_rfl) done_nil (by kernel_rfl) (by kernel_rfl) Zcw_eq
def cbor_Map_L0b (y0:(List (List ApiItem))) (y1:(List (BitVec 64))) (y2:(List (Int))) (y3:Int) (y4:Int):Option (((List (List ApiItem)) × (List (BitVec 64)) × (List (Int)) × Int × Int × Unit) ⊕ ((List (List ApiItem)) × (List (BitVec 64)) × (List (Int)) × Unit)):=
 (bif (decide (y4 < y3)) then (bif (decide ((0:Int) ≤ y4) && decide (y4 < ((y2).length:Int))) then (((y2)[(y4).toNat]?).bind fun x2=>(some (Sum.inl (y0,y1,(List.set y2 (y4).toNat y4),y3,(IntKind.wrap .i64 (y4 + (1:Int))),()))))
 else none)
 else (some (Sum.inr (y0,y1,y2,()))))
def cbor_Map_L0 (y:((List (List ApiItem)) × (List (BitVec 64)) × (List (Int)) × Int × Int × Unit)):Option ((List (List ApiItem)) × (List (BitVec 64)) × (List (Int)) × Unit):=iter (fun (y:((List (List ApiItem)) × (List (BitVec 64)) × (List (Int)) × Int × Int × Unit))=>cbor_Map_L0b y.1 y.2.1 y.2.2.1 y.2.2.2.1 y.2.2.2.2.1) rounds y
def cbor_Map_L2b (y0:(List (List ApiItem))) (y1:(List (BitVec 64))) (y2:(List (Int))) (y3:Int):Option (((List (List ApiItem)) × (List (BitVec 64)) × (List (Int)) × Int × Unit) ⊕ (((List (ApiItem)) × Int × Unit) ⊕ ((List (List ApiItem)) × (List (BitVec 64)) × (List (Int)) × Unit))):=
 (bif (decide (y3 < ((y2).length:Int))) then (bif (decide ((0:Int) ≤ (IntKind.wrap .i64 (y3 - (1:Int)))) && decide ((IntKind.wrap .i64 (y3 - (1:Int))) < ((y2).length:Int))) then (((y2)[((IntKind.wrap .i64 (y3 - (1:Int)))).toNat]?).bind fun x5=>((getI y1 x5).bind fun x6=>(bif (decide ((0:Int) ≤ y3) && decide (y3 < ((y2).length:Int))) then (((y2)[(y3).toNat]?).bind fun x7=>((getI y1 x7).bind fun x8=>(bif (decide (x6=x8)) then (some (Sum.inr (Sum.inl ([],(10:Int),()))))
 else (some (Sum.inl (y0,y1,y2,(IntKind.wrap .i64 (y3 + (1:Int))),()))))))
 else none)))
 else none)
 else (some (Sum.inr (Sum.inr (y0,y1,y2,())))))
def cbor_Map_L2 (y:((List (List ApiItem)) × (List (BitVec 64)) × (List (Int)) × Int × Unit)):Option (((List (ApiItem)) × Int × Unit) ⊕ ((List (List ApiItem)) × (List (BitVec 64)) × (List (Int)) × Unit)):=iter (fun (y:((List (List ApiItem)) × (List (BitVec 64)) × (List (Int)) × Int × Unit))=>cbor_Map_L2b y.1 y.2.1 y.2.2.1 y.2.2.2.1) rounds y
def cbor_Map_L4b (y0:(List (List ApiItem))) (y1:(List (BitVec 64))) (y2:(List (ApiItem))) (y3:(List (Int))) (y4:Int) (y5:Int):Option (((List (List ApiItem)) × (List (BitVec 64)) × (List (ApiItem)) × (List (Int)) × Int × Int × Unit) ⊕ ((List (ApiItem)) × Unit)):=
 (bif (decide (y5 < y4)) then (bif (decide ((0:Int) ≤ y5) && decide (y5 < ((y3).length:Int))) then (((y3)[(y5).toNat]?).bind fun x13=>(bif (decide ((512:Int) < ((y2).length:Int))) then (some (Sum.inr (y2,())))
 else ((getI y1 x13).bind fun x14=>((Zdq x14).bind fun r15=>(bif small ((y2).length + (r15.2.1:List (ApiItem)).length) 32 then ((getI y0 x13).bind fun x16=>(bif small (((y2 ++ r15.2.1)).length + (x16:List (ApiItem)).length) 32 then (some (Sum.inl (y0,y1,((y2 ++ r15.2.1) ++ x16),y3,y4,(IntKind.wrap .i64 (y5 + (1:Int))),())))
 else none))
 else none)))))
 else none)
 else (some (Sum.inr (y2,()))))
def cbor_Map_L4 (y:((List (List ApiItem)) × (List (BitVec 64)) × (List (ApiItem)) × (List (Int)) × Int × Int × Unit)):Option ((List (ApiItem)) × Unit):=iter (fun (y:((List (List ApiItem)) × (List (BitVec 64)) × (List (ApiItem)) × (List (Int)) × Int × Int × Unit))=>cbor_Map_L4b y.1 y.2.1 y.2.2.1 y.2.2.2.1 y.2.2.2.2.1 y.2.2.2.2.2.1) rounds y
def cbor_Map (a0:(List (BitVec 64))) (a1:(List (List ApiItem))):Option ((Unit) × ((List (ApiItem)) × Int × Unit)):=
 (bif (!decide (((a0).length:Int)=((a1).length:Int))) then (some ((),([],(4:Int),())))
 else (bif (decide ((0:Int) ≤ ((a0).length:Int)) && (decide (((a0).length:Int) ≤ ((a0).length:Int)) && decide ((8:Int) * ((a0).length:Int) ≤ 281474976710656 ∧ ((a0).length:Int) ≤ 9223372036854775807))) then (let v1:List (Int):=(List.replicate (((a0).length:Int)).toNat (0:Int))
 ((cbor_Map_L0 (a1,a0,v1,((((a0).length:Int)).toNat:Int),(0:Int),())).bind (fun (z3:((List (List ApiItem)) × (List (BitVec 64)) × (List (Int)) × Unit))=>((Zal z3.2.2.1 (z3.2.1,())).bind fun r4=>((cbor_Map_L2 (z3.1,z3.2.1,r4.1.1,(1:Int),())).bind (Sum.elim (fun (z9:((List (ApiItem)) × Int × Unit))=>(some ((),(z9.1,z9.2.1,())))) (fun (z10:((List (List ApiItem)) × (List (BitVec 64)) × (List (Int)) × Unit))=>((Zde z10.1).bind fun r11=>(bif (!decide (r11.2.1=(0:Int))) then (some ((),([],r11.2.1,())))
 else (let v12:List (ApiItem):=([(⟨(6:Int),(BitVec.ofInt 64 ((z10.2.1).length:Int)),([]:List UInt8)⟩:ApiItem)]:List (ApiItem))
 ((cbor_Map_L4 (z10.1,z10.2.1,v12,z10.2.2.1,((z10.2.2.1).length:Int),(0:Int),())).bind (fun (z17:((List (ApiItem)) × Unit))=>((Zcw z17.1).bind fun r18=>(some ((),(r18.2.1,r18.2.2.1,()))))))))))))))))
 else none))
def S_cbor_Map:FSpec T:=⟨[.f (.v (.rs 3)),.f (.v (.rs 4))],[(.v (.rs 1)),(.v (.int .i64))],fun x=>cbor_Map x.1 x.2.1⟩
def E_cbor_Map:Env T:=⟨tab.find,cd,globs,flc,fun f ds=>match f with
    | 40=>some S_Zdq
    | 73=>match fnAt ds 1 with
      | some 74=>some S_Zal
      | _=>none
    | 76=>some S_Zde
    | 77=>some S_Zcw
    | _=>none,fun f=>match f with
    | 76=>true
    | _=>false⟩
def A_cbor_Map:Loc2 T:=⟨fun id=>match id with
    | 0=>some ⟨[(1,.f (.v (.rs 4))),(2,.f (.v (.ref (.rs 3)))),(6,.f (.own 5)),(22,.f (.v (.int .i64))),(23,.f (.v (.int .i64)))],[(.exit 0,[(1,.f (.v (.rs 4))),(2,.f (.v (.ref (.rs 3)))),(6,.f (.own 5))])],cbor_Map_L0,[]⟩
    | 2=>some ⟨[(1,.f (.v (.rs 4))),(2,.f (.v (.ref (.rs 3)))),(6,.f (.own 5)),(8,.f (.v (.int .i64)))],[(.ret,[(4,.f (.own 1)),(5,.f (.v (.int .i64)))]),(.exit 2,[(1,.f (.v (.rs 4))),(2,.f (.v (.ref (.rs 3)))),(6,.f (.own 5))])],cbor_Map_L2,[]⟩
    | 4=>some ⟨[(1,.f (.v (.rs 4))),(2,.f (.v (.ref (.rs 3)))),(10,.f (.own 1)),(66,.f (.own 5)),(67,.f (.v (.int .i64))),(68,.f (.v (.int .i64)))],[(.exit 4,[(10,.f (.own 1))])],cbor_Map_L4,[]⟩
    | _=>none,fun r=>match r with
    | _=>none,fun r=>match r with
    | _=>false⟩
theorem cbor_Map_L0_eq (y0:(List (List ApiItem))) (y1:(List (BitVec 64))) (y2:(List (Int))) (y3:Int) (y4:Int):run E_cbor_Map A_cbor_Map (loopAt 0 (Tryz.f37.body.getD .skip)) (layC cd [(1,.f (.v (.rs 4))),(2,.f (.v (.ref (.rs 3)))),(6,.f (.own 5)),(22,.f (.v (.int .i64))),(23,.f (.v (.int .i64)))] [] (y0,y1,y2,y3,y4,())) (roundK cd [(1,.f (.v (.rs 4))),(2,.f (.v (.ref (.rs 3)))),(6,.f (.own 5)),(22,.f (.v (.int .i64))),(23,.f (.v (.int .i64)))] [] [(.exit 0,[(1,.f (.v (.rs 4))),(2,.f (.v (.ref (.rs 3)))),(6,.f (.own 5))])])=cbor_Map_L0b y0 y1 y2 y3 y4:=by kernel_rfl
theorem cbor_Map_L2_eq (y0:(List (List ApiItem))) (y1:(List (BitVec 64))) (y2:(List (Int))) (y3:Int):run E_cbor_Map A_cbor_Map (loopAt 2 (Tryz.f37.body.getD .skip)) (layC cd [(1,.f (.v (.rs 4))),(2,.f (.v (.ref (.rs 3)))),(6,.f (.own 5)),(8,.f (.v (.int .i64)))] [] (y0,y1,y2,y3,())) (roundK cd [(1,.f (.v (.rs 4))),(2,.f (.v (.ref (.rs 3)))),(6,.f (.own 5)),(8,.f (.v (.int .i64)))] [] [(.ret,[(4,.f (.own 1)),(5,.f (.v (.int .i64)))]),(.exit 2,[(1,.f (.v (.rs 4))),(2,.f (.v (.ref (.rs 3)))),(6,.f (.own 5))])])=cbor_Map_L2b y0 y1 y2 y3:=by kernel_rfl
theorem cbor_Map_L4_eq (y0:(List (List ApiItem))) (y1:(List (BitVec 64))) (y2:(List (ApiItem))) (y3:(List (Int))) (y4:Int) (y5:Int):run E_cbor_Map A_cbor_Map (loopAt 4 (Tryz.f37.body.getD .skip)) (layC cd [(1,.f (.v (.rs 4))),(2,.f (.v (.ref (.rs 3)))),(10,.f (.own 1)),(66,.f (.own 5)),(67,.f (.v (.int .i64))),(68,.f (.v (.int .i64)))] [] (y0,y1,y2,y3,y4,y5,())) (roundK cd [(1,.f (.v (.rs 4))),(2,.f (.v (.ref (.rs 3)))),(10,.f (.own 1)),(66,.f (.own 5)),(67,.f (.v (.int .i64))),(68,.f (.v (.int .i64)))] [] [(.exit 4,[(10,.f (.own 1))])])=cbor_Map_L4b y0 y1 y2 y3 y4 y5:=by kernel_rfl
theorem cbor_Map_eq (x:tySs T S_cbor_Map.ps):run E_cbor_Map A_cbor_Map (Tryz.f37.body.getD .skip) (enterT E_cbor_Map.C S_cbor_Map.ps x) (retK E_cbor_Map Tryz.f37.results.toList S_cbor_Map.ps S_cbor_Map.rs)=S_cbor_Map.fn x:=by kernel_rfl
theorem cbor_Map_env:EnvOk Tryz.prog E_cbor_Map:=envOk (E:=E_cbor_Map) cd_ok tys fl_ok fun f ds S h=>by
    dsimp only [E_cbor_Map] at h
    split at h
    · cases h; exact Zdq_ok
    · split at h
      · cases h; exact Zal_ok
      · cases h
    · cases h; exact Zde_ok
    · cases h; exact Zcw_ok
    · cases h
theorem cbor_Map_L0_ok:LoopOk Tryz.prog E_cbor_Map Tryz.f37.ntmps (kqOf S_cbor_Map.ps 0) (loopAt 0 (Tryz.f37.body.getD .skip)) ⟨[(1,.f (.v (.rs 4))),(2,.f (.v (.ref (.rs 3)))),(6,.f (.own 5)),(22,.f (.v (.int .i64))),(23,.f (.v (.int .i64)))],[(.exit 0,[(1,.f (.v (.rs 4))),(2,.f (.v (.ref (.rs 3)))),(6,.f (.own 5))])],cbor_Map_L0,[]⟩:=
  loop_ok (A:=A_cbor_Map) (done:=[]) (c0:=(Tryz.f37.body.getD .skip)) hmix cbor_Map_env done_nil rounds (by kernel_rfl) (by kernel_rfl) (fun x=>cbor_Map_L0_eq x.1 x.2.1 x.2.2.1 x.2.2.2.1 x.2.2.2.2.1) (fun _=>rfl)
theorem cbor_Map_L2_ok:LoopOk Tryz.prog E_cbor_Map Tryz.f37.ntmps (kqOf S_cbor_Map.ps 0) (loopAt 2 (Tryz.f37.body.getD .skip)) ⟨[(1,.f (.v (.rs 4))),(2,.f (.v (.ref (.rs 3)))),(6,.f (.own 5)),(8,.f (.v (.int .i64)))],[(.ret,[(4,.f (.own 1)),(5,.f (.v (.int .i64)))]),(.exit 2,[(1,.f (.v (.rs 4))),(2,.f (.v (.ref (.rs 3)))),(6,.f (.own 5))])],cbor_Map_L2,[]⟩:=
  loop_ok (A:=A_cbor_Map) (done:=[0]) (c0:=(Tryz.f37.body.getD .skip)) hmix cbor_Map_env (done_cons rfl cbor_Map_L0_ok done_nil) rounds (by kernel_rfl) (by kernel_rfl) (fun x=>cbor_Map_L2_eq x.1 x.2.1 x.2.2.1 x.2.2.2.1) (fun _=>rfl)
theorem cbor_Map_L4_ok:LoopOk Tryz.prog E_cbor_Map Tryz.f37.ntmps (kqOf S_cbor_Map.ps 0) (loopAt 4 (Tryz.f37.body.getD .skip)) ⟨[(1,.f (.v (.rs 4))),(2,.f (.v (.ref (.rs 3)))),(10,.f (.own 1)),(66,.f (.own 5)),(67,.f (.v (.int .i64))),(68,.f (.v (.int .i64)))],[(.exit 4,[(10,.f (.own 1))])],cbor_Map_L4,[]⟩:=
  loop_ok (A:=A_cbor_Map) (done:=[0,2]) (c0:=(Tryz.f37.body.getD .skip)) hmix cbor_Map_env (done_cons rfl cbor_Map_L0_ok (done_cons rfl cbor_Map_L2_ok done_nil)) rounds (by kernel_rfl) (by kernel_rfl) (fun x=>cbor_Map_L4_eq x.1 x.2.1 x.2.2.1 x.2.2.2.1 x.2.2.2.2.1 x.2.2.2.2.2.1) (fun _=>rfl)
theorem cbor_Map_ok:SoundT Tryz.prog cd gdn 37 S_cbor_Map:=
  sound_fn (E:=E_cbor_Map) (A:=A_cbor_Map) (done:=[0,2,4]) (c:=(Tryz.f37.body.getD .skip)) (S:=S_cbor_Map) (fn:=Tryz.f37) hmix cbor_Map_env Tryz.func37 rfl (by kernel_rfl) (by kernel_rfl) (done_cons rfl cbor_Map_L0_ok (done_cons rfl cbor_Map_L2_ok (done_cons rfl cbor_Map_L4_ok done_nil))) (by kernel_rfl) (by kernel_rfl) cbor_Map_eq
def Zdc_L0b (y0:(List (UInt8))) (y1:(List (ApiItem))) (y2:Int) (y3:Int):Option (((List (UInt8)) × (List (ApiItem)) × Int × Int × Unit) ⊕ ((List (UInt8)) × Unit)):=
 (bif (decide (y3 < y2)) then ((getI y1 y3).bind fun x2=>((Zcj y0 x2).bind fun r3=>(some (Sum.inl (r3.2.1,y1,y2,(IntKind.wrap .i64 (y3 + (1:Int))),())))))
 else (some (Sum.inr (y0,()))))
def Zdc_L0 (y:((List (UInt8)) × (List (ApiItem)) × Int × Int × Unit)):Option ((List (UInt8)) × Unit):=iter (fun (y:((List (UInt8)) × (List (ApiItem)) × Int × Int × Unit))=>Zdc_L0b y.1 y.2.1 y.2.2.1 y.2.2.2.1) rounds y
def Zdc (a0:(List (ApiItem))):Option ((Unit) × ((List (UInt8)) × Int × Unit)):=
 ((Zcr a0).bind fun r1=>(bif (!decide (r1.2.1=(0:Int))) then (some ((),([],r1.2.1,())))
 else ((Zdc_L0 ([],a0,((a0).length:Int),(0:Int),())).bind (fun (z4:((List (UInt8)) × Unit))=>(some ((),(z4.1,(0:Int),())))))))
def S_Zdc:FSpec T:=⟨[.f (.v (.rs 1))],[(.own 0),(.v (.int .i64))],fun x=>Zdc x.1⟩
def E_Zdc:Env T:=⟨tab.find,cd,globs,flc,fun f ds=>match f with
    | 78=>some S_Zcr
    | 79=>some S_Zcj
    | _=>none,fun f=>match f with
    | 78=>true
    | _=>false⟩
def A_Zdc:Loc2 T:=⟨fun id=>match id with
    | 0=>some ⟨[(5,.f (.own 0)),(13,.f (.v (.rs 1))),(14,.f (.v (.int .i64))),(15,.f (.v (.int .i64)))],[(.exit 0,[(5,.f (.own 0))])],Zdc_L0,[]⟩
    | _=>none,fun r=>match r with
    | _=>none,fun r=>match r with
    | _=>false⟩
theorem Zdc_L0_eq (y0:(List (UInt8))) (y1:(List (ApiItem))) (y2:Int) (y3:Int):run E_Zdc A_Zdc (loopAt 0 (Tryz.f42.body.getD .skip)) (layC cd [(5,.f (.own 0)),(13,.f (.v (.rs 1))),(14,.f (.v (.int .i64))),(15,.f (.v (.int .i64)))] [] (y0,y1,y2,y3,())) (roundK cd [(5,.f (.own 0)),(13,.f (.v (.rs 1))),(14,.f (.v (.int .i64))),(15,.f (.v (.int .i64)))] [] [(.exit 0,[(5,.f (.own 0))])])=Zdc_L0b y0 y1 y2 y3:=by kernel_rfl
theorem Zdc_eq (x:tySs T S_Zdc.ps):run E_Zdc A_Zdc (Tryz.f42.body.getD .skip) (enterT E_Zdc.C S_Zdc.ps x) (retK E_Zdc Tryz.f42.results.toList S_Zdc.ps S_Zdc.rs)=S_Zdc.fn x:=by kernel_rfl
theorem Zdc_env:EnvOk Tryz.prog E_Zdc:=envOk (E:=E_Zdc) cd_ok tys fl_ok fun f ds S h=>by
    dsimp only [E_Zdc] at h
    split at h
    · cases h; exact Zcr_ok
    · cases h; exact Zcj_ok
    · cases h
theorem Zdc_L0_ok:LoopOk Tryz.prog E_Zdc Tryz.f42.ntmps (kqOf S_Zdc.ps 0) (loopAt 0 (Tryz.f42.body.getD .skip)) ⟨[(5,.f (.own 0)),(13,.f (.v (.rs 1))),(14,.f (.v (.int .i64))),(15,.f (.v (.int .i64)))],[(.exit 0,[(5,.f (.own 0))])],Zdc_L0,[]⟩:=
  loop_ok (A:=A_Zdc) (done:=[]) (c0:=(Tryz.f42.body.getD .skip)) hmix Zdc_env done_nil rounds (by kernel_rfl) (by kernel_rfl) (fun x=>Zdc_L0_eq x.1 x.2.1 x.2.2.1 x.2.2.2.1) (fun _=>rfl)
theorem Zdc_ok:SoundT Tryz.prog cd gdn 42 S_Zdc:=
  sound_fn (E:=E_Zdc) (A:=A_Zdc) (done:=[0]) (c:=(Tryz.f42.body.getD .skip)) (S:=S_Zdc) (fn:=Tryz.f42) hmix Zdc_env Tryz.func42 rfl (by kernel_rfl) (by kernel_rfl) (done_cons rfl Zdc_L0_ok done_nil) (by kernel_rfl) (by kernel_rfl) Zdc_eq
def Zbm (a0:ApiCredential):Option ((Unit) × ((List (UInt8)) × Int × Unit)):=
 ((Zau a0).bind fun r1=>(bif (!decide (r1.2.1=(0:Int))) then (some ((),([],r1.2.1,())))
 else (let v2:List (BitVec 64):=([1#64,2#64,3#64,4#64,5#64,6#64,7#64,8#64,9#64]:List (BitVec 64))
 ((Zdp a0.rP).bind fun r3=>((Zdj a0.user).bind fun r4=>((Zdp a0.name).bind fun r5=>((Zdq a0.seed).bind fun r6=>((Zdq (BitVec.ofInt 64 a0.height)).bind fun r7=>((Zdo a0.resident).bind fun r8=>((Zdq (BitVec.ofInt 64 a0.protect)).bind fun r9=>((Zdo a0.shared).bind fun r10=>((Zdo a0.backed).bind fun r11=>(let v12:List (List ApiItem):=([r3.2.1,r4.2.1,r5.2.1,r6.2.1,r7.2.1,r8.2.1,r9.2.1,r10.2.1,r11.2.1]:List (List ApiItem))
 ((cbor_Map v2 v12).bind fun r13=>(bif (!decide (r13.2.2.1=(0:Int))) then (some ((),([],r13.2.2.1,())))
 else ((Zdc r13.2.1).bind fun r14=>(some ((),(r14.2.1,r14.2.2.1,())))))))))))))))))))
def S_Zbm:FSpec T:=⟨[.f (.v (.agg 2))],[(.own 0),(.v (.int .i64))],fun x=>Zbm x.1⟩
def E_Zbm:Env T:=⟨tab.find,cd,globs,flc,fun f ds=>match f with
    | 14=>some S_Zau
    | 37=>some S_cbor_Map
    | 38=>some S_Zdp
    | 39=>some S_Zdj
    | 40=>some S_Zdq
    | 41=>some S_Zdo
    | 42=>some S_Zdc
    | _=>none,fun f=>match f with
    | 14=>true
    | _=>false⟩
def A_Zbm:Loc2 T:=⟨fun id=>match id with
    | _=>none,fun r=>match r with
    | _=>none,fun r=>match r with
    | 5=>true
    | _=>false⟩
theorem Zbm_eq (x:tySs T S_Zbm.ps):run E_Zbm A_Zbm (Tryz.f12.body.getD .skip) (enterT E_Zbm.C S_Zbm.ps x) (retK E_Zbm Tryz.f12.results.toList S_Zbm.ps S_Zbm.rs)=S_Zbm.fn x:=by kernel_rfl
theorem Zbm_env:EnvOk Tryz.prog E_Zbm:=envOk (E:=E_Zbm) cd_ok tys fl_ok fun f ds S h=>by
    dsimp only [E_Zbm] at h
    split at h
    · cases h; exact Zau_ok
    · cases h; exact cbor_Map_ok
    · cases h; exact Zdp_ok
    · cases h; exact Zdj_ok
    · cases h; exact Zdq_ok
    · cases h; exact Zdo_ok
    · cases h; exact Zdc_ok
    · cases h
theorem Zbm_ok:SoundT Tryz.prog cd gdn 12 S_Zbm:=
  sound_fn (E:=E_Zbm) (A:=A_Zbm) (done:=[]) (c:=(Tryz.f12.body.getD .skip)) (S:=S_Zbm) (fn:=Tryz.f12) hmix Zbm_env Tryz.func12 rfl (by kernel_rfl) (by kernel_rfl) done_nil (by kernel_rfl) (by kernel_rfl) Zbm_eq
def Zcy_L2b (y0:(List (UInt8))) (y1:(BitVec 64)) (y2:(List (BitVec 64))) (y3:Int) (y4:Int) (y5:Int):Option (((List (UInt8)) × (BitVec 64) × (List (BitVec 64)) × Int × Int × Int × Unit) ⊕ ((List (UInt8)) × (List (BitVec 64)) × Int × Int × Unit)):=
 (bif (decide (y5 < (8:Int))) then (let v2:Int:=(IntKind.wrap .i64 ((56:Int) - (IntKind.wrap .i64 ((8:Int) * y5))))
 (bif decide ((0:Int) ≤ v2) then (let v3:List (UInt8):=([(UInt8.ofBitVec (BitVec.setWidth 8 (y1 >>> (v2).toNat)))]:List (UInt8))
 (bif small ((y0).length + (v3:List (UInt8)).length) 1 then (some (Sum.inl ((y0 ++ v3),y1,y2,y3,y4,(IntKind.wrap .i64 (y5 + (1:Int))),())))
 else none))
 else none))
 else (some (Sum.inr (y0,y2,y3,y4,()))))
def Zcy_L2 (y:((List (UInt8)) × (BitVec 64) × (List (BitVec 64)) × Int × Int × Int × Unit)):Option ((List (UInt8)) × (List (BitVec 64)) × Int × Int × Unit):=iter (fun (y:((List (UInt8)) × (BitVec 64) × (List (BitVec 64)) × Int × Int × Int × Unit))=>Zcy_L2b y.1 y.2.1 y.2.2.1 y.2.2.2.1 y.2.2.2.2.1 y.2.2.2.2.2.1) rounds y
def Zcy_L0b (y0:(List (UInt8))) (y1:(List (BitVec 64))) (y2:Int) (y3:Int):Option (((List (UInt8)) × (List (BitVec 64)) × Int × Int × Unit) ⊕ ((List (UInt8)) × Unit)):=
 (bif (decide (y3 < y2)) then ((getI y1 y3).bind fun x1=>((Zcy_L2 (y0,x1,y1,y2,y3,(0:Int),())).bind (fun (z2:((List (UInt8)) × (List (BitVec 64)) × Int × Int × Unit))=>(some (Sum.inl (z2.1,z2.2.1,z2.2.2.1,(IntKind.wrap .i64 (z2.2.2.2.1 + (1:Int))),()))))))
 else (some (Sum.inr (y0,()))))
def Zcy_L0 (y:((List (UInt8)) × (List (BitVec 64)) × Int × Int × Unit)):Option ((List (UInt8)) × Unit):=iter (fun (y:((List (UInt8)) × (List (BitVec 64)) × Int × Int × Unit))=>Zcy_L0b y.1 y.2.1 y.2.2.1 y.2.2.2.1) rounds y
def Zcy (a0:(List (BitVec 64))):Option ((Unit) × ((List (UInt8)) × Unit)):=
 (bif (decide ((0:Int) ≤ (0:Int)) && (decide ((0:Int) ≤ (IntKind.wrap .i64 ((8:Int) * ((a0).length:Int)))) && decide ((1:Int) * (IntKind.wrap .i64 ((8:Int) * ((a0).length:Int))) ≤ 281474976710656 ∧ (IntKind.wrap .i64 ((8:Int) * ((a0).length:Int))) ≤ 9223372036854775807))) then ((Zcy_L0 ((List.replicate 0 (0:UInt8)),a0,((a0).length:Int),(0:Int),())).bind (fun (z3:((List (UInt8)) × Unit))=>(some ((),(z3.1,())))))
 else none)
def S_Zcy:FSpec T:=⟨[.f (.v (.rs 3))],[(.own 0)],fun x=>Zcy x.1⟩
def E_Zcy:Env T:=⟨tab.find,cd,globs,flc,fun f ds=>match f with
    | _=>none,fun f=>match f with
    | _=>false⟩
def A_Zcy:Loc2 T:=⟨fun id=>match id with
    | 2=>some ⟨[(3,.f (.own 0)),(5,.f (.v .u64)),(11,.f (.v (.rs 3))),(12,.f (.v (.int .i64))),(13,.f (.v (.int .i64))),(17,.f (.v (.int .i64)))],[(.exit 2,[(3,.f (.own 0)),(11,.f (.v (.rs 3))),(12,.f (.v (.int .i64))),(13,.f (.v (.int .i64)))])],Zcy_L2,[]⟩
    | 0=>some ⟨[(3,.f (.own 0)),(11,.f (.v (.rs 3))),(12,.f (.v (.int .i64))),(13,.f (.v (.int .i64)))],[(.exit 0,[(3,.f (.own 0))])],Zcy_L0,[]⟩
    | _=>none,fun r=>match r with
    | _=>none,fun r=>match r with
    | _=>false⟩
theorem Zcy_L2_eq (y0:(List (UInt8))) (y1:(BitVec 64)) (y2:(List (BitVec 64))) (y3:Int) (y4:Int) (y5:Int):run E_Zcy A_Zcy (loopAt 2 (Tryz.f90.body.getD .skip)) (layC cd [(3,.f (.own 0)),(5,.f (.v .u64)),(11,.f (.v (.rs 3))),(12,.f (.v (.int .i64))),(13,.f (.v (.int .i64))),(17,.f (.v (.int .i64)))] [] (y0,y1,y2,y3,y4,y5,())) (roundK cd [(3,.f (.own 0)),(5,.f (.v .u64)),(11,.f (.v (.rs 3))),(12,.f (.v (.int .i64))),(13,.f (.v (.int .i64))),(17,.f (.v (.int .i64)))] [] [(.exit 2,[(3,.f (.own 0)),(11,.f (.v (.rs 3))),(12,.f (.v (.int .i64))),(13,.f (.v (.int .i64)))])])=Zcy_L2b y0 y1 y2 y3 y4 y5:=by kernel_rfl
theorem Zcy_L0_eq (y0:(List (UInt8))) (y1:(List (BitVec 64))) (y2:Int) (y3:Int):run E_Zcy A_Zcy (loopAt 0 (Tryz.f90.body.getD .skip)) (layC cd [(3,.f (.own 0)),(11,.f (.v (.rs 3))),(12,.f (.v (.int .i64))),(13,.f (.v (.int .i64)))] [] (y0,y1,y2,y3,())) (roundK cd [(3,.f (.own 0)),(11,.f (.v (.rs 3))),(12,.f (.v (.int .i64))),(13,.f (.v (.int .i64)))] [] [(.exit 0,[(3,.f (.own 0))])])=Zcy_L0b y0 y1 y2 y3:=by kernel_rfl
theorem Zcy_eq (x:tySs T S_Zcy.ps):run E_Zcy A_Zcy (Tryz.f90.body.getD .skip) (enterT E_Zcy.C S_Zcy.ps x) (retK E_Zcy Tryz.f90.results.toList S_Zcy.ps S_Zcy.rs)=S_Zcy.fn x:=by kernel_rfl
theorem Zcy_env:EnvOk Tryz.prog E_Zcy:=envOk (E:=E_Zcy) cd_ok tys fl_ok fun f ds S h=>by cases h
theorem Zcy_L2_ok:LoopOk Tryz.prog E_Zcy Tryz.f90.ntmps (kqOf S_Zcy.ps 0) (loopAt 2 (Tryz.f90.body.getD .skip)) ⟨[(3,.f (.own 0)),(5,.f (.v .u64)),(11,.f (.v (.rs 3))),(12,.f (.v (.int .i64))),(13,.f (.v (.int .i64))),(17,.f (.v (.int .i64)))],[(.exit 2,[(3,.f (.own 0)),(11,.f (.v (.rs 3))),(12,.f (.v (.int .i64))),(13,.f (.v (.int .i64)))])],Zcy_L2,[]⟩:=
  loop_ok (A:=A_Zcy) (done:=[]) (c0:=(Tryz.f90.body.getD .skip)) hmix Zcy_env done_nil rounds (by kernel_rfl) (by kernel_rfl) (fun x=>Zcy_L2_eq x.1 x.2.1 x.2.2.1 x.2.2.2.1 x.2.2.2.2.1 x.2.2.2.2.2.1) (fun _=>rfl)
theorem Zcy_L0_ok:LoopOk Tryz.prog E_Zcy Tryz.f90.ntmps (kqOf S_Zcy.ps 0) (loopAt 0 (Tryz.f90.body.getD .skip)) ⟨[(3,.f (.own 0)),(11,.f (.v (.rs 3))),(12,.f (.v (.int .i64))),(13,.f (.v (.int .i64)))],[(.exit 0,[(3,.f (.own 0))])],Zcy_L0,[]⟩:=
  loop_ok (A:=A_Zcy) (done:=[2]) (c0:=(Tryz.f90.body.getD .skip)) hmix Zcy_env (done_cons rfl Zcy_L2_ok done_nil) rounds (by kernel_rfl) (by kernel_rfl) (fun x=>Zcy_L0_eq x.1 x.2.1 x.2.2.1 x.2.2.2.1) (fun _=>rfl)
theorem Zcy_ok:SoundT Tryz.prog cd gdn 90 S_Zcy:=
  sound_fn (E:=E_Zcy) (A:=A_Zcy) (done:=[2,0]) (c:=(Tryz.f90.body.getD .skip)) (S:=S_Zcy) (fn:=Tryz.f90) hmix Zcy_env Tryz.func90 rfl (by kernel_rfl) (by kernel_rfl) (done_cons rfl Zcy_L2_ok (done_cons rfl Zcy_L0_ok done_nil)) (by kernel_rfl) (by kernel_rfl) Zcy_eq
def Zcu_L0b (y0:(BitVec 64)) (y1:(List (UInt8))) (y2:Int) (y3:Int):Option (((BitVec 64) × (List (UInt8)) × Int × Int × Unit) ⊕ ((BitVec 64) × Unit)):=
 (bif (decide (y3 < y2)) then ((getI y1 y3).bind fun x1=>(bif decide ((0:Int) ≤ (IntKind.wrap .i64 ((8:Int) * y3))) then (let v2:BitVec 64:=((BitVec.setWidth 64 x1.toBitVec) <<< ((IntKind.wrap .i64 ((8:Int) * y3))).toNat)
 (some (Sum.inl ((y0 ||| v2),y1,y2,(IntKind.wrap .i64 (y3 + (1:Int))),()))))
 else none))
 else (some (Sum.inr (y0,()))))
def Zcu_L0 (y:((BitVec 64) × (List (UInt8)) × Int × Int × Unit)):Option ((BitVec 64) × Unit):=iter (fun (y:((BitVec 64) × (List (UInt8)) × Int × Int × Unit))=>Zcu_L0b y.1 y.2.1 y.2.2.1 y.2.2.2.1) rounds y
def Zcu (a0:(List (UInt8))):Option ((Unit) × ((BitVec 64) × Unit)):=
 ((Zcu_L0 (0#64,a0,((a0).length:Int),(0:Int),())).bind (fun (z3:((BitVec 64) × Unit))=>(some ((),(z3.1,())))))
def S_Zcu:FSpec T:=⟨[.f (.v (.rs 0))],[(.v .u64)],fun x=>Zcu x.1⟩
def E_Zcu:Env T:=⟨tab.find,cd,globs,flc,fun f ds=>match f with
    | _=>none,fun f=>match f with
    | _=>false⟩
def A_Zcu:Loc2 T:=⟨fun id=>match id with
    | 0=>some ⟨[(3,.f (.v .u64)),(6,.f (.v (.rs 0))),(7,.f (.v (.int .i64))),(8,.f (.v (.int .i64)))],[(.exit 0,[(3,.f (.v .u64))])],Zcu_L0,[]⟩
    | _=>none,fun r=>match r with
    | _=>none,fun r=>match r with
    | _=>false⟩
theorem Zcu_L0_eq (y0:(BitVec 64)) (y1:(List (UInt8))) (y2:Int) (y3:Int):run E_Zcu A_Zcu (loopAt 0 (Tryz.f125.body.getD .skip)) (layC cd [(3,.f (.v .u64)),(6,.f (.v (.rs 0))),(7,.f (.v (.int .i64))),(8,.f (.v (.int .i64)))] [] (y0,y1,y2,y3,())) (roundK cd [(3,.f (.v .u64)),(6,.f (.v (.rs 0))),(7,.f (.v (.int .i64))),(8,.f (.v (.int .i64)))] [] [(.exit 0,[(3,.f (.v .u64))])])=Zcu_L0b y0 y1 y2 y3:=by kernel_rfl
theorem Zcu_eq (x:tySs T S_Zcu.ps):run E_Zcu A_Zcu (Tryz.f125.body.getD .skip) (enterT E_Zcu.C S_Zcu.ps x) (retK E_Zcu Tryz.f125.results.toList S_Zcu.ps S_Zcu.rs)=S_Zcu.fn x:=by kernel_rfl
theorem Zcu_env:EnvOk Tryz.prog E_Zcu:=envOk (E:=E_Zcu) cd_ok tys fl_ok fun f ds S h=>by cases h
theorem Zcu_L0_ok:LoopOk Tryz.prog E_Zcu Tryz.f125.ntmps (kqOf S_Zcu.ps 0) (loopAt 0 (Tryz.f125.body.getD .skip)) ⟨[(3,.f (.v .u64)),(6,.f (.v (.rs 0))),(7,.f (.v (.int .i64))),(8,.f (.v (.int .i64)))],[(.exit 0,[(3,.f (.v .u64))])],Zcu_L0,[]⟩:=
  loop_ok (A:=A_Zcu) (done:=[]) (c0:=(Tryz.f125.body.getD .skip)) hmix Zcu_env done_nil rounds (by kernel_rfl) (by kernel_rfl) (fun x=>Zcu_L0_eq x.1 x.2.1 x.2.2.1 x.2.2.2.1) (fun _=>rfl)
theorem Zcu_ok:SoundT Tryz.prog cd gdn 125 S_Zcu:=
  sound_fn (E:=E_Zcu) (A:=A_Zcu) (done:=[0]) (c:=(Tryz.f125.body.getD .skip)) (S:=S_Zcu) (fn:=Tryz.f125) hmix Zcu_env Tryz.func125 rfl (by kernel_rfl) (by kernel_rfl) (done_cons rfl Zcu_L0_ok done_nil) (by kernel_rfl) (by kernel_rfl) Zcu_eq
def Zao (a0:(BitVec 64)) (a1:Int):Option ((Unit) × ((BitVec 64) × Unit)):=
 (let v1:BitVec 64:=((a0 <<< ((BitVec.ofInt 64 a1) &&& 63#64).toNat) ||| (a0 >>> (64#64 - ((BitVec.ofInt 64 a1) &&& 63#64)).toNat))
 (some ((),(v1,()))))
def S_Zao:FSpec T:=⟨[.f (.v .u64),.f (.v (.int .i64))],[(.v .u64)],fun x=>Zao x.1 x.2.1⟩
def E_Zao:Env T:=⟨tab.find,cd,globs,flc,fun f ds=>match f with
    | _=>none,fun f=>match f with
    | _=>false⟩
def A_Zao:Loc2 T:=⟨fun id=>match id with
    | _=>none,fun r=>match r with
    | _=>none,fun r=>match r with
    | _=>false⟩
theorem Zao_eq (x:tySs T S_Zao.ps):run E_Zao A_Zao (Tryz.f154.body.getD .skip) (enterT E_Zao.C S_Zao.ps x) (retK E_Zao Tryz.f154.results.toList S_Zao.ps S_Zao.rs)=S_Zao.fn x:=by kernel_rfl
theorem Zao_env:EnvOk Tryz.prog E_Zao:=envOk (E:=E_Zao) cd_ok tys fl_ok fun f ds S h=>by cases h
theorem Zao_ok:SoundT Tryz.prog cd gdn 154 S_Zao:=
  sound_fn (E:=E_Zao) (A:=A_Zao) (done:=[]) (c:=(Tryz.f154.body.getD .skip)) (S:=S_Zao) (fn:=Tryz.f154) hmix Zao_env Tryz.func154 rfl (by kernel_rfl) (by kernel_rfl) done_nil (by kernel_rfl) (by kernel_rfl) Zao_eq
def Zaw_L0b (y0:(DigestState × Unit)) (y1:Int) (y2:Int):Option (((DigestState × Unit) × Int × Int × Unit) ⊕ ((DigestState × Unit) × Unit)):=
 (bif (decide (y2 < y1)) then ((Zao y0.1.v1 (13:Int)).bind fun r1=>((Zao (y0.1.v0 + y0.1.v1) (32:Int)).bind fun r2=>((Zao y0.1.v3 (16:Int)).bind fun r3=>((Zao (r3.2.1 ^^^ (y0.1.v2 + y0.1.v3)) (21:Int)).bind fun r4=>((Zao (r1.2.1 ^^^ (y0.1.v0 + y0.1.v1)) (17:Int)).bind fun r5=>(let v6:BitVec 64:=(r5.2.1 ^^^ ((y0.1.v2 + y0.1.v3) + (r1.2.1 ^^^ (y0.1.v0 + y0.1.v1))))
 ((Zao ((y0.1.v2 + y0.1.v3) + (r1.2.1 ^^^ (y0.1.v0 + y0.1.v1))) (32:Int)).bind fun r7=>(some (Sum.inl (((⟨(r2.2.1 + (r3.2.1 ^^^ (y0.1.v2 + y0.1.v3))),v6,r7.2.1,(r4.2.1 ^^^ (r2.2.1 + (r3.2.1 ^^^ (y0.1.v2 + y0.1.v3))))⟩:DigestState),()),y1,(IntKind.wrap .i64 (y2 + (1:Int))),()))))))))))
 else (some (Sum.inr ((y0.1,()),()))))
def Zaw_L0 (y:((DigestState × Unit) × Int × Int × Unit)):Option ((DigestState × Unit) × Unit):=iter (fun (y:((DigestState × Unit) × Int × Int × Unit))=>Zaw_L0b y.1 y.2.1 y.2.2.1) rounds y
def Zaw (a0:(DigestState × Unit)) (a1:Int):Option (((DigestState × Unit) × Unit) × (Unit)):=
 ((Zaw_L0 ((a0.1,()),a1,(0:Int),())).bind (fun (z8:((DigestState × Unit) × Unit))=>(some (((z8.1.1,()),()),()))))
def S_Zaw:FSpec T:=⟨[.ptr [(.v (.agg 9))],.f (.v (.int .i64))],[],fun x=>Zaw x.1 x.2.1⟩
def E_Zaw:Env T:=⟨tab.find,cd,globs,flc,fun f ds=>match f with
    | 154=>some S_Zao
    | _=>none,fun f=>match f with
    | 154=>true
    | _=>false⟩
def A_Zaw:Loc2 T:=⟨fun id=>match id with
    | 0=>some ⟨[(0,.ptr [(.v (.agg 9))]),(4,.f (.v (.int .i64))),(5,.f (.v (.int .i64)))],[(.exit 0,[(0,.ptr [(.v (.agg 9))])])],Zaw_L0,[]⟩
    | _=>none,fun r=>match r with
    | _=>none,fun r=>match r with
    | _=>false⟩
theorem Zaw_L0_eq (y0:(DigestState × Unit)) (y1:Int) (y2:Int):run E_Zaw A_Zaw (loopAt 0 (Tryz.f126.body.getD .skip)) (layC cd [(0,.ptr [(.v (.agg 9))]),(4,.f (.v (.int .i64))),(5,.f (.v (.int .i64)))] [] (y0,y1,y2,())) (roundK cd [(0,.ptr [(.v (.agg 9))]),(4,.f (.v (.int .i64))),(5,.f (.v (.int .i64)))] [] [(.exit 0,[(0,.ptr [(.v (.agg 9))])])])=Zaw_L0b y0 y1 y2:=by kernel_rfl
theorem Zaw_eq (x:tySs T S_Zaw.ps):run E_Zaw A_Zaw (Tryz.f126.body.getD .skip) (enterT E_Zaw.C S_Zaw.ps x) (retK E_Zaw Tryz.f126.results.toList S_Zaw.ps S_Zaw.rs)=S_Zaw.fn x:=by kernel_rfl
theorem Zaw_env:EnvOk Tryz.prog E_Zaw:=envOk (E:=E_Zaw) cd_ok tys fl_ok fun f ds S h=>by
    dsimp only [E_Zaw] at h
    split at h
    · cases h; exact Zao_ok
    · cases h
theorem Zaw_L0_ok:LoopOk Tryz.prog E_Zaw Tryz.f126.ntmps (kqOf S_Zaw.ps 0) (loopAt 0 (Tryz.f126.body.getD .skip)) ⟨[(0,.ptr [(.v (.agg 9))]),(4,.f (.v (.int .i64))),(5,.f (.v (.int .i64)))],[(.exit 0,[(0,.ptr [(.v (.agg 9))])])],Zaw_L0,[]⟩:=
  loop_ok (A:=A_Zaw) (done:=[]) (c0:=(Tryz.f126.body.getD .skip)) hmix Zaw_env done_nil rounds (by kernel_rfl) (by kernel_rfl) (fun x=>Zaw_L0_eq x.1 x.2.1 x.2.2.1) (fun _=>rfl)
theorem Zaw_ok:SoundT Tryz.prog cd gdn 126 S_Zaw:=
  sound_fn (E:=E_Zaw) (A:=A_Zaw) (done:=[0]) (c:=(Tryz.f126.body.getD .skip)) (S:=S_Zaw) (fn:=Tryz.f126) hmix Zaw_env Tryz.func126 rfl (by kernel_rfl) (by kernel_rfl) (done_cons rfl Zaw_L0_ok done_nil) (by kernel_rfl) (by kernel_rfl) Zaw_eq
def Zav (a0:(DigestState × Unit)) (a1:(BitVec 64)):Option (((DigestState × Unit) × Unit) × (Unit)):=
 ((Zaw ((⟨a0.1.v0,a0.1.v1,a0.1.v2,(a0.1.v3 ^^^ a1)⟩:DigestState),()) (2:Int)).bind fun r1=>(some ((((⟨(r1.1.1.1.v0 ^^^ a1),r1.1.1.1.v1,r1.1.1.1.v2,r1.1.1.1.v3⟩:DigestState),()),()),())))
def S_Zav:FSpec T:=⟨[.ptr [(.v (.agg 9))],.f (.v .u64)],[],fun x=>Zav x.1 x.2.1⟩
def E_Zav:Env T:=⟨tab.find,cd,globs,flc,fun f ds=>match f with
    | 126=>some S_Zaw
    | _=>none,fun f=>match f with
    | _=>false⟩
def A_Zav:Loc2 T:=⟨fun id=>match id with
    | _=>none,fun r=>match r with
    | _=>none,fun r=>match r with
    | _=>false⟩
theorem Zav_eq (x:tySs T S_Zav.ps):run E_Zav A_Zav (Tryz.f124.body.getD .skip) (enterT E_Zav.C S_Zav.ps x) (retK E_Zav Tryz.f124.results.toList S_Zav.ps S_Zav.rs)=S_Zav.fn x:=by kernel_rfl
theorem Zav_env:EnvOk Tryz.prog E_Zav:=envOk (E:=E_Zav) cd_ok tys fl_ok fun f ds S h=>by
    dsimp only [E_Zav] at h
    split at h
    · cases h; exact Zaw_ok
    · cases h
theorem Zav_ok:SoundT Tryz.prog cd gdn 124 S_Zav:=
  sound_fn (E:=E_Zav) (A:=A_Zav) (done:=[]) (c:=(Tryz.f124.body.getD .skip)) (S:=S_Zav) (fn:=Tryz.f124) hmix Zav_env Tryz.func124 rfl (by kernel_rfl) (by kernel_rfl) done_nil (by kernel_rfl) (by kernel_rfl) Zav_eq
def Zdn_L0b (y0:(List (UInt8))) (y1:(DigestState × Unit)) (y2:Int) (y3:Int) (y4:Int):Option (((List (UInt8)) × (DigestState × Unit) × Int × Int × Int × Unit) ⊕ ((List (UInt8)) × (DigestState × Unit) × Int × Unit)):=
 (bif (decide (y4 < y3)) then (let v1:Int:=(IntKind.wrap .i64 ((IntKind.wrap .i64 ((8:Int) * y4)) + (8:Int)))
 (bif (decide ((0:Int) ≤ v1) && decide (v1 ≤ ((y0).length:Int))) then (bif (decide ((0:Int) ≤ (IntKind.wrap .i64 ((8:Int) * y4))) && decide ((IntKind.wrap .i64 ((8:Int) * y4)) ≤ ((v1).toNat:Int))) then (let v2:List (UInt8):=(List.drop ((IntKind.wrap .i64 ((8:Int) * y4))).toNat (List.take (v1).toNat y0))
 ((Zcu v2).bind fun r3=>((Zav (y1.1,()) r3.2.1).bind fun r4=>(some (Sum.inl (y0,(r4.1.1.1,()),y2,y3,(IntKind.wrap .i64 (y4 + (1:Int))),()))))))
 else none)
 else none))
 else (some (Sum.inr (y0,(y1.1,()),y2,()))))
def Zdn_L0 (y:((List (UInt8)) × (DigestState × Unit) × Int × Int × Int × Unit)):Option ((List (UInt8)) × (DigestState × Unit) × Int × Unit):=iter (fun (y:((List (UInt8)) × (DigestState × Unit) × Int × Int × Int × Unit))=>Zdn_L0b y.1 y.2.1 y.2.2.1 y.2.2.2.1 y.2.2.2.2.1) rounds y
def Zdn (a0:(BitVec 64)) (a1:(BitVec 64)) (a2:(List (UInt8))):Option ((Unit) × ((BitVec 64) × Unit)):=
 ((Zdn_L0 (a2,((⟨(a0 ^^^ 8317987319222330741#64),(a1 ^^^ 7237128888997146477#64),(a0 ^^^ 7816392313619706465#64),(a1 ^^^ 8387220255154660723#64)⟩:DigestState),()),(IntKind.wrap .i64 (Int.tdiv ((a2).length:Int) (8:Int))),(IntKind.wrap .i64 (Int.tdiv ((a2).length:Int) (8:Int))),(0:Int),())).bind (fun (z5:((List (UInt8)) × (DigestState × Unit) × Int × Unit))=>(bif (decide ((0:Int) ≤ (IntKind.wrap .i64 ((8:Int) * z5.2.2.1))) && decide ((IntKind.wrap .i64 ((8:Int) * z5.2.2.1)) ≤ ((z5.1).length:Int))) then (let v6:List (UInt8):=(List.drop ((IntKind.wrap .i64 ((8:Int) * z5.2.2.1))).toNat z5.1)
 ((Zcu v6).bind fun r7=>(let v8:BitVec 64:=(r7.2.1 ||| ((BitVec.ofInt 64 ((z5.1).length:Int)) <<< 56))
 ((Zav (z5.2.1.1,()) v8).bind fun r9=>((Zaw ((⟨r9.1.1.1.v0,r9.1.1.1.v1,(r9.1.1.1.v2 ^^^ 255#64),r9.1.1.1.v3⟩:DigestState),()) (4:Int)).bind fun r10=>(let v11:BitVec 64:=(((r10.1.1.1.v0 ^^^ r10.1.1.1.v1) ^^^ r10.1.1.1.v2) ^^^ r10.1.1.1.v3)
 (some ((),(v11,())))))))))
 else none)))
def S_Zdn:FSpec T:=⟨[.f (.v .u64),.f (.v .u64),.f (.v (.rs 0))],[(.v .u64)],fun x=>Zdn x.1 x.2.1 x.2.2.1⟩
def E_Zdn:Env T:=⟨tab.find,cd,globs,flc,fun f ds=>match f with
    | 124=>some S_Zav
    | 125=>some S_Zcu
    | 126=>some S_Zaw
    | _=>none,fun f=>match f with
    | 125=>true
    | _=>false⟩
def A_Zdn:Loc2 T:=⟨fun id=>match id with
    | 0=>some ⟨[(2,.f (.v (.rs 0))),(7,.ptr [(.v (.agg 9))]),(8,.f (.v (.int .i64))),(22,.f (.v (.int .i64))),(23,.f (.v (.int .i64)))],[(.exit 0,[(2,.f (.v (.rs 0))),(7,.ptr [(.v (.agg 9))]),(8,.f (.v (.int .i64)))])],Zdn_L0,[]⟩
    | _=>none,fun r=>match r with
    | _=>none,fun r=>match r with
    | _=>false⟩
theorem Zdn_L0_eq (y0:(List (UInt8))) (y1:(DigestState × Unit)) (y2:Int) (y3:Int) (y4:Int):run E_Zdn A_Zdn (loopAt 0 (Tryz.f95.body.getD .skip)) (layC cd [(2,.f (.v (.rs 0))),(7,.ptr [(.v (.agg 9))]),(8,.f (.v (.int .i64))),(22,.f (.v (.int .i64))),(23,.f (.v (.int .i64)))] [] (y0,y1,y2,y3,y4,())) (roundK cd [(2,.f (.v (.rs 0))),(7,.ptr [(.v (.agg 9))]),(8,.f (.v (.int .i64))),(22,.f (.v (.int .i64))),(23,.f (.v (.int .i64)))] [] [(.exit 0,[(2,.f (.v (.rs 0))),(7,.ptr [(.v (.agg 9))]),(8,.f (.v (.int .i64)))])])=Zdn_L0b y0 y1 y2 y3 y4:=by kernel_rfl
theorem Zdn_eq (x:tySs T S_Zdn.ps):run E_Zdn A_Zdn (Tryz.f95.body.getD .skip) (enterT E_Zdn.C S_Zdn.ps x) (retK E_Zdn Tryz.f95.results.toList S_Zdn.ps S_Zdn.rs)=S_Zdn.fn x:=by kernel_rfl
theorem Zdn_env:EnvOk Tryz.prog E_Zdn:=envOk (E:=E_Zdn) cd_ok tys fl_ok fun f ds S h=>by
    dsimp only [E_Zdn] at h
    split at h
    · cases h; exact Zav_ok
    · cases h; exact Zcu_ok
    · cases h; exact Zaw_ok
    · cases h
theorem Zdn_L0_ok:LoopOk Tryz.prog E_Zdn Tryz.f95.ntmps (kqOf S_Zdn.ps 0) (loopAt 0 (Tryz.f95.body.getD .skip)) ⟨[(2,.f (.v (.rs 0))),(7,.ptr [(.v (.agg 9))]),(8,.f (.v (.int .i64))),(22,.f (.v (.int .i64))),(23,.f (.v (.int .i64)))],[(.exit 0,[(2,.f (.v (.rs 0))),(7,.ptr [(.v (.agg 9))]),(8,.f (.v (.int .i64)))])],Zdn_L0,[]⟩:=
  loop_ok (A:=A_Zdn) (done:=[]) (c0:=(Tryz.f95.body.getD .skip)) hmix Zdn_env done_nil rounds (by kernel_rfl) (by kernel_rfl) (fun x=>Zdn_L0_eq x.1 x.2.1 x.2.2.1 x.2.2.2.1 x.2.2.2.2.1) (fun _=>rfl)
theorem Zdn_ok:SoundT Tryz.prog cd gdn 95 S_Zdn:=
  sound_fn (E:=E_Zdn) (A:=A_Zdn) (done:=[0]) (c:=(Tryz.f95.body.getD .skip)) (S:=S_Zdn) (fn:=Tryz.f95) hmix Zdn_env Tryz.func95 rfl (by kernel_rfl) (by kernel_rfl) (done_cons rfl Zdn_L0_ok done_nil) (by kernel_rfl) (by kernel_rfl) Zdn_eq
def Zdm (a0:(BitVec 64)) (a1:Int) (a2:(List (UInt8))):Option ((Unit) × ((BitVec 64) × Unit)):=
 ((Zdn a0 (1#64 + (BitVec.ofInt 64 a1)) a2).bind fun r1=>(some ((),(r1.2.1,()))))
def S_Zdm:FSpec T:=⟨[.f (.v .u64),.f (.v (.int .i64)),.f (.v (.rs 0))],[(.v .u64)],fun x=>Zdm x.1 x.2.1 x.2.2.1⟩
def E_Zdm:Env T:=⟨tab.find,cd,globs,flc,fun f ds=>match f with
    | 95=>some S_Zdn
    | _=>none,fun f=>match f with
    | 95=>true
    | _=>false⟩
def A_Zdm:Loc2 T:=⟨fun id=>match id with
    | _=>none,fun r=>match r with
    | _=>none,fun r=>match r with
    | _=>false⟩
theorem Zdm_eq (x:tySs T S_Zdm.ps):run E_Zdm A_Zdm (Tryz.f89.body.getD .skip) (enterT E_Zdm.C S_Zdm.ps x) (retK E_Zdm Tryz.f89.results.toList S_Zdm.ps S_Zdm.rs)=S_Zdm.fn x:=by kernel_rfl
theorem Zdm_env:EnvOk Tryz.prog E_Zdm:=envOk (E:=E_Zdm) cd_ok tys fl_ok fun f ds S h=>by
    dsimp only [E_Zdm] at h
    split at h
    · cases h; exact Zdn_ok
    · cases h
theorem Zdm_ok:SoundT Tryz.prog cd gdn 89 S_Zdm:=
  sound_fn (E:=E_Zdm) (A:=A_Zdm) (done:=[]) (c:=(Tryz.f89.body.getD .skip)) (S:=S_Zdm) (fn:=Tryz.f89) hmix Zdm_env Tryz.func89 rfl (by kernel_rfl) (by kernel_rfl) done_nil (by kernel_rfl) (by kernel_rfl) Zdm_eq
def Zct (a0:(BitVec 64)) (a1:(List UInt8)) (a2:Int):Option ((Unit) × ((BitVec 64) × Unit)):=
 (bif small ((a1).length + (([(0:UInt8)]:List (UInt8)):List (UInt8)).length) 1 then ((Zcy ([(BitVec.ofInt 64 a2)]:List (BitVec 64))).bind fun r1=>(bif small (((a1 ++ ([(0:UInt8)]:List (UInt8)))).length + (r1.2.1:List (UInt8)).length) 1 then (let v2:List (UInt8):=((a1 ++ ([(0:UInt8)]:List (UInt8))) ++ r1.2.1)
 ((Zdm a0 (4:Int) v2).bind fun r3=>(some ((),(r3.2.1,())))))
 else none))
 else none)
def S_Zct:FSpec T:=⟨[.f (.v .u64),.f (.v .str),.f (.v (.int .i64))],[(.v .u64)],fun x=>Zct x.1 x.2.1 x.2.2.1⟩
def E_Zct:Env T:=⟨tab.find,cd,globs,flc,fun f ds=>match f with
    | 89=>some S_Zdm
    | 90=>some S_Zcy
    | _=>none,fun f=>match f with
    | 89=>true
    | _=>false⟩
def A_Zct:Loc2 T:=⟨fun id=>match id with
    | _=>none,fun r=>match r with
    | _=>none,fun r=>match r with
    | _=>false⟩
theorem Zct_eq (x:tySs T S_Zct.ps):run E_Zct A_Zct (Tryz.f63.body.getD .skip) (enterT E_Zct.C S_Zct.ps x) (retK E_Zct Tryz.f63.results.toList S_Zct.ps S_Zct.rs)=S_Zct.fn x:=by kernel_rfl
theorem Zct_env:EnvOk Tryz.prog E_Zct:=envOk (E:=E_Zct) cd_ok tys fl_ok fun f ds S h=>by
    dsimp only [E_Zct] at h
    split at h
    · cases h; exact Zdm_ok
    · cases h; exact Zcy_ok
    · cases h
theorem Zct_ok:SoundT Tryz.prog cd gdn 63 S_Zct:=
  sound_fn (E:=E_Zct) (A:=A_Zct) (done:=[]) (c:=(Tryz.f63.body.getD .skip)) (S:=S_Zct) (fn:=Tryz.f63) hmix Zct_env Tryz.func63 rfl (by kernel_rfl) (by kernel_rfl) done_nil (by kernel_rfl) (by kernel_rfl) Zct_eq
def Zdh_L0b (y0:(BitVec 64)) (y1:(BitVec 64)) (y2:Int) (y3:(List (UInt8))) (y4:(BitVec 64)):Option (((BitVec 64) × (BitVec 64) × Int × (List (UInt8)) × (BitVec 64) × Unit) ⊕ (Int × (List (UInt8)) × Unit)):=
 (bif (decide (((y3).length:Int) < y2)) then ((Zcy ([y1,y4]:List (BitVec 64))).bind fun r2=>((Zdm y0 (5:Int) r2.2.1).bind fun r3=>((Zcy ([r3.2.1]:List (BitVec 64))).bind fun r4=>(bif small ((y3).length + (r4.2.1:List (UInt8)).length) 1 then (some (Sum.inl (y0,y1,y2,(y3 ++ r4.2.1),(y4 + 1#64),())))
 else none))))
 else (some (Sum.inr (y2,y3,()))))
def Zdh_L0 (y:((BitVec 64) × (BitVec 64) × Int × (List (UInt8)) × (BitVec 64) × Unit)):Option (Int × (List (UInt8)) × Unit):=iter (fun (y:((BitVec 64) × (BitVec 64) × Int × (List (UInt8)) × (BitVec 64) × Unit))=>Zdh_L0b y.1 y.2.1 y.2.2.1 y.2.2.2.1 y.2.2.2.2.1) rounds y
def Zdh (a0:(BitVec 64)) (a1:(BitVec 64)) (a2:Int):Option ((Unit) × ((List (UInt8)) × Unit)):=
 (let v1:Int:=(bif decide ((1024:Int) < (bif decide (a2 < (0:Int)) then (0:Int) else a2)) then (1024:Int) else (bif decide (a2 < (0:Int)) then (0:Int) else a2))
 (bif (decide ((0:Int) ≤ (0:Int)) && (decide ((0:Int) ≤ (IntKind.wrap .i64 (v1 + (8:Int)))) && decide ((1:Int) * (IntKind.wrap .i64 (v1 + (8:Int))) ≤ 281474976710656 ∧ (IntKind.wrap .i64 (v1 + (8:Int))) ≤ 9223372036854775807))) then ((Zdh_L0 (a0,a1,v1,(List.replicate 0 (0:UInt8)),0#64,())).bind (fun (z5:(Int × (List (UInt8)) × Unit))=>(bif (decide ((0:Int) ≤ z5.1) && decide (z5.1 ≤ ((z5.2.1).length:Int))) then (bif decide ((z5.1).toNat ≤ (z5.2.1).length) then (some ((),((List.take (z5.1).toNat z5.2.1),())))
 else none)
 else none)))
 else none))
def S_Zdh:FSpec T:=⟨[.f (.v .u64),.f (.v .u64),.f (.v (.int .i64))],[(.own 0)],fun x=>Zdh x.1 x.2.1 x.2.2.1⟩
def E_Zdh:Env T:=⟨tab.find,cd,globs,flc,fun f ds=>match f with
    | 89=>some S_Zdm
    | 90=>some S_Zcy
    | _=>none,fun f=>match f with
    | 89=>true
    | _=>false⟩
def A_Zdh:Loc2 T:=⟨fun id=>match id with
    | 0=>some ⟨[(0,.f (.v .u64)),(1,.f (.v .u64)),(2,.f (.v (.int .i64))),(7,.f (.own 0)),(8,.f (.v .u64))],[(.exit 0,[(2,.f (.v (.int .i64))),(7,.f (.own 0))])],Zdh_L0,[]⟩
    | _=>none,fun r=>match r with
    | _=>none,fun r=>match r with
    | _=>false⟩
theorem Zdh_L0_eq (y0:(BitVec 64)) (y1:(BitVec 64)) (y2:Int) (y3:(List (UInt8))) (y4:(BitVec 64)):run E_Zdh A_Zdh (loopAt 0 (Tryz.f62.body.getD .skip)) (layC cd [(0,.f (.v .u64)),(1,.f (.v .u64)),(2,.f (.v (.int .i64))),(7,.f (.own 0)),(8,.f (.v .u64))] [] (y0,y1,y2,y3,y4,())) (roundK cd [(0,.f (.v .u64)),(1,.f (.v .u64)),(2,.f (.v (.int .i64))),(7,.f (.own 0)),(8,.f (.v .u64))] [] [(.exit 0,[(2,.f (.v (.int .i64))),(7,.f (.own 0))])])=Zdh_L0b y0 y1 y2 y3 y4:=by kernel_rfl
theorem Zdh_eq (x:tySs T S_Zdh.ps):run E_Zdh A_Zdh (Tryz.f62.body.getD .skip) (enterT E_Zdh.C S_Zdh.ps x) (retK E_Zdh Tryz.f62.results.toList S_Zdh.ps S_Zdh.rs)=S_Zdh.fn x:=by kernel_rfl
theorem Zdh_env:EnvOk Tryz.prog E_Zdh:=envOk (E:=E_Zdh) cd_ok tys fl_ok fun f ds S h=>by
    dsimp only [E_Zdh] at h
    split at h
    · cases h; exact Zdm_ok
    · cases h; exact Zcy_ok
    · cases h
theorem Zdh_L0_ok:LoopOk Tryz.prog E_Zdh Tryz.f62.ntmps (kqOf S_Zdh.ps 0) (loopAt 0 (Tryz.f62.body.getD .skip)) ⟨[(0,.f (.v .u64)),(1,.f (.v .u64)),(2,.f (.v (.int .i64))),(7,.f (.own 0)),(8,.f (.v .u64))],[(.exit 0,[(2,.f (.v (.int .i64))),(7,.f (.own 0))])],Zdh_L0,[]⟩:=
  loop_ok (A:=A_Zdh) (done:=[]) (c0:=(Tryz.f62.body.getD .skip)) hmix Zdh_env done_nil rounds (by kernel_rfl) (by kernel_rfl) (fun x=>Zdh_L0_eq x.1 x.2.1 x.2.2.1 x.2.2.2.1 x.2.2.2.2.1) (fun _=>rfl)
theorem Zdh_ok:SoundT Tryz.prog cd gdn 62 S_Zdh:=
  sound_fn (E:=E_Zdh) (A:=A_Zdh) (done:=[0]) (c:=(Tryz.f62.body.getD .skip)) (S:=S_Zdh) (fn:=Tryz.f62) hmix Zdh_env Tryz.func62 rfl (by kernel_rfl) (by kernel_rfl) (done_cons rfl Zdh_L0_ok done_nil) (by kernel_rfl) (by kernel_rfl) Zdh_eq
def Zbd (a0:(BitVec 64)):Option ((Unit) × ((BitVec 64) × Unit)):=
 ((Zct a0 ([119,114,97,112]:List UInt8) (0:Int)).bind fun r1=>(some ((),(r1.2.1,()))))
def S_Zbd:FSpec T:=⟨[.f (.v .u64)],[(.v .u64)],fun x=>Zbd x.1⟩
def E_Zbd:Env T:=⟨tab.find,cd,globs,flc,fun f ds=>match f with
    | 63=>some S_Zct
    | _=>none,fun f=>match f with
    | 63=>true
    | _=>false⟩
def A_Zbd:Loc2 T:=⟨fun id=>match id with
    | _=>none,fun r=>match r with
    | _=>none,fun r=>match r with
    | _=>false⟩
theorem Zbd_eq (x:tySs T S_Zbd.ps):run E_Zbd A_Zbd (Tryz.f65.body.getD .skip) (enterT E_Zbd.C S_Zbd.ps x) (retK E_Zbd Tryz.f65.results.toList S_Zbd.ps S_Zbd.rs)=S_Zbd.fn x:=by kernel_rfl
theorem Zbd_env:EnvOk Tryz.prog E_Zbd:=envOk (E:=E_Zbd) cd_ok tys fl_ok fun f ds S h=>by
    dsimp only [E_Zbd] at h
    split at h
    · cases h; exact Zct_ok
    · cases h
theorem Zbd_ok:SoundT Tryz.prog cd gdn 65 S_Zbd:=
  sound_fn (E:=E_Zbd) (A:=A_Zbd) (done:=[]) (c:=(Tryz.f65.body.getD .skip)) (S:=S_Zbd) (fn:=Tryz.f65) hmix Zbd_env Tryz.func65 rfl (by kernel_rfl) (by kernel_rfl) done_nil (by kernel_rfl) (by kernel_rfl) Zbd_eq
def Zdg (a0:Int) (a1:(List (UInt8))):Option ((Unit) × ((BitVec 64) × Unit)):=
 ((Zdn (BitVec.ofInt 64 a0) (0#64) a1).bind fun r1=>(some ((),(r1.2.1,()))))
def S_Zdg:FSpec T:=⟨[.f (.v (.int .i64)),.f (.v (.rs 0))],[(.v .u64)],fun x=>Zdg x.1 x.2.1⟩
def E_Zdg:Env T:=⟨tab.find,cd,globs,flc,fun f ds=>match f with
    | 95=>some S_Zdn
    | _=>none,fun f=>match f with
    | 95=>true
    | _=>false⟩
def A_Zdg:Loc2 T:=⟨fun id=>match id with
    | _=>none,fun r=>match r with
    | _=>none,fun r=>match r with
    | _=>false⟩
theorem Zdg_eq (x:tySs T S_Zdg.ps):run E_Zdg A_Zdg (Tryz.f67.body.getD .skip) (enterT E_Zdg.C S_Zdg.ps x) (retK E_Zdg Tryz.f67.results.toList S_Zdg.ps S_Zdg.rs)=S_Zdg.fn x:=by kernel_rfl
theorem Zdg_env:EnvOk Tryz.prog E_Zdg:=envOk (E:=E_Zdg) cd_ok tys fl_ok fun f ds S h=>by
    dsimp only [E_Zdg] at h
    split at h
    · cases h; exact Zdn_ok
    · cases h
theorem Zdg_ok:SoundT Tryz.prog cd gdn 67 S_Zdg:=
  sound_fn (E:=E_Zdg) (A:=A_Zdg) (done:=[]) (c:=(Tryz.f67.body.getD .skip)) (S:=S_Zdg) (fn:=Tryz.f67) hmix Zdg_env Tryz.func67 rfl (by kernel_rfl) (by kernel_rfl) done_nil (by kernel_rfl) (by kernel_rfl) Zdg_eq
def Zch (a0:(List UInt8)):Option ((Unit) × ((BitVec 64) × Unit)):=
 ((Zdg (9:Int) a0).bind fun r1=>(some ((),(r1.2.1,()))))
def S_Zch:FSpec T:=⟨[.f (.v .str)],[(.v .u64)],fun x=>Zch x.1⟩
def E_Zch:Env T:=⟨tab.find,cd,globs,flc,fun f ds=>match f with
    | 67=>some S_Zdg
    | _=>none,fun f=>match f with
    | 67=>true
    | _=>false⟩
def A_Zch:Loc2 T:=⟨fun id=>match id with
    | _=>none,fun r=>match r with
    | _=>none,fun r=>match r with
    | _=>false⟩
theorem Zch_eq (x:tySs T S_Zch.ps):run E_Zch A_Zch (Tryz.f94.body.getD .skip) (enterT E_Zch.C S_Zch.ps x) (retK E_Zch Tryz.f94.results.toList S_Zch.ps S_Zch.rs)=S_Zch.fn x:=by kernel_rfl
theorem Zch_env:EnvOk Tryz.prog E_Zch:=envOk (E:=E_Zch) cd_ok tys fl_ok fun f ds S h=>by
    dsimp only [E_Zch] at h
    split at h
    · cases h; exact Zdg_ok
    · cases h
theorem Zch_ok:SoundT Tryz.prog cd gdn 94 S_Zch:=
  sound_fn (E:=E_Zch) (A:=A_Zch) (done:=[]) (c:=(Tryz.f94.body.getD .skip)) (S:=S_Zch) (fn:=Tryz.f94) hmix Zch_env Tryz.func94 rfl (by kernel_rfl) (by kernel_rfl) done_nil (by kernel_rfl) (by kernel_rfl) Zch_eq
def Zca (a0:(List UInt8)):Option ((Unit) × ((List (UInt8)) × Unit)):=
 ((Zch a0).bind fun r1=>((Zcy ([r1.2.1]:List (BitVec 64))).bind fun r2=>(some ((),(r2.2.1,())))))
def S_Zca:FSpec T:=⟨[.f (.v .str)],[(.own 0)],fun x=>Zca x.1⟩
def E_Zca:Env T:=⟨tab.find,cd,globs,flc,fun f ds=>match f with
    | 90=>some S_Zcy
    | 94=>some S_Zch
    | _=>none,fun f=>match f with
    | 94=>true
    | _=>false⟩
def A_Zca:Loc2 T:=⟨fun id=>match id with
    | _=>none,fun r=>match r with
    | _=>none,fun r=>match r with
    | _=>false⟩
theorem Zca_eq (x:tySs T S_Zca.ps):run E_Zca A_Zca (Tryz.f66.body.getD .skip) (enterT E_Zca.C S_Zca.ps x) (retK E_Zca Tryz.f66.results.toList S_Zca.ps S_Zca.rs)=S_Zca.fn x:=by kernel_rfl
theorem Zca_env:EnvOk Tryz.prog E_Zca:=envOk (E:=E_Zca) cd_ok tys fl_ok fun f ds S h=>by
    dsimp only [E_Zca] at h
    split at h
    · cases h; exact Zcy_ok
    · cases h; exact Zch_ok
    · cases h
theorem Zca_ok:SoundT Tryz.prog cd gdn 66 S_Zca:=
  sound_fn (E:=E_Zca) (A:=A_Zca) (done:=[]) (c:=(Tryz.f66.body.getD .skip)) (S:=S_Zca) (fn:=Tryz.f66) hmix Zca_env Tryz.func66 rfl (by kernel_rfl) (by kernel_rfl) done_nil (by kernel_rfl) (by kernel_rfl) Zca_eq
def Zdt_L0b (y0:(List (UInt8))) (y1:(List (UInt8))) (y2:Int) (y3:Int):Option (((List (UInt8)) × (List (UInt8)) × Int × Int × Unit) ⊕ ((List (UInt8)) × Unit)):=
 (bif (decide (y3 < y2)) then (bif (decide ((0:Int) ≤ y3) && decide (y3 < ((y1).length:Int))) then (((y1)[(y3).toNat]?).bind fun x2=>((getI y0 y3).bind fun x3=>(bif (decide ((0:Int) ≤ y3) && decide (y3 < ((y1).length:Int))) then (((y1)[(y3).toNat]?).bind fun x4=>(let v5:List (UInt8):=(List.set y1 (y3).toNat (UInt8.ofBitVec (x2.toBitVec ^^^ x3.toBitVec)))
 (some (Sum.inl (y0,v5,y2,(IntKind.wrap .i64 (y3 + (1:Int))),())))))
 else none)))
 else none)
 else (some (Sum.inr (y1,()))))
def Zdt_L0 (y:((List (UInt8)) × (List (UInt8)) × Int × Int × Unit)):Option ((List (UInt8)) × Unit):=iter (fun (y:((List (UInt8)) × (List (UInt8)) × Int × Int × Unit))=>Zdt_L0b y.1 y.2.1 y.2.2.1 y.2.2.2.1) rounds y
def Zdt (a0:(BitVec 64)) (a1:(BitVec 64)) (a2:(List (UInt8))):Option ((Unit) × ((List (UInt8)) × Unit)):=
 ((Zdh a0 a1 ((a2).length:Int)).bind fun r1=>((Zdt_L0 (a2,r1.2.1,((r1.2.1).length:Int),(0:Int),())).bind (fun (z6:((List (UInt8)) × Unit))=>(some ((),(z6.1,()))))))
def S_Zdt:FSpec T:=⟨[.f (.v .u64),.f (.v .u64),.f (.v (.rs 0))],[(.own 0)],fun x=>Zdt x.1 x.2.1 x.2.2.1⟩
def E_Zdt:Env T:=⟨tab.find,cd,globs,flc,fun f ds=>match f with
    | 62=>some S_Zdh
    | _=>none,fun f=>match f with
    | _=>false⟩
def A_Zdt:Loc2 T:=⟨fun id=>match id with
    | 0=>some ⟨[(2,.f (.v (.rs 0))),(7,.f (.own 0)),(15,.f (.v (.int .i64))),(16,.f (.v (.int .i64)))],[(.exit 0,[(7,.f (.own 0))])],Zdt_L0,[]⟩
    | _=>none,fun r=>match r with
    | _=>none,fun r=>match r with
    | _=>false⟩
theorem Zdt_L0_eq (y0:(List (UInt8))) (y1:(List (UInt8))) (y2:Int) (y3:Int):run E_Zdt A_Zdt (loopAt 0 (Tryz.f91.body.getD .skip)) (layC cd [(2,.f (.v (.rs 0))),(7,.f (.own 0)),(15,.f (.v (.int .i64))),(16,.f (.v (.int .i64)))] [] (y0,y1,y2,y3,())) (roundK cd [(2,.f (.v (.rs 0))),(7,.f (.own 0)),(15,.f (.v (.int .i64))),(16,.f (.v (.int .i64)))] [] [(.exit 0,[(7,.f (.own 0))])])=Zdt_L0b y0 y1 y2 y3:=by kernel_rfl
theorem Zdt_eq (x:tySs T S_Zdt.ps):run E_Zdt A_Zdt (Tryz.f91.body.getD .skip) (enterT E_Zdt.C S_Zdt.ps x) (retK E_Zdt Tryz.f91.results.toList S_Zdt.ps S_Zdt.rs)=S_Zdt.fn x:=by kernel_rfl
theorem Zdt_env:EnvOk Tryz.prog E_Zdt:=envOk (E:=E_Zdt) cd_ok tys fl_ok fun f ds S h=>by
    dsimp only [E_Zdt] at h
    split at h
    · cases h; exact Zdh_ok
    · cases h
theorem Zdt_L0_ok:LoopOk Tryz.prog E_Zdt Tryz.f91.ntmps (kqOf S_Zdt.ps 0) (loopAt 0 (Tryz.f91.body.getD .skip)) ⟨[(2,.f (.v (.rs 0))),(7,.f (.own 0)),(15,.f (.v (.int .i64))),(16,.f (.v (.int .i64)))],[(.exit 0,[(7,.f (.own 0))])],Zdt_L0,[]⟩:=
  loop_ok (A:=A_Zdt) (done:=[]) (c0:=(Tryz.f91.body.getD .skip)) hmix Zdt_env done_nil rounds (by kernel_rfl) (by kernel_rfl) (fun x=>Zdt_L0_eq x.1 x.2.1 x.2.2.1 x.2.2.2.1) (fun _=>rfl)
theorem Zdt_ok:SoundT Tryz.prog cd gdn 91 S_Zdt:=
  sound_fn (E:=E_Zdt) (A:=A_Zdt) (done:=[0]) (c:=(Tryz.f91.body.getD .skip)) (S:=S_Zdt) (fn:=Tryz.f91) hmix Zdt_env Tryz.func91 rfl (by kernel_rfl) (by kernel_rfl) (done_cons rfl Zdt_L0_ok done_nil) (by kernel_rfl) (by kernel_rfl) Zdt_eq
def Zaq (a0:Unit) (a1:Int):Option ((Unit) × ((List (UInt8)) × Unit)):=
 (bif (decide (a1 < (0:Int))) then none
 else (bif (decide ((0:Int) < (IntKind.wrap .i64 (a1 - (0:Int))))) then (bif (decide ((0:Int) < (IntKind.wrap .i64 (a1 - (0:Int)))) && (decide ((IntKind.wrap .i64 (a1 - (0:Int))) ≤ 9223372036854775807) && small ((IntKind.wrap .i64 (a1 - (0:Int)))).toNat 1)) then (bif decide ((0:Int) ≤ (((IntKind.wrap .i64 (a1 - (0:Int)))).toNat:Int)) then (bif decide (0 ≤ ((List.replicate ((IntKind.wrap .i64 (a1 - (0:Int)))).toNat (0:UInt8))).length) then (some ((),((List.take 0 (List.replicate ((IntKind.wrap .i64 (a1 - (0:Int)))).toNat (0:UInt8))),())))
 else none)
 else none)
 else none)
 else (some ((),([],())))))
def S_Zaq:FSpec T:=⟨[.f (.v .kn),.f (.v (.int .i64))],[(.own 0)],fun x=>Zaq x.1 x.2.1⟩
def E_Zaq:Env T:=⟨tab.find,cd,globs,flc,fun f ds=>match f with
    | _=>none,fun f=>match f with
    | _=>false⟩
def A_Zaq:Loc2 T:=⟨fun id=>match id with
    | _=>none,fun r=>match r with
    | _=>none,fun r=>match r with
    | _=>false⟩
theorem Zaq_eq (x:tySs T S_Zaq.ps):run E_Zaq A_Zaq (Tryz.f123.body.getD .skip) (enterT E_Zaq.C S_Zaq.ps x) (retK E_Zaq Tryz.f123.results.toList S_Zaq.ps S_Zaq.rs)=S_Zaq.fn x:=by kernel_rfl
theorem Zaq_env:EnvOk Tryz.prog E_Zaq:=envOk (E:=E_Zaq) cd_ok tys fl_ok fun f ds S h=>by cases h
theorem Zaq_ok:SoundT Tryz.prog cd gdn 123 S_Zaq:=
  sound_fn (E:=E_Zaq) (A:=A_Zaq) (done:=[]) (c:=(Tryz.f123.body.getD .skip)) (S:=S_Zaq) (fn:=Tryz.f123) hmix Zaq_env Tryz.func123 rfl (by kernel_rfl) (by kernel_rfl) done_nil (by kernel_rfl) (by kernel_rfl) Zaq_eq
def Zak_L0b (y0:(List (List UInt8))) (y1:Int) (y2:(List (List UInt8))) (y3:Int) (y4:Int):Option (((List (List UInt8)) × Int × (List (List UInt8)) × Int × Int × Unit) ⊕ ((List (List UInt8)) × Int × Unit)):=
 (bif (decide (y4 < y3)) then ((getI y2 y4).bind fun x1=>(bif (decide ((IntKind.wrap .i64 (y1 + ((x1).length:Int))) < (0:Int))) then none
 else (some (Sum.inl (y0,(IntKind.wrap .i64 (y1 + ((x1).length:Int))),y2,y3,(IntKind.wrap .i64 (y4 + (1:Int))),())))))
 else (some (Sum.inr (y0,y1,()))))
def Zak_L0 (y:((List (List UInt8)) × Int × (List (List UInt8)) × Int × Int × Unit)):Option ((List (List UInt8)) × Int × Unit):=iter (fun (y:((List (List UInt8)) × Int × (List (List UInt8)) × Int × Int × Unit))=>Zak_L0b y.1 y.2.1 y.2.2.1 y.2.2.2.1 y.2.2.2.2.1) rounds y
def Zak_L2b (y0:(List (UInt8))) (y1:(List (List UInt8))) (y2:Int) (y3:Int):Option (((List (UInt8)) × (List (List UInt8)) × Int × Int × Unit) ⊕ ((List (UInt8)) × Unit)):=
 (bif (decide (y3 < y2)) then ((getI y1 y3).bind fun x4=>(bif small ((y0).length + (x4:List (UInt8)).length) 1 then (some (Sum.inl ((y0 ++ x4),y1,y2,(IntKind.wrap .i64 (y3 + (1:Int))),())))
 else none))
 else (some (Sum.inr (y0,()))))
def Zak_L2 (y:((List (UInt8)) × (List (List UInt8)) × Int × Int × Unit)):Option ((List (UInt8)) × Unit):=iter (fun (y:((List (UInt8)) × (List (List UInt8)) × Int × Int × Unit))=>Zak_L2b y.1 y.2.1 y.2.2.1 y.2.2.2.1) rounds y
def Zak (a0:(List (List UInt8))):Option ((Unit) × ((List (UInt8)) × Unit)):=
 ((Zak_L0 (a0,(0:Int),a0,((a0).length:Int),(0:Int),())).bind (fun (z2:((List (List UInt8)) × Int × Unit))=>((Zaq () z2.2.1).bind fun r3=>((Zak_L2 (r3.2.1,z2.1,((z2.1).length:Int),(0:Int),())).bind (fun (z5:((List (UInt8)) × Unit))=>(some ((),(z5.1,()))))))))
def S_Zak:FSpec T:=⟨[.f (.v (.rs 10))],[(.own 0)],fun x=>Zak x.1⟩
def E_Zak:Env T:=⟨tab.find,cd,globs,flc,fun f ds=>match f with
    | 123=>some S_Zaq
    | _=>none,fun f=>match f with
    | _=>false⟩
def A_Zak:Loc2 T:=⟨fun id=>match id with
    | 0=>some ⟨[(0,.f (.v (.rs 10))),(3,.f (.v (.int .i64))),(9,.f (.v (.rs 10))),(10,.f (.v (.int .i64))),(11,.f (.v (.int .i64)))],[(.exit 0,[(0,.f (.v (.rs 10))),(3,.f (.v (.int .i64)))])],Zak_L0,[]⟩
    | 2=>some ⟨[(6,.f (.own 0)),(25,.f (.v (.rs 10))),(26,.f (.v (.int .i64))),(27,.f (.v (.int .i64)))],[(.exit 2,[(6,.f (.own 0))])],Zak_L2,[]⟩
    | _=>none,fun r=>match r with
    | _=>none,fun r=>match r with
    | _=>false⟩
theorem Zak_L0_eq (y0:(List (List UInt8))) (y1:Int) (y2:(List (List UInt8))) (y3:Int) (y4:Int):run E_Zak A_Zak (loopAt 0 (Tryz.f93.body.getD .skip)) (layC cd [(0,.f (.v (.rs 10))),(3,.f (.v (.int .i64))),(9,.f (.v (.rs 10))),(10,.f (.v (.int .i64))),(11,.f (.v (.int .i64)))] [] (y0,y1,y2,y3,y4,())) (roundK cd [(0,.f (.v (.rs 10))),(3,.f (.v (.int .i64))),(9,.f (.v (.rs 10))),(10,.f (.v (.int .i64))),(11,.f (.v (.int .i64)))] [] [(.exit 0,[(0,.f (.v (.rs 10))),(3,.f (.v (.int .i64)))])])=Zak_L0b y0 y1 y2 y3 y4:=by kernel_rfl
theorem Zak_L2_eq (y0:(List (UInt8))) (y1:(List (List UInt8))) (y2:Int) (y3:Int):run E_Zak A_Zak (loopAt 2 (Tryz.f93.body.getD .skip)) (layC cd [(6,.f (.own 0)),(25,.f (.v (.rs 10))),(26,.f (.v (.int .i64))),(27,.f (.v (.int .i64)))] [] (y0,y1,y2,y3,())) (roundK cd [(6,.f (.own 0)),(25,.f (.v (.rs 10))),(26,.f (.v (.int .i64))),(27,.f (.v (.int .i64)))] [] [(.exit 2,[(6,.f (.own 0))])])=Zak_L2b y0 y1 y2 y3:=by kernel_rfl
theorem Zak_eq (x:tySs T S_Zak.ps):run E_Zak A_Zak (Tryz.f93.body.getD .skip) (enterT E_Zak.C S_Zak.ps x) (retK E_Zak Tryz.f93.results.toList S_Zak.ps S_Zak.rs)=S_Zak.fn x:=by kernel_rfl
theorem Zak_env:EnvOk Tryz.prog E_Zak:=envOk (E:=E_Zak) cd_ok tys fl_ok fun f ds S h=>by
    dsimp only [E_Zak] at h
    split at h
    · cases h; exact Zaq_ok
    · cases h
theorem Zak_L0_ok:LoopOk Tryz.prog E_Zak Tryz.f93.ntmps (kqOf S_Zak.ps 0) (loopAt 0 (Tryz.f93.body.getD .skip)) ⟨[(0,.f (.v (.rs 10))),(3,.f (.v (.int .i64))),(9,.f (.v (.rs 10))),(10,.f (.v (.int .i64))),(11,.f (.v (.int .i64)))],[(.exit 0,[(0,.f (.v (.rs 10))),(3,.f (.v (.int .i64)))])],Zak_L0,[]⟩:=
  loop_ok (A:=A_Zak) (done:=[]) (c0:=(Tryz.f93.body.getD .skip)) hmix Zak_env done_nil rounds (by kernel_rfl) (by kernel_rfl) (fun x=>Zak_L0_eq x.1 x.2.1 x.2.2.1 x.2.2.2.1 x.2.2.2.2.1) (fun _=>rfl)
theorem Zak_L2_ok:LoopOk Tryz.prog E_Zak Tryz.f93.ntmps (kqOf S_Zak.ps 0) (loopAt 2 (Tryz.f93.body.getD .skip)) ⟨[(6,.f (.own 0)),(25,.f (.v (.rs 10))),(26,.f (.v (.int .i64))),(27,.f (.v (.int .i64)))],[(.exit 2,[(6,.f (.own 0))])],Zak_L2,[]⟩:=
  loop_ok (A:=A_Zak) (done:=[0]) (c0:=(Tryz.f93.body.getD .skip)) hmix Zak_env (done_cons rfl Zak_L0_ok done_nil) rounds (by kernel_rfl) (by kernel_rfl) (fun x=>Zak_L2_eq x.1 x.2.1 x.2.2.1 x.2.2.2.1) (fun _=>rfl)
theorem Zak_ok:SoundT Tryz.prog cd gdn 93 S_Zak:=
  sound_fn (E:=E_Zak) (A:=A_Zak) (done:=[0,2]) (c:=(Tryz.f93.body.getD .skip)) (S:=S_Zak) (fn:=Tryz.f93) hmix Zak_env Tryz.func93 rfl (by kernel_rfl) (by kernel_rfl) (done_cons rfl Zak_L0_ok (done_cons rfl Zak_L2_ok done_nil)) (by kernel_rfl) (by kernel_rfl) Zak_eq
def Zdu (a0:(BitVec 64)) (a1:(BitVec 64)) (a2:(List (UInt8))) (a3:(List (UInt8))):Option ((Unit) × (Arr8_UInt8 × Unit)):=
 (let v1:List (BitVec 64):=([a1,(BitVec.ofInt 64 ((a2).length:Int))]:List (BitVec 64))
 ((Zcy v1).bind fun r2=>((Zak ([r2.2.1,a2,a3]:List (List UInt8))).bind fun r3=>((Zdm a0 (6:Int) r3.2.1).bind fun r4=>((Zcy ([r4.2.1]:List (BitVec 64))).bind fun r5=>(bif decide (8 ≤ (r5.2.1).length) then (((r5.2.1)[0]?).bind fun x6=>(((r5.2.1)[1]?).bind fun x7=>(((r5.2.1)[2]?).bind fun x8=>(((r5.2.1)[3]?).bind fun x9=>(((r5.2.1)[4]?).bind fun x10=>(((r5.2.1)[5]?).bind fun x11=>(((r5.2.1)[6]?).bind fun x12=>(((r5.2.1)[7]?).bind fun x13=>(((([x6,x7,x8,x9,x10,x11,x12,x13]:List (UInt8)))[0]?).bind fun x14=>(((([x6,x7,x8,x9,x10,x11,x12,x13]:List (UInt8)))[1]?).bind fun x15=>(((([x6,x7,x8,x9,x10,x11,x12,x13]:List (UInt8)))[2]?).bind fun x16=>(((([x6,x7,x8,x9,x10,x11,x12,x13]:List (UInt8)))[3]?).bind fun x17=>(((([x6,x7,x8,x9,x10,x11,x12,x13]:List (UInt8)))[4]?).bind fun x18=>(((([x6,x7,x8,x9,x10,x11,x12,x13]:List (UInt8)))[5]?).bind fun x19=>(((([x6,x7,x8,x9,x10,x11,x12,x13]:List (UInt8)))[6]?).bind fun x20=>(((([x6,x7,x8,x9,x10,x11,x12,x13]:List (UInt8)))[7]?).bind fun x21=>(some ((),((⟨x14,x15,x16,x17,x18,x19,x20,x21⟩:Arr8_UInt8),())))))))))))))))))))
 else none))))))
def S_Zdu:FSpec T:=⟨[.f (.v .u64),.f (.v .u64),.f (.v (.rs 0)),.f (.v (.rs 0))],[(.v (.agg 11))],fun x=>Zdu x.1 x.2.1 x.2.2.1 x.2.2.2.1⟩
def E_Zdu:Env T:=⟨tab.find,cd,globs,flc,fun f ds=>match f with
    | 89=>some S_Zdm
    | 90=>some S_Zcy
    | 93=>some S_Zak
    | _=>none,fun f=>match f with
    | 89=>true
    | _=>false⟩
def A_Zdu:Loc2 T:=⟨fun id=>match id with
    | _=>none,fun r=>match r with
    | _=>none,fun r=>match r with
    | _=>false⟩
theorem Zdu_eq (x:tySs T S_Zdu.ps):run E_Zdu A_Zdu (Tryz.f92.body.getD .skip) (enterT E_Zdu.C S_Zdu.ps x) (retK E_Zdu Tryz.f92.results.toList S_Zdu.ps S_Zdu.rs)=S_Zdu.fn x:=by kernel_rfl
theorem Zdu_env:EnvOk Tryz.prog E_Zdu:=envOk (E:=E_Zdu) cd_ok tys fl_ok fun f ds S h=>by
    dsimp only [E_Zdu] at h
    split at h
    · cases h; exact Zdm_ok
    · cases h; exact Zcy_ok
    · cases h; exact Zak_ok
    · cases h
theorem Zdu_ok:SoundT Tryz.prog cd gdn 92 S_Zdu:=
  sound_fn (E:=E_Zdu) (A:=A_Zdu) (done:=[]) (c:=(Tryz.f92.body.getD .skip)) (S:=S_Zdu) (fn:=Tryz.f92) hmix Zdu_env Tryz.func92 rfl (by kernel_rfl) (by kernel_rfl) done_nil (by kernel_rfl) (by kernel_rfl) Zdu_eq
def Zds (a0:(BitVec 64)) (a1:(BitVec 64)) (a2:(List (UInt8))) (a3:(List (UInt8))):Option ((Unit) × ((List (UInt8)) × Int × Unit)):=
 (bif (decide ((1024:Int) < ((a3).length:Int))) then (some ((),([],(8:Int),())))
 else (bif (decide ((1024:Int) < ((a2).length:Int))) then (some ((),([],(8:Int),())))
 else ((Zdt a0 a1 a3).bind fun r1=>((Zdu a0 a1 a2 r1.2.1).bind fun r2=>((Zcy ([a1]:List (BitVec 64))).bind fun r3=>(let v4:List (List UInt8):=([r3.2.1,r1.2.1,([r2.2.1.a0,r2.2.1.a1,r2.2.1.a2,r2.2.1.a3,r2.2.1.a4,r2.2.1.a5,r2.2.1.a6,r2.2.1.a7]:List (UInt8))]:List (List UInt8))
 ((Zak v4).bind fun r5=>(some ((),(r5.2.1,(0:Int),()))))))))))
def S_Zds:FSpec T:=⟨[.f (.v .u64),.f (.v .u64),.f (.v (.rs 0)),.f (.v (.rs 0))],[(.own 0),(.v (.int .i64))],fun x=>Zds x.1 x.2.1 x.2.2.1 x.2.2.2.1⟩
def E_Zds:Env T:=⟨tab.find,cd,globs,flc,fun f ds=>match f with
    | 90=>some S_Zcy
    | 91=>some S_Zdt
    | 92=>some S_Zdu
    | 93=>some S_Zak
    | _=>none,fun f=>match f with
    | 92=>true
    | _=>false⟩
def A_Zds:Loc2 T:=⟨fun id=>match id with
    | _=>none,fun r=>match r with
    | _=>none,fun r=>match r with
    | 5=>true
    | _=>false⟩
theorem Zds_eq (x:tySs T S_Zds.ps):run E_Zds A_Zds (Tryz.f64.body.getD .skip) (enterT E_Zds.C S_Zds.ps x) (retK E_Zds Tryz.f64.results.toList S_Zds.ps S_Zds.rs)=S_Zds.fn x:=by kernel_rfl
theorem Zds_env:EnvOk Tryz.prog E_Zds:=envOk (E:=E_Zds) cd_ok tys fl_ok fun f ds S h=>by
    dsimp only [E_Zds] at h
    split at h
    · cases h; exact Zcy_ok
    · cases h; exact Zdt_ok
    · cases h; exact Zdu_ok
    · cases h; exact Zak_ok
    · cases h
theorem Zds_ok:SoundT Tryz.prog cd gdn 64 S_Zds:=
  sound_fn (E:=E_Zds) (A:=A_Zds) (done:=[]) (c:=(Tryz.f64.body.getD .skip)) (S:=S_Zds) (fn:=Tryz.f64) hmix Zds_env Tryz.func64 rfl (by kernel_rfl) (by kernel_rfl) done_nil (by kernel_rfl) (by kernel_rfl) Zds_eq
def Zcs (a0:(BitVec 64)) (a1:(BitVec 64)) (a2:ApiCredential):Option ((Unit) × ((List (UInt8)) × Int × Unit)):=
 ((Zbm a2).bind fun r1=>(bif (!decide (r1.2.2.1=(0:Int))) then (some ((),([],r1.2.2.1,())))
 else (bif a2.resident then ((Zct a2.seed ([105,100]:List UInt8) (0:Int)).bind fun r2=>((Zdh r2.2.1 (0#64) (176:Int)).bind fun r3=>(some ((),(r3.2.1,(0:Int),())))))
 else (let v4:List (UInt8):=(List.replicate 160 (0:UInt8))
 (bif decide ((r1.2.1:List (UInt8)).length ≤ (v4).length) then (let v5:List (UInt8):=(r1.2.1 ++ List.drop (r1.2.1:List (UInt8)).length v4)
 ((Zbd a0).bind fun r6=>((Zca a2.rP).bind fun r7=>((Zds r6.2.1 a1 r7.2.1 v5).bind fun r8=>(some ((),(r8.2.1,r8.2.2.1,())))))))
 else none)))))
def S_Zcs:FSpec T:=⟨[.f (.v .u64),.f (.v .u64),.f (.v (.agg 2))],[(.own 0),(.v (.int .i64))],fun x=>Zcs x.1 x.2.1 x.2.2.1⟩
def E_Zcs:Env T:=⟨tab.find,cd,globs,flc,fun f ds=>match f with
    | 12=>some S_Zbm
    | 62=>some S_Zdh
    | 63=>some S_Zct
    | 64=>some S_Zds
    | 65=>some S_Zbd
    | 66=>some S_Zca
    | _=>none,fun f=>match f with
    | 63=>true
    | 65=>true
    | _=>false⟩
def A_Zcs:Loc2 T:=⟨fun id=>match id with
    | _=>none,fun r=>match r with
    | _=>none,fun r=>match r with
    | _=>false⟩
theorem Zcs_eq (x:tySs T S_Zcs.ps):run E_Zcs A_Zcs (Tryz.f25.body.getD .skip) (enterT E_Zcs.C S_Zcs.ps x) (retK E_Zcs Tryz.f25.results.toList S_Zcs.ps S_Zcs.rs)=S_Zcs.fn x:=by kernel_rfl
theorem Zcs_env:EnvOk Tryz.prog E_Zcs:=envOk (E:=E_Zcs) cd_ok tys fl_ok fun f ds S h=>by
    dsimp only [E_Zcs] at h
    split at h
    · cases h; exact Zbm_ok
    · cases h; exact Zdh_ok
    · cases h; exact Zct_ok
    · cases h; exact Zds_ok
    · cases h; exact Zbd_ok
    · cases h; exact Zca_ok
    · cases h
theorem Zcs_ok:SoundT Tryz.prog cd gdn 25 S_Zcs:=
  sound_fn (E:=E_Zcs) (A:=A_Zcs) (done:=[]) (c:=(Tryz.f25.body.getD .skip)) (S:=S_Zcs) (fn:=Tryz.f25) hmix Zcs_env Tryz.func25 rfl (by kernel_rfl) (by kernel_rfl) done_nil (by kernel_rfl) (by kernel_rfl) Zcs_eq
def Zdr_L0b (y0:(BitVec 64)) (y1:(List (UInt8))) (y2:(List (UInt8))) (y3:(BitVec 64)) (y4:(List (UInt8))) (y5:Int) (y6:Int):Option (((BitVec 64) × (List (UInt8)) × (List (UInt8)) × (BitVec 64) × (List (UInt8)) × Int × Int × Unit) ⊕ ((BitVec 64) × (List (UInt8)) × (List (UInt8)) × (BitVec 64) × Unit)):=
 (bif (decide (y6 < y5)) then ((getI y4 y6).bind fun x1=>(some (Sum.inl (y0,y1,y2,((y3 <<< 8) ||| (BitVec.setWidth 64 x1.toBitVec)),y4,y5,(IntKind.wrap .i64 (y6 + (1:Int))),()))))
 else (some (Sum.inr (y0,y1,y2,y3,()))))
def Zdr_L0 (y:((BitVec 64) × (List (UInt8)) × (List (UInt8)) × (BitVec 64) × (List (UInt8)) × Int × Int × Unit)):Option ((BitVec 64) × (List (UInt8)) × (List (UInt8)) × (BitVec 64) × Unit):=iter (fun (y:((BitVec 64) × (List (UInt8)) × (List (UInt8)) × (BitVec 64) × (List (UInt8)) × Int × Int × Unit))=>Zdr_L0b y.1 y.2.1 y.2.2.1 y.2.2.2.1 y.2.2.2.2.1 y.2.2.2.2.2.1 y.2.2.2.2.2.2.1) rounds y
def Zdr (a0:(BitVec 64)) (a1:(List (UInt8))) (a2:(List (UInt8))):Option ((Unit) × ((List (UInt8)) × Int × Unit)):=
 (bif (decide (((a2).length:Int) < (16:Int))) then (some ((),([],(1:Int),())))
 else (bif (decide ((1040:Int) < ((a2).length:Int))) then (some ((),([],(8:Int),())))
 else (bif (decide ((1024:Int) < ((a1).length:Int))) then (some ((),([],(8:Int),())))
 else (bif decide ((8:Int) ≤ ((a2).length:Int)) then ((Zdr_L0 (a0,a1,a2,0#64,(List.take 8 a2),(((List.take 8 a2)).length:Int),(0:Int),())).bind (fun (z2:((BitVec 64) × (List (UInt8)) × (List (UInt8)) × (BitVec 64) × Unit))=>(bif (decide ((0:Int) ≤ (IntKind.wrap .i64 (((z2.2.2.1).length:Int) - (8:Int)))) && decide ((IntKind.wrap .i64 (((z2.2.2.1).length:Int) - (8:Int))) ≤ ((z2.2.2.1).length:Int))) then (let v3:List (UInt8):=(List.drop ((IntKind.wrap .i64 (((z2.2.2.1).length:Int) - (8:Int)))).toNat z2.2.2.1)
 (((v3)[0]?).bind fun x4=>(((v3)[1]?).bind fun x5=>(((v3)[2]?).bind fun x6=>(((v3)[3]?).bind fun x7=>(((v3)[4]?).bind fun x8=>(((v3)[5]?).bind fun x9=>(((v3)[6]?).bind fun x10=>(((v3)[7]?).bind fun x11=>(bif (decide ((0:Int) ≤ (IntKind.wrap .i64 (((z2.2.2.1).length:Int) - (8:Int)))) && decide ((IntKind.wrap .i64 (((z2.2.2.1).length:Int) - (8:Int))) ≤ ((z2.2.2.1).length:Int))) then (bif decide ((8:Int) ≤ (((IntKind.wrap .i64 (((z2.2.2.1).length:Int) - (8:Int)))).toNat:Int)) then (let v12:List (UInt8):=(List.drop 8 (List.take ((IntKind.wrap .i64 (((z2.2.2.1).length:Int) - (8:Int)))).toNat z2.2.2.1))
 ((Zdu z2.1 z2.2.2.2.1 z2.2.1 v12).bind fun r13=>(let v14:Bool:=(!(decide (x4=r13.2.1.a0) && (decide (x5=r13.2.1.a1) && (decide (x6=r13.2.1.a2) && (decide (x7=r13.2.1.a3) && (decide (x8=r13.2.1.a4) && (decide (x9=r13.2.1.a5) && (decide (x10=r13.2.1.a6) && (decide (x11=r13.2.1.a7) && true)))))))))
 (bif v14 then (some ((),([],(14:Int),())))
 else (bif (decide ((0:Int) ≤ (IntKind.wrap .i64 (((z2.2.2.1).length:Int) - (8:Int)))) && decide ((IntKind.wrap .i64 (((z2.2.2.1).length:Int) - (8:Int))) ≤ ((z2.2.2.1).length:Int))) then (bif decide ((8:Int) ≤ (((IntKind.wrap .i64 (((z2.2.2.1).length:Int) - (8:Int)))).toNat:Int)) then (let v15:List (UInt8):=(List.drop 8 (List.take ((IntKind.wrap .i64 (((z2.2.2.1).length:Int) - (8:Int)))).toNat z2.2.2.1))
 ((Zdt z2.1 z2.2.2.2.1 v15).bind fun r16=>(some ((),(r16.2.1,(0:Int),())))))
 else none)
 else none)))))
 else none)
 else none))))))))))
 else none)))
 else none))))
def S_Zdr:FSpec T:=⟨[.f (.v .u64),.f (.v (.rs 0)),.f (.v (.rs 0))],[(.own 0),(.v (.int .i64))],fun x=>Zdr x.1 x.2.1 x.2.2.1⟩
def E_Zdr:Env T:=⟨tab.find,cd,globs,flc,fun f ds=>match f with
    | 91=>some S_Zdt
    | 92=>some S_Zdu
    | _=>none,fun f=>match f with
    | 92=>true
    | _=>false⟩
def A_Zdr:Loc2 T:=⟨fun id=>match id with
    | 0=>some ⟨[(0,.f (.v .u64)),(1,.f (.v (.rs 0))),(2,.f (.v (.rs 0))),(8,.f (.v .u64)),(24,.f (.v (.rs 0))),(25,.f (.v (.int .i64))),(26,.f (.v (.int .i64)))],[(.exit 0,[(0,.f (.v .u64)),(1,.f (.v (.rs 0))),(2,.f (.v (.rs 0))),(8,.f (.v .u64))])],Zdr_L0,[]⟩
    | _=>none,fun r=>match r with
    | _=>none,fun r=>match r with
    | _=>false⟩
theorem Zdr_L0_eq (y0:(BitVec 64)) (y1:(List (UInt8))) (y2:(List (UInt8))) (y3:(BitVec 64)) (y4:(List (UInt8))) (y5:Int) (y6:Int):run E_Zdr A_Zdr (loopAt 0 (Tryz.f71.body.getD .skip)) (layC cd [(0,.f (.v .u64)),(1,.f (.v (.rs 0))),(2,.f (.v (.rs 0))),(8,.f (.v .u64)),(24,.f (.v (.rs 0))),(25,.f (.v (.int .i64))),(26,.f (.v (.int .i64)))] [] (y0,y1,y2,y3,y4,y5,y6,())) (roundK cd [(0,.f (.v .u64)),(1,.f (.v (.rs 0))),(2,.f (.v (.rs 0))),(8,.f (.v .u64)),(24,.f (.v (.rs 0))),(25,.f (.v (.int .i64))),(26,.f (.v (.int .i64)))] [] [(.exit 0,[(0,.f (.v .u64)),(1,.f (.v (.rs 0))),(2,.f (.v (.rs 0))),(8,.f (.v .u64))])])=Zdr_L0b y0 y1 y2 y3 y4 y5 y6:=by kernel_rfl
theorem Zdr_eq (x:tySs T S_Zdr.ps):run E_Zdr A_Zdr (Tryz.f71.body.getD .skip) (enterT E_Zdr.C S_Zdr.ps x) (retK E_Zdr Tryz.f71.results.toList S_Zdr.ps S_Zdr.rs)=S_Zdr.fn x:=by kernel_rfl
theorem Zdr_env:EnvOk Tryz.prog E_Zdr:=envOk (E:=E_Zdr) cd_ok tys fl_ok fun f ds S h=>by
    dsimp only [E_Zdr] at h
    split at h
    · cases h; exact Zdt_ok
    · cases h; exact Zdu_ok
    · cases h
theorem Zdr_L0_ok:LoopOk Tryz.prog E_Zdr Tryz.f71.ntmps (kqOf S_Zdr.ps 0) (loopAt 0 (Tryz.f71.body.getD .skip)) ⟨[(0,.f (.v .u64)),(1,.f (.v (.rs 0))),(2,.f (.v (.rs 0))),(8,.f (.v .u64)),(24,.f (.v (.rs 0))),(25,.f (.v (.int .i64))),(26,.f (.v (.int .i64)))],[(.exit 0,[(0,.f (.v .u64)),(1,.f (.v (.rs 0))),(2,.f (.v (.rs 0))),(8,.f (.v .u64))])],Zdr_L0,[]⟩:=
  loop_ok (A:=A_Zdr) (done:=[]) (c0:=(Tryz.f71.body.getD .skip)) hmix Zdr_env done_nil rounds (by kernel_rfl) (by kernel_rfl) (fun x=>Zdr_L0_eq x.1 x.2.1 x.2.2.1 x.2.2.2.1 x.2.2.2.2.1 x.2.2.2.2.2.1 x.2.2.2.2.2.2.1) (fun _=>rfl)
theorem Zdr_ok:SoundT Tryz.prog cd gdn 71 S_Zdr:=
  sound_fn (E:=E_Zdr) (A:=A_Zdr) (done:=[0]) (c:=(Tryz.f71.body.getD .skip)) (S:=S_Zdr) (fn:=Tryz.f71) hmix Zdr_env Tryz.func71 rfl (by kernel_rfl) (by kernel_rfl) (done_cons rfl Zdr_L0_ok done_nil) (by kernel_rfl) (by kernel_rfl) Zdr_eq
def Zdl (a0:(BitVec 64)):Option ((Unit) × (Int × Unit)):=
 (bif (decide (a0.toNat < (24#64).toNat)) then (some ((),((0:Int),())))
 else (bif (decide (a0.toNat < (256#64).toNat)) then (some ((),((1:Int),())))
 else (bif (decide (a0.toNat < (65536#64).toNat)) then (some ((),((2:Int),())))
 else (bif (decide (a0.toNat < (4294967296#64).toNat)) then (some ((),((4:Int),())))
 else (some ((),((8:Int),())))))))
def S_Zdl:FSpec T:=⟨[.f (.v .u64)],[(.v (.int .i64))],fun x=>Zdl x.1⟩
def E_Zdl:Env T:=⟨tab.find,cd,globs,flc,fun f ds=>match f with
    | _=>none,fun f=>match f with
    | _=>false⟩
def A_Zdl:Loc2 T:=⟨fun id=>match id with
    | _=>none,fun r=>match r with
    | _=>none,fun r=>match r with
    | _=>false⟩
theorem Zdl_eq (x:tySs T S_Zdl.ps):run E_Zdl A_Zdl (Tryz.f148.body.getD .skip) (enterT E_Zdl.C S_Zdl.ps x) (retK E_Zdl Tryz.f148.results.toList S_Zdl.ps S_Zdl.rs)=S_Zdl.fn x:=by kernel_rfl
theorem Zdl_env:EnvOk Tryz.prog E_Zdl:=envOk (E:=E_Zdl) cd_ok tys fl_ok fun f ds S h=>by cases h
theorem Zdl_ok:SoundT Tryz.prog cd gdn 148 S_Zdl:=
  sound_fn (E:=E_Zdl) (A:=A_Zdl) (done:=[]) (c:=(Tryz.f148.body.getD .skip)) (S:=S_Zdl) (fn:=Tryz.f148) hmix Zdl_env Tryz.func148 rfl (by kernel_rfl) (by kernel_rfl) done_nil (by kernel_rfl) (by kernel_rfl) Zdl_eq
def Zbv_L1b (y0:((List (CborFrame)) × Int × (List (UInt8)) × Int × Unit)) (y1:Int) (y2:(BitVec 64)) (y3:Int) (y4:(List (UInt8))) (y5:Int) (y6:Int):Option ((((List (CborFrame)) × Int × (List (UInt8)) × Int × Unit) × Int × (BitVec 64) × Int × (List (UInt8)) × Int × Int × Unit) ⊕ (((List (CborFrame)) × Int × (List (UInt8)) × Int × Unit) × Int × (BitVec 64) × Int × Unit)):=
 (bif (decide (y6 < y5)) then ((getI y4 y6).bind fun x10=>(some (Sum.inl ((y0.1,y0.2.1,y0.2.2.1,y0.2.2.2.1,()),y1,((y2 <<< 8) ||| (BitVec.setWidth 64 x10.toBitVec)),y3,y4,y5,(IntKind.wrap .i64 (y6 + (1:Int))),()))))
 else (some (Sum.inr ((y0.1,y0.2.1,y0.2.2.1,y0.2.2.2.1,()),y1,y2,y3,()))))
def Zbv_L1 (y:(((List (CborFrame)) × Int × (List (UInt8)) × Int × Unit) × Int × (BitVec 64) × Int × (List (UInt8)) × Int × Int × Unit)):Option (((List (CborFrame)) × Int × (List (UInt8)) × Int × Unit) × Int × (BitVec 64) × Int × Unit):=iter (fun (y:(((List (CborFrame)) × Int × (List (UInt8)) × Int × Unit) × Int × (BitVec 64) × Int × (List (UInt8)) × Int × Int × Unit))=>Zbv_L1b y.1 y.2.1 y.2.2.1 y.2.2.2.1 y.2.2.2.2.1 y.2.2.2.2.2.1 y.2.2.2.2.2.2.1) rounds y
def Zbv (a0:((List (CborFrame)) × Int × (List (UInt8)) × Int × Unit)):Option ((((List (CborFrame)) × Int × (List (UInt8)) × Int × Unit) × Unit) × (Int × (BitVec 64) × Int × Unit)):=
 (bif (decide (((a0.2.2.1).length:Int) ≤ a0.2.2.2.1)) then (some (((a0.1,a0.2.1,a0.2.2.1,a0.2.2.2.1,()),()),((0:Int),0#64,(1:Int),())))
 else ((getI a0.2.2.1 a0.2.2.2.1).bind fun x1=>((bif (decide (x1.toBitVec=(244:UInt8).toBitVec)) then (bif (decide (x1.toBitVec=(244:UInt8).toBitVec)) then (let v2:BitVec 64:=(BitVec.setWidth 64 (UInt8.ofBitVec (x1.toBitVec - (244:UInt8).toBitVec)).toBitVec)
 (((some (((a0.1,a0.2.1,a0.2.2.1,(IntKind.wrap .i64 (a0.2.2.2.1 + (1:Int))),()),()),((7:Int),v2,(0:Int),())))).bind fun q=>some (Sum.inr q)))
 else (bif (decide (x1.toBitVec=(246:UInt8).toBitVec)) then (((some (((a0.1,a0.2.1,a0.2.2.1,(IntKind.wrap .i64 (a0.2.2.2.1 + (1:Int))),()),()),((8:Int),0#64,(0:Int),())))).bind fun q=>some (Sum.inr q))
 else (some (Sum.inl ((a0.1,a0.2.1,a0.2.2.1,(IntKind.wrap .i64 (a0.2.2.2.1 + (1:Int))),()),0#64,x1,())))))
 else (bif (decide (x1.toBitVec=(245:UInt8).toBitVec)) then (let v3:BitVec 64:=(BitVec.setWidth 64 (UInt8.ofBitVec (x1.toBitVec - (244:UInt8).toBitVec)).toBitVec)
 (((some (((a0.1,a0.2.1,a0.2.2.1,(IntKind.wrap .i64 (a0.2.2.2.1 + (1:Int))),()),()),((7:Int),v3,(0:Int),())))).bind fun q=>some (Sum.inr q)))
 else (bif (decide (x1.toBitVec=(246:UInt8).toBitVec)) then (((some (((a0.1,a0.2.1,a0.2.2.1,(IntKind.wrap .i64 (a0.2.2.2.1 + (1:Int))),()),()),((8:Int),0#64,(0:Int),())))).bind fun q=>some (Sum.inr q))
 else (some (Sum.inl ((a0.1,a0.2.1,a0.2.2.1,(IntKind.wrap .i64 (a0.2.2.2.1 + (1:Int))),()),0#64,x1,())))))).bind (Sum.elim (fun (j4:(((List (CborFrame)) × Int × (List (UInt8)) × Int × Unit) × (BitVec 64) × UInt8 × Unit))=>(let v5:UInt8:=(UInt8.ofBitVec (j4.2.2.1.toBitVec &&& (31:UInt8).toBitVec))
 (bif (decide ((5:UInt8).toBitVec.toNat < (UInt8.ofBitVec (j4.2.2.1.toBitVec >>> 5)).toBitVec.toNat)) then (some (((j4.1.1,j4.1.2.1,j4.1.2.2.1,j4.1.2.2.2.1,()),()),((0:Int),0#64,(2:Int),())))
 else (bif (decide ((27:UInt8).toBitVec.toNat < v5.toBitVec.toNat)) then (some (((j4.1.1,j4.1.2.1,j4.1.2.2.1,j4.1.2.2.2.1,()),()),((0:Int),0#64,(2:Int),())))
 else (let v6:Int:=((UInt8.ofBitVec (j4.2.2.1.toBitVec >>> 5)).toBitVec.toNat:Int)
 (bif (decide (v5.toBitVec.toNat < (24:UInt8).toBitVec.toNat)) then (some (((j4.1.1,j4.1.2.1,j4.1.2.2.1,j4.1.2.2.2.1,()),()),((IntKind.wrap .i64 ((1:Int) + v6)),(BitVec.setWidth 64 v5.toBitVec),(0:Int),())))
 else (let v7:Int:=(IntKind.wrap .i64 ((1:Int) * 2 ^ (min (UInt8.ofBitVec (v5.toBitVec - (24:UInt8).toBitVec)).toNat (IntKind.bits .i64))))
 (let v8:Int:=(IntKind.wrap .i64 (((j4.1.2.2.1).length:Int) - j4.1.2.2.2.1))
 (bif (decide (v8 < v7)) then (some (((j4.1.1,j4.1.2.1,j4.1.2.2.1,j4.1.2.2.2.1,()),()),((0:Int),0#64,(1:Int),())))
 else (bif (decide ((0:Int) ≤ (IntKind.wrap .i64 (j4.1.2.2.2.1 + v7))) && decide ((IntKind.wrap .i64 (j4.1.2.2.2.1 + v7)) ≤ ((j4.1.2.2.1).length:Int))) then (bif (decide ((0:Int) ≤ j4.1.2.2.2.1) && decide (j4.1.2.2.2.1 ≤ (((IntKind.wrap .i64 (j4.1.2.2.2.1 + v7))).toNat:Int))) then (let v9:List (UInt8):=(List.drop (j4.1.2.2.2.1).toNat (List.take ((IntKind.wrap .i64 (j4.1.2.2.2.1 + v7))).toNat j4.1.2.2.1))
 ((Zbv_L1 ((j4.1.1,j4.1.2.1,j4.1.2.2.1,j4.1.2.2.2.1,()),(IntKind.wrap .i64 ((1:Int) + v6)),j4.2.1,v7,v9,((v9).length:Int),(0:Int),())).bind (fun (z11:(((List (CborFrame)) × Int × (List (UInt8)) × Int × Unit) × Int × (BitVec 64) × Int × Unit))=>((Zdl z11.2.2.1).bind fun r12=>(bif (decide (r12.2.1 < z11.2.2.2.1)) then (some (((z11.1.1,z11.1.2.1,z11.1.2.2.1,(IntKind.wrap .i64 (z11.1.2.2.2.1 + z11.2.2.2.1)),()),()),((0:Int),0#64,(2:Int),())))
 else (some (((z11.1.1,z11.1.2.1,z11.1.2.2.1,(IntKind.wrap .i64 (z11.1.2.2.2.1 + z11.2.2.2.1)),()),()),(z11.2.1,z11.2.2.1,(0:Int),()))))))))
 else none)
 else none)))))))))) some))))
def S_Zbv:FSpec T:=⟨[.ptr [(.own 6),(.v (.int .i64)),(.v (.rs 0)),(.v (.int .i64))]],[(.v (.int .i64)),(.v .u64),(.v (.int .i64))],fun x=>Zbv x.1⟩
def E_Zbv:Env T:=⟨tab.find,cd,globs,flc,fun f ds=>match f with
    | 148=>some S_Zdl
    | _=>none,fun f=>match f with
    | 148=>true
    | _=>false⟩
def A_Zbv:Loc2 T:=⟨fun id=>match id with
    | 1=>some ⟨[(0,.ptr [(.own 6),(.v (.int .i64)),(.v (.rs 0)),(.v (.int .i64))]),(2,.f (.v (.int .i64))),(3,.f (.v .u64)),(8,.f (.v (.int .i64))),(94,.f (.v (.rs 0))),(95,.f (.v (.int .i64))),(96,.f (.v (.int .i64)))],[(.exit 1,[(0,.ptr [(.own 6),(.v (.int .i64)),(.v (.rs 0)),(.v (.int .i64))]),(2,.f (.v (.int .i64))),(3,.f (.v .u64)),(8,.f (.v (.int .i64)))])],Zbv_L1,[]⟩
    | _=>none,fun r=>match r with
    | 11=>some ([(0,.ptr [(.own 6),(.v (.int .i64)),(.v (.rs 0)),(.v (.int .i64))]),(3,.f (.v .u64)),(5,.f (.v .u8))],false)
    | _=>none,fun r=>match r with
    | _=>false⟩
theorem Zbv_L1_eq (y0:((List (CborFrame)) × Int × (List (UInt8)) × Int × Unit)) (y1:Int) (y2:(BitVec 64)) (y3:Int) (y4:(List (UInt8))) (y5:Int) (y6:Int):run E_Zbv A_Zbv (loopAt 1 (Tryz.f114.body.getD .skip)) (layC cd [(0,.ptr [(.own 6),(.v (.int .i64)),(.v (.rs 0)),(.v (.int .i64))]),(2,.f (.v (.int .i64))),(3,.f (.v .u64)),(8,.f (.v (.int .i64))),(94,.f (.v (.rs 0))),(95,.f (.v (.int .i64))),(96,.f (.v (.int .i64)))] [] (y0,y1,y2,y3,y4,y5,y6,())) (roundK cd [(0,.ptr [(.own 6),(.v (.int .i64)),(.v (.rs 0)),(.v (.int .i64))]),(2,.f (.v (.int .i64))),(3,.f (.v .u64)),(8,.f (.v (.int .i64))),(94,.f (.v (.rs 0))),(95,.f (.v (.int .i64))),(96,.f (.v (.int .i64)))] [] [(.exit 1,[(0,.ptr [(.own 6),(.v (.int .i64)),(.v (.rs 0)),(.v (.int .i64))]),(2,.f (.v (.int .i64))),(3,.f (.v .u64)),(8,.f (.v (.int .i64)))])])=Zbv_L1b y0 y1 y2 y3 y4 y5 y6:=by kernel_rfl
theorem Zbv_eq (x:tySs T S_Zbv.ps):run E_Zbv A_Zbv (Tryz.f114.body.getD .skip) (enterT E_Zbv.C S_Zbv.ps x) (retK E_Zbv Tryz.f114.results.toList S_Zbv.ps S_Zbv.rs)=S_Zbv.fn x:=by kernel_rfl
theorem Zbv_env:EnvOk Tryz.prog E_Zbv:=envOk (E:=E_Zbv) cd_ok tys fl_ok fun f ds S h=>by
    dsimp only [E_Zbv] at h
    split at h
    · cases h; exact Zdl_ok
    · cases h
theorem Zbv_L1_ok:LoopOk Tryz.prog E_Zbv Tryz.f114.ntmps (kqOf S_Zbv.ps 0) (loopAt 1 (Tryz.f114.body.getD .skip)) ⟨[(0,.ptr [(.own 6),(.v (.int .i64)),(.v (.rs 0)),(.v (.int .i64))]),(2,.f (.v (.int .i64))),(3,.f (.v .u64)),(8,.f (.v (.int .i64))),(94,.f (.v (.rs 0))),(95,.f (.v (.int .i64))),(96,.f (.v (.int .i64)))],[(.exit 1,[(0,.ptr [(.own 6),(.v (.int .i64)),(.v (.rs 0)),(.v (.int .i64))]),(2,.f (.v (.int .i64))),(3,.f (.v .u64)),(8,.f (.v (.int .i64)))])],Zbv_L1,[]⟩:=
  loop_ok (A:=A_Zbv) (done:=[]) (c0:=(Tryz.f114.body.getD .skip)) hmix Zbv_env done_nil rounds (by kernel_rfl) (by kernel_rfl) (fun x=>Zbv_L1_eq x.1 x.2.1 x.2.2.1 x.2.2.2.1 x.2.2.2.2.1 x.2.2.2.2.2.1 x.2.2.2.2.2.2.1) (fun _=>rfl)
theorem Zbv_ok:SoundT Tryz.prog cd gdn 114 S_Zbv:=
  sound_fn (E:=E_Zbv) (A:=A_Zbv) (done:=[1]) (c:=(Tryz.f114.body.getD .skip)) (S:=S_Zbv) (fn:=Tryz.f114) hmix Zbv_env Tryz.func114 rfl (by kernel_rfl) (by kernel_rfl) (done_cons rfl Zbv_L1_ok done_nil) (by kernel_rfl) (by kernel_rfl) Zbv_eq
def Zby_L0b (y0:((List (CborFrame)) × Int × (List (UInt8)) × Int × Unit)) (y1:Int):Option ((((List (CborFrame)) × Int × (List (UInt8)) × Int × Unit) × Int × Unit) ⊕ (((List (CborFrame)) × Int × (List (UInt8)) × Int × Unit) × Unit)):=
 (bif (decide ((0:Int) < y1)) then (bif (decide ((0:Int) ≤ (IntKind.wrap .i64 (y1 - (1:Int)))) && decide ((IntKind.wrap .i64 (y1 - (1:Int))) < ((y0.1).length:Int))) then (((y0.1)[((IntKind.wrap .i64 (y1 - (1:Int)))).toNat]?).bind fun x10=>(bif (decide (x10.left=(0:Int))) then (bif (decide ((0:Int) ≤ (IntKind.wrap .i64 (y1 - (1:Int)))) && decide ((IntKind.wrap .i64 (y1 - (1:Int))) ≤ ((y0.1).length:Int))) then (bif decide (((IntKind.wrap .i64 (y1 - (1:Int)))).toNat ≤ (y0.1).length) then (some (Sum.inl (((List.take ((IntKind.wrap .i64 (y1 - (1:Int)))).toNat y0.1),y0.2.1,y0.2.2.1,y0.2.2.2.1,()),(IntKind.wrap .i64 (y1 - (1:Int))),())))
 else none)
 else none)
 else (some (Sum.inr ((y0.1,y0.2.1,y0.2.2.1,y0.2.2.2.1,()),())))))
 else none)
 else (some (Sum.inr ((y0.1,y0.2.1,y0.2.2.1,y0.2.2.2.1,()),()))))
def Zby_L0 (y:(((List (CborFrame)) × Int × (List (UInt8)) × Int × Unit) × Int × Unit)):Option (((List (CborFrame)) × Int × (List (UInt8)) × Int × Unit) × Unit):=iter (fun (y:(((List (CborFrame)) × Int × (List (UInt8)) × Int × Unit) × Int × Unit))=>Zby_L0b y.1 y.2.1) rounds y
def Zby (a0:((List (CborFrame)) × Int × (List (UInt8)) × Int × Unit)) (a1:ApiItem):Option ((((List (CborFrame)) × Int × (List (UInt8)) × Int × Unit) × Unit) × (Unit)):=
 ((bif (decide ((0:Int) < ((a0.1).length:Int))) then (bif (decide ((0:Int) ≤ (IntKind.wrap .i64 (((a0.1).length:Int) - (1:Int)))) && decide ((IntKind.wrap .i64 (((a0.1).length:Int) - (1:Int))) < ((a0.1).length:Int))) then (((a0.1)[((IntKind.wrap .i64 (((a0.1).length:Int) - (1:Int)))).toNat]?).bind fun x1=>(bif (decide ((0:Int) ≤ (IntKind.wrap .i64 (((a0.1).length:Int) - (1:Int)))) && decide ((IntKind.wrap .i64 (((a0.1).length:Int) - (1:Int))) < ((a0.1).length:Int))) then (((a0.1)[((IntKind.wrap .i64 (((a0.1).length:Int) - (1:Int)))).toNat]?).bind fun x2=>(let v3:List (CborFrame):=(List.set a0.1 ((IntKind.wrap .i64 (((a0.1).length:Int) - (1:Int)))).toNat (⟨x2.pairs,(IntKind.wrap .i64 (x1.left - (1:Int))),x2.last_⟩:CborFrame))
 (some ((v3,(IntKind.wrap .i64 (a0.2.1 + (1:Int))),a0.2.2.1,a0.2.2.2.1,()),(a1,()),()))))
 else none))
 else none)
 else (some ((a0.1,(IntKind.wrap .i64 (a0.2.1 + (1:Int))),a0.2.2.1,a0.2.2.2.1,()),(a1,()),()))).bind (fun (j4:(((List (CborFrame)) × Int × (List (UInt8)) × Int × Unit) × (ApiItem × Unit) × Unit))=>((bif (decide (j4.2.1.1.kind=(5:Int))) then (bif (decide ((0#64).toNat < j4.2.1.1.number.toNat)) then (let v5:List (CborFrame):=([(⟨false,(IntKind.wrap .i64 (j4.2.1.1.number.toNat:Int)),[]⟩:CborFrame)]:List (CborFrame))
 (bif small ((j4.1.1).length + (v5:List (CborFrame)).length) 40 then (some (((j4.1.1 ++ v5),j4.1.2.1,j4.1.2.2.1,j4.1.2.2.2.1,()),(j4.2.1.1,()),()))
 else none))
 else (some ((j4.1.1,j4.1.2.1,j4.1.2.2.1,j4.1.2.2.2.1,()),(j4.2.1.1,()),())))
 else (some ((j4.1.1,j4.1.2.1,j4.1.2.2.1,j4.1.2.2.2.1,()),(j4.2.1.1,()),()))).bind (fun (j6:(((List (CborFrame)) × Int × (List (UInt8)) × Int × Unit) × (ApiItem × Unit) × Unit))=>((bif (decide (j6.2.1.1.kind=(6:Int))) then (bif (decide ((0#64).toNat < j6.2.1.1.number.toNat)) then (let v7:Int:=(IntKind.wrap .i64 ((2:Int) * (IntKind.wrap .i64 (j6.2.1.1.number.toNat:Int))))
 (bif small ((j6.1.1).length + (([(⟨true,v7,[]⟩:CborFrame)]:List (CborFrame)):List (CborFrame)).length) 40 then (let v8:List (CborFrame):=(j6.1.1 ++ ([(⟨true,v7,[]⟩:CborFrame)]:List (CborFrame)))
 (some ((v8,j6.1.2.1,j6.1.2.2.1,j6.1.2.2.2.1,()),())))
 else none))
 else (some ((j6.1.1,j6.1.2.1,j6.1.2.2.1,j6.1.2.2.2.1,()),())))
 else (some ((j6.1.1,j6.1.2.1,j6.1.2.2.1,j6.1.2.2.2.1,()),()))).bind (fun (j9:(((List (CborFrame)) × Int × (List (UInt8)) × Int × Unit) × Unit))=>((Zby_L0 ((j9.1.1,j9.1.2.1,j9.1.2.2.1,j9.1.2.2.2.1,()),((j9.1.1).length:Int),())).bind (fun (z11:(((List (CborFrame)) × Int × (List (UInt8)) × Int × Unit) × Unit))=>(some (((z11.1.1,z11.1.2.1,z11.1.2.2.1,z11.1.2.2.2.1,()),()),()))))))))))
def S_Zby:FSpec T:=⟨[.ptr [(.own 6),(.v (.int .i64)),(.v (.rs 0)),(.v (.int .i64))],.f (.v (.agg 1))],[],fun x=>Zby x.1 x.2.1⟩
def E_Zby:Env T:=⟨tab.find,cd,globs,flc,fun f ds=>match f with
    | _=>none,fun f=>match f with
    | _=>false⟩
def A_Zby:Loc2 T:=⟨fun id=>match id with
    | 0=>some ⟨[(0,.ptr [(.own 6),(.v (.int .i64)),(.v (.rs 0)),(.v (.int .i64))]),(5,.f (.v (.int .i64)))],[(.exit 0,[(0,.ptr [(.own 6),(.v (.int .i64)),(.v (.rs 0)),(.v (.int .i64))])])],Zby_L0,[]⟩
    | _=>none,fun r=>match r with
    | 5=>some ([(0,.ptr [(.own 6),(.v (.int .i64)),(.v (.rs 0)),(.v (.int .i64))]),(3,.ptr [(.v (.agg 1))])],true)
    | 7=>some ([(0,.ptr [(.own 6),(.v (.int .i64)),(.v (.rs 0)),(.v (.int .i64))]),(3,.ptr [(.v (.agg 1))])],true)
    | 9=>some ([(0,.ptr [(.own 6),(.v (.int .i64)),(.v (.rs 0)),(.v (.int .i64))])],true)
    | _=>none,fun r=>match r with
    | 6=>true
    | 8=>true
    | _=>false⟩
theorem Zby_L0_eq (y0:((List (CborFrame)) × Int × (List (UInt8)) × Int × Unit)) (y1:Int):run E_Zby A_Zby (loopAt 0 (Tryz.f151.body.getD .skip)) (layC cd [(0,.ptr [(.own 6),(.v (.int .i64)),(.v (.rs 0)),(.v (.int .i64))]),(5,.f (.v (.int .i64)))] [] (y0,y1,())) (roundK cd [(0,.ptr [(.own 6),(.v (.int .i64)),(.v (.rs 0)),(.v (.int .i64))]),(5,.f (.v (.int .i64)))] [] [(.exit 0,[(0,.ptr [(.own 6),(.v (.int .i64)),(.v (.rs 0)),(.v (.int .i64))])])])=Zby_L0b y0 y1:=by kernel_rfl
theorem Zby_eq (x:tySs T S_Zby.ps):run E_Zby A_Zby (Tryz.f151.body.getD .skip) (enterT E_Zby.C S_Zby.ps x) (retK E_Zby Tryz.f151.results.toList S_Zby.ps S_Zby.rs)=S_Zby.fn x:=by kernel_rfl
theorem Zby_env:EnvOk Tryz.prog E_Zby:=envOk (E:=E_Zby) cd_ok tys fl_ok fun f ds S h=>by cases h
theorem Zby_L0_ok:LoopOk Tryz.prog E_Zby Tryz.f151.ntmps (kqOf S_Zby.ps 0) (loopAt 0 (Tryz.f151.body.getD .skip)) ⟨[(0,.ptr [(.own 6),(.v (.int .i64)),(.v (.rs 0)),(.v (.int .i64))]),(5,.f (.v (.int .i64)))],[(.exit 0,[(0,.ptr [(.own 6),(.v (.int .i64)),(.v (.rs 0)),(.v (.int .i64))])])],Zby_L0,[]⟩:=
  loop_ok (A:=A_Zby) (done:=[]) (c0:=(Tryz.f151.body.getD .skip)) hmix Zby_env done_nil rounds (by kernel_rfl) (by kernel_rfl) (fun x=>Zby_L0_eq x.1 x.2.1) (fun _=>rfl)
theorem Zby_ok:SoundT Tryz.prog cd gdn 151 S_Zby:=
  sound_fn (E:=E_Zby) (A:=A_Zby) (done:=[0]) (c:=(Tryz.f151.body.getD .skip)) (S:=S_Zby) (fn:=Tryz.f151) hmix Zby_env Tryz.func151 rfl (by kernel_rfl) (by kernel_rfl) (done_cons rfl Zby_L0_ok done_nil) (by kernel_rfl) (by kernel_rfl) Zby_eq
def Zbb (a0:((List (CborFrame)) × Int × (List (UInt8)) × Int × Unit)) (a1:ApiItem):Option ((((List (CborFrame)) × Int × (List (UInt8)) × Int × Unit) × Unit) × (Int × Unit)):=
 (bif (decide (a1.kind=(4:Int))) then ((Zcg a1.data).bind fun r1=>(bif (!r1.2.1) then (some (((a0.1,a0.2.1,a0.2.2.1,a0.2.2.2.1,()),()),((6:Int),())))
 else ((Zcl (⟨a0.1,a0.2.1⟩:CborWalk)).bind fun r2=>(bif r2.2.1 then (bif (decide ((0:Int) ≤ (IntKind.wrap .i64 (((a0.1).length:Int) - (1:Int)))) && decide ((IntKind.wrap .i64 (((a0.1).length:Int) - (1:Int))) < ((a0.1).length:Int))) then ((Zcj [] a1).bind fun r3=>(((a0.1)[((IntKind.wrap .i64 (((a0.1).length:Int) - (1:Int)))).toNat]?).bind fun x4=>(bif (!(x4.last_).isEmpty) then (((a0.1)[((IntKind.wrap .i64 (((a0.1).length:Int) - (1:Int)))).toNat]?).bind fun x5=>((Zcx x5.last_ r3.2.1).bind fun r6=>(bif (!r6.2.1) then (some (((a0.1,a0.2.1,a0.2.2.1,a0.2.2.2.1,()),()),((7:Int),())))
 else (((a0.1)[((IntKind.wrap .i64 (((a0.1).length:Int) - (1:Int)))).toNat]?).bind fun x7=>(bif (r3.2.1).isEmpty then none
 else (let v8:List (CborFrame):=(List.set a0.1 ((IntKind.wrap .i64 (((a0.1).length:Int) - (1:Int)))).toNat (⟨x7.pairs,x7.left,r3.2.1⟩:CborFrame))
 ((Zby (v8,a0.2.1,a0.2.2.1,a0.2.2.2.1,()) a1).bind fun r9=>(some (((r9.1.1.1,r9.1.1.2.1,r9.1.1.2.2.1,r9.1.1.2.2.2.1,()),()),((0:Int),()))))))))))
 else (((a0.1)[((IntKind.wrap .i64 (((a0.1).length:Int) - (1:Int)))).toNat]?).bind fun x10=>(bif (r3.2.1).isEmpty then none
 else (let v11:List (CborFrame):=(List.set a0.1 ((IntKind.wrap .i64 (((a0.1).length:Int) - (1:Int)))).toNat (⟨x10.pairs,x10.left,r3.2.1⟩:CborFrame))
 ((Zby (v11,a0.2.1,a0.2.2.1,a0.2.2.2.1,()) a1).bind fun r12=>(some (((r12.1.1.1,r12.1.1.2.1,r12.1.1.2.2.1,r12.1.1.2.2.2.1,()),()),((0:Int),()))))))))))
 else none)
 else ((Zby (a0.1,a0.2.1,a0.2.2.1,a0.2.2.2.1,()) a1).bind fun r13=>(some (((r13.1.1.1,r13.1.1.2.1,r13.1.1.2.2.1,r13.1.1.2.2.2.1,()),()),((0:Int),()))))))))
 else ((Zcl (⟨a0.1,a0.2.1⟩:CborWalk)).bind fun r14=>(bif r14.2.1 then (bif (decide ((0:Int) ≤ (IntKind.wrap .i64 (((a0.1).length:Int) - (1:Int)))) && decide ((IntKind.wrap .i64 (((a0.1).length:Int) - (1:Int))) < ((a0.1).length:Int))) then ((Zcj [] a1).bind fun r15=>(((a0.1)[((IntKind.wrap .i64 (((a0.1).length:Int) - (1:Int)))).toNat]?).bind fun x16=>(bif (!(x16.last_).isEmpty) then (((a0.1)[((IntKind.wrap .i64 (((a0.1).length:Int) - (1:Int)))).toNat]?).bind fun x17=>((Zcx x17.last_ r15.2.1).bind fun r18=>(bif (!r18.2.1) then (some (((a0.1,a0.2.1,a0.2.2.1,a0.2.2.2.1,()),()),((7:Int),())))
 else (((a0.1)[((IntKind.wrap .i64 (((a0.1).length:Int) - (1:Int)))).toNat]?).bind fun x19=>(bif (r15.2.1).isEmpty then none
 else (let v20:List (CborFrame):=(List.set a0.1 ((IntKind.wrap .i64 (((a0.1).length:Int) - (1:Int)))).toNat (⟨x19.pairs,x19.left,r15.2.1⟩:CborFrame))
 ((Zby (v20,a0.2.1,a0.2.2.1,a0.2.2.2.1,()) a1).bind fun r21=>(some (((r21.1.1.1,r21.1.1.2.1,r21.1.1.2.2.1,r21.1.1.2.2.2.1,()),()),((0:Int),()))))))))))
 else (((a0.1)[((IntKind.wrap .i64 (((a0.1).length:Int) - (1:Int)))).toNat]?).bind fun x22=>(bif (r15.2.1).isEmpty then none
 else (let v23:List (CborFrame):=(List.set a0.1 ((IntKind.wrap .i64 (((a0.1).length:Int) - (1:Int)))).toNat (⟨x22.pairs,x22.left,r15.2.1⟩:CborFrame))
 ((Zby (v23,a0.2.1,a0.2.2.1,a0.2.2.2.1,()) a1).bind fun r24=>(some (((r24.1.1.1,r24.1.1.2.1,r24.1.1.2.2.1,r24.1.1.2.2.2.1,()),()),((0:Int),()))))))))))
 else none)
 else ((Zby (a0.1,a0.2.1,a0.2.2.1,a0.2.2.2.1,()) a1).bind fun r25=>(some (((r25.1.1.1,r25.1.1.2.1,r25.1.1.2.2.1,r25.1.1.2.2.2.1,()),()),((0:Int),())))))))
def S_Zbb:FSpec T:=⟨[.ptr [(.own 6),(.v (.int .i64)),(.v (.rs 0)),(.v (.int .i64))],.f (.v (.agg 1))],[(.v (.int .i64))],fun x=>Zbb x.1 x.2.1⟩
def E_Zbb:Env T:=⟨tab.find,cd,globs,flc,fun f ds=>match f with
    | 49=>some S_Zcg
    | 79=>some S_Zcj
    | 149=>some S_Zcl
    | 150=>some S_Zcx
    | 151=>some S_Zby
    | _=>none,fun f=>match f with
    | 49=>true
    | 149=>true
    | 150=>true
    | _=>false⟩
def A_Zbb:Loc2 T:=⟨fun id=>match id with
    | _=>none,fun r=>match r with
    | _=>none,fun r=>match r with
    | _=>false⟩
theorem Zbb_eq (x:tySs T S_Zbb.ps):run E_Zbb A_Zbb (Tryz.f116.body.getD .skip) (enterT E_Zbb.C S_Zbb.ps x) (retK E_Zbb Tryz.f116.results.toList S_Zbb.ps S_Zbb.rs)=S_Zbb.fn x:=by kernel_rfl
theorem Zbb_env:EnvOk Tryz.prog E_Zbb:=envOk (E:=E_Zbb) cd_ok tys fl_ok fun f ds S h=>by
    dsimp only [E_Zbb] at h
    split at h
    · cases h; exact Zcg_ok
    · cases h; exact Zcj_ok
    · cases h; exact Zcl_ok
    · cases h; exact Zcx_ok
    · cases h; exact Zby_ok
    · cases h
theorem Zbb_ok:SoundT Tryz.prog cd gdn 116 S_Zbb:=
  sound_fn (E:=E_Zbb) (A:=A_Zbb) (done:=[]) (c:=(Tryz.f116.body.getD .skip)) (S:=S_Zbb) (fn:=Tryz.f116) hmix Zbb_env Tryz.func116 rfl (by kernel_rfl) (by kernel_rfl) done_nil (by kernel_rfl) (by kernel_rfl) Zbb_eq
def Zbw (a0:((List (CborFrame)) × Int × (List (UInt8)) × Int × Unit)):Option ((((List (CborFrame)) × Int × (List (UInt8)) × Int × Unit) × Unit) × (ApiItem × Int × Unit)):=
 ((Zbv (a0.1,a0.2.1,a0.2.2.1,a0.2.2.2.1,())).bind fun r1=>(bif (!decide (r1.2.2.2.1=(0:Int))) then (some (((r1.1.1.1,r1.1.1.2.1,r1.1.1.2.2.1,r1.1.1.2.2.2.1,()),()),((⟨(0:Int),0#64,([]:List UInt8)⟩:ApiItem),r1.2.2.2.1,())))
 else ((Zck (⟨r1.1.1.1,r1.1.1.2.1⟩:CborWalk) r1.2.1).bind fun r2=>(bif (!decide (r2.2.1=(0:Int))) then (some (((r1.1.1.1,r1.1.1.2.1,r1.1.1.2.2.1,r1.1.1.2.2.2.1,()),()),((⟨(0:Int),0#64,([]:List UInt8)⟩:ApiItem),r2.2.1,())))
 else ((bif (decide (r1.2.1=(5:Int))) then (bif (decide (r1.2.1=(5:Int))) then (bif (decide ((512#64).toNat < r1.2.2.1.toNat)) then (((some (((r1.1.1.1,r1.1.1.2.1,r1.1.1.2.2.1,r1.1.1.2.2.2.1,()),()),((⟨(0:Int),0#64,([]:List UInt8)⟩:ApiItem),(8:Int),())))).bind fun q=>some (Sum.inr q))
 else (some (Sum.inl ((r1.1.1.1,r1.1.1.2.1,r1.1.1.2.2.1,r1.1.1.2.2.2.1,()),((⟨(0:Int),0#64,([]:List UInt8)⟩:ApiItem),()),((⟨r1.2.1,r1.2.2.1,([]:List UInt8)⟩:ApiItem),()),()))))
 else (bif (decide (r1.2.1=(3:Int))) then (bif (decide (r1.2.1=(3:Int))) then (bif (decide ((1024#64).toNat < r1.2.2.1.toNat)) then (((some (((r1.1.1.1,r1.1.1.2.1,r1.1.1.2.2.1,r1.1.1.2.2.2.1,()),()),((⟨(0:Int),0#64,([]:List UInt8)⟩:ApiItem),(8:Int),())))).bind fun q=>some (Sum.inr q))
 else (let v3:Int:=(IntKind.wrap .i64 (((r1.1.1.2.2.1).length:Int) - r1.1.1.2.2.2.1))
 (bif (decide (v3 < (IntKind.wrap .i64 (r1.2.2.1.toNat:Int)))) then (((some (((r1.1.1.1,r1.1.1.2.1,r1.1.1.2.2.1,r1.1.1.2.2.2.1,()),()),((⟨(0:Int),0#64,([]:List UInt8)⟩:ApiItem),(1:Int),())))).bind fun q=>some (Sum.inr q))
 else (let v4:Int:=(IntKind.wrap .i64 (r1.1.1.2.2.2.1 + (IntKind.wrap .i64 (r1.2.2.1.toNat:Int))))
 (bif (decide ((0:Int) ≤ v4) && decide (v4 ≤ ((r1.1.1.2.2.1).length:Int))) then (bif (decide ((0:Int) ≤ r1.1.1.2.2.2.1) && decide (r1.1.1.2.2.2.1 ≤ ((v4).toNat:Int))) then (let v5:List (UInt8):=(List.drop (r1.1.1.2.2.2.1).toNat (List.take (v4).toNat r1.1.1.2.2.1))
 (let v6:Int:=(IntKind.wrap .i64 (r1.1.1.2.2.2.1 + (IntKind.wrap .i64 (r1.2.2.1.toNat:Int))))
 (some (Sum.inl ((r1.1.1.1,r1.1.1.2.1,r1.1.1.2.2.1,v6,()),((⟨(0:Int),0#64,([]:List UInt8)⟩:ApiItem),()),((⟨r1.2.1,0#64,v5⟩:ApiItem),()),())))))
 else none)
 else none)))))
 else (some (Sum.inl ((r1.1.1.1,r1.1.1.2.1,r1.1.1.2.2.1,r1.1.1.2.2.2.1,()),((⟨(0:Int),0#64,([]:List UInt8)⟩:ApiItem),()),((⟨r1.2.1,r1.2.2.1,([]:List UInt8)⟩:ApiItem),()),()))))
 else (bif (decide (r1.2.1=(4:Int))) then (bif (decide ((1024#64).toNat < r1.2.2.1.toNat)) then (((some (((r1.1.1.1,r1.1.1.2.1,r1.1.1.2.2.1,r1.1.1.2.2.2.1,()),()),((⟨(0:Int),0#64,([]:List UInt8)⟩:ApiItem),(8:Int),())))).bind fun q=>some (Sum.inr q))
 else (let v7:Int:=(IntKind.wrap .i64 (((r1.1.1.2.2.1).length:Int) - r1.1.1.2.2.2.1))
 (bif (decide (v7 < (IntKind.wrap .i64 (r1.2.2.1.toNat:Int)))) then (((some (((r1.1.1.1,r1.1.1.2.1,r1.1.1.2.2.1,r1.1.1.2.2.2.1,()),()),((⟨(0:Int),0#64,([]:List UInt8)⟩:ApiItem),(1:Int),())))).bind fun q=>some (Sum.inr q))
 else (let v8:Int:=(IntKind.wrap .i64 (r1.1.1.2.2.2.1 + (IntKind.wrap .i64 (r1.2.2.1.toNat:Int))))
 (bif (decide ((0:Int) ≤ v8) && decide (v8 ≤ ((r1.1.1.2.2.1).length:Int))) then (bif (decide ((0:Int) ≤ r1.1.1.2.2.2.1) && decide (r1.1.1.2.2.2.1 ≤ ((v8).toNat:Int))) then (let v9:List (UInt8):=(List.drop (r1.1.1.2.2.2.1).toNat (List.take (v8).toNat r1.1.1.2.2.1))
 (let v10:Int:=(IntKind.wrap .i64 (r1.1.1.2.2.2.1 + (IntKind.wrap .i64 (r1.2.2.1.toNat:Int))))
 (some (Sum.inl ((r1.1.1.1,r1.1.1.2.1,r1.1.1.2.2.1,v10,()),((⟨(0:Int),0#64,([]:List UInt8)⟩:ApiItem),()),((⟨r1.2.1,0#64,v9⟩:ApiItem),()),())))))
 else none)
 else none)))))
 else (some (Sum.inl ((r1.1.1.1,r1.1.1.2.1,r1.1.1.2.2.1,r1.1.1.2.2.2.1,()),((⟨(0:Int),0#64,([]:List UInt8)⟩:ApiItem),()),((⟨r1.2.1,r1.2.2.1,([]:List UInt8)⟩:ApiItem),()),()))))))
 else (bif (decide (r1.2.1=(6:Int))) then (bif (decide ((512#64).toNat < r1.2.2.1.toNat)) then (((some (((r1.1.1.1,r1.1.1.2.1,r1.1.1.2.2.1,r1.1.1.2.2.2.1,()),()),((⟨(0:Int),0#64,([]:List UInt8)⟩:ApiItem),(8:Int),())))).bind fun q=>some (Sum.inr q))
 else (some (Sum.inl ((r1.1.1.1,r1.1.1.2.1,r1.1.1.2.2.1,r1.1.1.2.2.2.1,()),((⟨(0:Int),0#64,([]:List UInt8)⟩:ApiItem),()),((⟨r1.2.1,r1.2.2.1,([]:List UInt8)⟩:ApiItem),()),()))))
 else (bif (decide (r1.2.1=(3:Int))) then (bif (decide (r1.2.1=(3:Int))) then (bif (decide ((1024#64).toNat < r1.2.2.1.toNat)) then (((some (((r1.1.1.1,r1.1.1.2.1,r1.1.1.2.2.1,r1.1.1.2.2.2.1,()),()),((⟨(0:Int),0#64,([]:List UInt8)⟩:ApiItem),(8:Int),())))).bind fun q=>some (Sum.inr q))
 else (let v11:Int:=(IntKind.wrap .i64 (((r1.1.1.2.2.1).length:Int) - r1.1.1.2.2.2.1))
 (bif (decide (v11 < (IntKind.wrap .i64 (r1.2.2.1.toNat:Int)))) then (((some (((r1.1.1.1,r1.1.1.2.1,r1.1.1.2.2.1,r1.1.1.2.2.2.1,()),()),((⟨(0:Int),0#64,([]:List UInt8)⟩:ApiItem),(1:Int),())))).bind fun q=>some (Sum.inr q))
 else (let v12:Int:=(IntKind.wrap .i64 (r1.1.1.2.2.2.1 + (IntKind.wrap .i64 (r1.2.2.1.toNat:Int))))
 (bif (decide ((0:Int) ≤ v12) && decide (v12 ≤ ((r1.1.1.2.2.1).length:Int))) then (bif (decide ((0:Int) ≤ r1.1.1.2.2.2.1) && decide (r1.1.1.2.2.2.1 ≤ ((v12).toNat:Int))) then (let v13:List (UInt8):=(List.drop (r1.1.1.2.2.2.1).toNat (List.take (v12).toNat r1.1.1.2.2.1))
 (let v14:Int:=(IntKind.wrap .i64 (r1.1.1.2.2.2.1 + (IntKind.wrap .i64 (r1.2.2.1.toNat:Int))))
 (some (Sum.inl ((r1.1.1.1,r1.1.1.2.1,r1.1.1.2.2.1,v14,()),((⟨(0:Int),0#64,([]:List UInt8)⟩:ApiItem),()),((⟨r1.2.1,0#64,v13⟩:ApiItem),()),())))))
 else none)
 else none)))))
 else (some (Sum.inl ((r1.1.1.1,r1.1.1.2.1,r1.1.1.2.2.1,r1.1.1.2.2.2.1,()),((⟨(0:Int),0#64,([]:List UInt8)⟩:ApiItem),()),((⟨r1.2.1,r1.2.2.1,([]:List UInt8)⟩:ApiItem),()),()))))
 else (bif (decide (r1.2.1=(4:Int))) then (bif (decide ((1024#64).toNat < r1.2.2.1.toNat)) then (((some (((r1.1.1.1,r1.1.1.2.1,r1.1.1.2.2.1,r1.1.1.2.2.2.1,()),()),((⟨(0:Int),0#64,([]:List UInt8)⟩:ApiItem),(8:Int),())))).bind fun q=>some (Sum.inr q))
 else (let v15:Int:=(IntKind.wrap .i64 (((r1.1.1.2.2.1).length:Int) - r1.1.1.2.2.2.1))
 (bif (decide (v15 < (IntKind.wrap .i64 (r1.2.2.1.toNat:Int)))) then (((some (((r1.1.1.1,r1.1.1.2.1,r1.1.1.2.2.1,r1.1.1.2.2.2.1,()),()),((⟨(0:Int),0#64,([]:List UInt8)⟩:ApiItem),(1:Int),())))).bind fun q=>some (Sum.inr q))
 else (let v16:Int:=(IntKind.wrap .i64 (r1.1.1.2.2.2.1 + (IntKind.wrap .i64 (r1.2.2.1.toNat:Int))))
 (bif (decide ((0:Int) ≤ v16) && decide (v16 ≤ ((r1.1.1.2.2.1).length:Int))) then (bif (decide ((0:Int) ≤ r1.1.1.2.2.2.1) && decide (r1.1.1.2.2.2.1 ≤ ((v16).toNat:Int))) then (let v17:List (UInt8):=(List.drop (r1.1.1.2.2.2.1).toNat (List.take (v16).toNat r1.1.1.2.2.1))
 (let v18:Int:=(IntKind.wrap .i64 (r1.1.1.2.2.2.1 + (IntKind.wrap .i64 (r1.2.2.1.toNat:Int))))
 (some (Sum.inl ((r1.1.1.1,r1.1.1.2.1,r1.1.1.2.2.1,v18,()),((⟨(0:Int),0#64,([]:List UInt8)⟩:ApiItem),()),((⟨r1.2.1,0#64,v17⟩:ApiItem),()),())))))
 else none)
 else none)))))
 else (some (Sum.inl ((r1.1.1.1,r1.1.1.2.1,r1.1.1.2.2.1,r1.1.1.2.2.2.1,()),((⟨(0:Int),0#64,([]:List UInt8)⟩:ApiItem),()),((⟨r1.2.1,r1.2.2.1,([]:List UInt8)⟩:ApiItem),()),()))))))).bind (Sum.elim (fun (j19:(((List (CborFrame)) × Int × (List (UInt8)) × Int × Unit) × (ApiItem × Unit) × (ApiItem × Unit) × Unit))=>((Zbb (j19.1.1,j19.1.2.1,j19.1.2.2.1,j19.1.2.2.2.1,()) j19.2.2.1.1).bind fun r20=>(bif (!decide (r20.2.1=(0:Int))) then (some (((r20.1.1.1,r20.1.1.2.1,r20.1.1.2.2.1,r20.1.1.2.2.2.1,()),()),((⟨(0:Int),0#64,([]:List UInt8)⟩:ApiItem),r20.2.1,())))
 else (some (((r20.1.1.1,r20.1.1.2.1,r20.1.1.2.2.1,r20.1.1.2.2.2.1,()),()),(j19.2.2.1.1,(0:Int),())))))) some))))))
def S_Zbw:FSpec T:=⟨[.ptr [(.own 6),(.v (.int .i64)),(.v (.rs 0)),(.v (.int .i64))]],[(.v (.agg 1)),(.v (.int .i64))],fun x=>Zbw x.1⟩
def E_Zbw:Env T:=⟨tab.find,cd,globs,flc,fun f ds=>match f with
    | 114=>some S_Zbv
    | 115=>some S_Zck
    | 116=>some S_Zbb
    | _=>none,fun f=>match f with
    | 115=>true
    | _=>false⟩
def A_Zbw:Loc2 T:=⟨fun id=>match id with
    | _=>none,fun r=>match r with
    | 21=>some ([(0,.ptr [(.own 6),(.v (.int .i64)),(.v (.rs 0)),(.v (.int .i64))]),(2,.ptr [(.v (.agg 1))]),(8,.ptr [(.v (.agg 1))])],false)
    | _=>none,fun r=>match r with
    | 19=>true
    | _=>false⟩
theorem Zbw_eq (x:tySs T S_Zbw.ps):run E_Zbw A_Zbw (Tryz.f84.body.getD .skip) (enterT E_Zbw.C S_Zbw.ps x) (retK E_Zbw Tryz.f84.results.toList S_Zbw.ps S_Zbw.rs)=S_Zbw.fn x:=by kernel_rfl
theorem Zbw_env:EnvOk Tryz.prog E_Zbw:=envOk (E:=E_Zbw) cd_ok tys fl_ok fun f ds S h=>by
    dsimp only [E_Zbw] at h
    split at h
    · cases h; exact Zbv_ok
    · cases h; exact Zck_ok
    · cases h; exact Zbb_ok
    · cases h
theorem Zbw_ok:SoundT Tryz.prog cd gdn 84 S_Zbw:=
  sound_fn (E:=E_Zbw) (A:=A_Zbw) (done:=[]) (c:=(Tryz.f84.body.getD .skip)) (S:=S_Zbw) (fn:=Tryz.f84) hmix Zbw_env Tryz.func84 rfl (by kernel_rfl) (by kernel_rfl) done_nil (by kernel_rfl) (by kernel_rfl) Zbw_eq
def Zdb_L0b (y0:(List (ApiItem))) (y1:((List (CborFrame)) × Int × (List (UInt8)) × Int × Unit)):Option (((List (ApiItem)) × ((List (CborFrame)) × Int × (List (UInt8)) × Int × Unit) × Unit) ⊕ (((List (ApiItem)) × Int × Int × Unit) ⊕ ((List (ApiItem)) × ((List (CborFrame)) × Int × (List (UInt8)) × Int × Unit) × Unit))):=
 ((Zcn (⟨y1.1,y1.2.1⟩:CborWalk)).bind fun r1=>(bif (!r1.2.1) then ((Zbw (y1.1,y1.2.1,y1.2.2.1,y1.2.2.2.1,())).bind fun r2=>(bif (!decide (r2.2.2.1=(0:Int))) then (some (Sum.inr (Sum.inl ([],(0:Int),r2.2.2.1,()))))
 else (bif small ((y0).length + (([r2.2.1]:List (ApiItem)):List (ApiItem)).length) 32 then (some (Sum.inl ((y0 ++ ([r2.2.1]:List (ApiItem))),(r2.1.1.1,r2.1.1.2.1,r2.1.1.2.2.1,r2.1.1.2.2.2.1,()),())))
 else none)))
 else (some (Sum.inr (Sum.inr (y0,(y1.1,y1.2.1,y1.2.2.1,y1.2.2.2.1,()),()))))))
def Zdb_L0 (y:((List (ApiItem)) × ((List (CborFrame)) × Int × (List (UInt8)) × Int × Unit) × Unit)):Option (((List (ApiItem)) × Int × Int × Unit) ⊕ ((List (ApiItem)) × ((List (CborFrame)) × Int × (List (UInt8)) × Int × Unit) × Unit)):=iter (fun (y:((List (ApiItem)) × ((List (CborFrame)) × Int × (List (UInt8)) × Int × Unit) × Unit))=>Zdb_L0b y.1 y.2.1) rounds y
def Zdb (a0:(List (UInt8))):Option ((Unit) × ((List (ApiItem)) × Int × Int × Unit)):=
 ((Zdb_L0 ([],([],(0:Int),a0,(0:Int),()),())).bind (Sum.elim (fun (z3:((List (ApiItem)) × Int × Int × Unit))=>(some ((),(z3.1,z3.2.1,z3.2.2.1,())))) (fun (z4:((List (ApiItem)) × ((List (CborFrame)) × Int × (List (UInt8)) × Int × Unit) × Unit))=>(some ((),(z4.1,z4.2.1.2.2.2.1,(0:Int),()))))))
def S_Zdb:FSpec T:=⟨[.f (.v (.rs 0))],[(.own 1),(.v (.int .i64)),(.v (.int .i64))],fun x=>Zdb x.1⟩
def E_Zdb:Env T:=⟨tab.find,cd,globs,flc,fun f ds=>match f with
    | 83=>some S_Zcn
    | 84=>some S_Zbw
    | _=>none,fun f=>match f with
    | 83=>true
    | _=>false⟩
def A_Zdb:Loc2 T:=⟨fun id=>match id with
    | 0=>some ⟨[(2,.f (.own 1)),(5,.ptr [(.own 6),(.v (.int .i64)),(.v (.rs 0)),(.v (.int .i64))])],[(.ret,[(2,.f (.own 1)),(3,.f (.v (.int .i64))),(4,.f (.v (.int .i64)))]),(.exit 0,[(2,.f (.own 1)),(5,.ptr [(.own 6),(.v (.int .i64)),(.v (.rs 0)),(.v (.int .i64))])])],Zdb_L0,[]⟩
    | _=>none,fun r=>match r with
    | _=>none,fun r=>match r with
    | _=>false⟩
theorem Zdb_L0_eq (y0:(List (ApiItem))) (y1:((List (CborFrame)) × Int × (List (UInt8)) × Int × Unit)):run E_Zdb A_Zdb (loopAt 0 (Tryz.f51.body.getD .skip)) (layC cd [(2,.f (.own 1)),(5,.ptr [(.own 6),(.v (.int .i64)),(.v (.rs 0)),(.v (.int .i64))])] [] (y0,y1,())) (roundK cd [(2,.f (.own 1)),(5,.ptr [(.own 6),(.v (.int .i64)),(.v (.rs 0)),(.v (.int .i64))])] [] [(.ret,[(2,.f (.own 1)),(3,.f (.v (.int .i64))),(4,.f (.v (.int .i64)))]),(.exit 0,[(2,.f (.own 1)),(5,.ptr [(.own 6),(.v (.int .i64)),(.v (.rs 0)),(.v (.int .i64))])])])=Zdb_L0b y0 y1:=by kernel_rfl
theorem Zdb_eq (x:tySs T S_Zdb.ps):run E_Zdb A_Zdb (Tryz.f51.body.getD .skip) (enterT E_Zdb.C S_Zdb.ps x) (retK E_Zdb Tryz.f51.results.toList S_Zdb.ps S_Zdb.rs)=S_Zdb.fn x:=by kernel_rfl
theorem Zdb_env:EnvOk Tryz.prog E_Zdb:=envOk (E:=E_Zdb) cd_ok tys fl_ok fun f ds S h=>by
    dsimp only [E_Zdb] at h
    split at h
    · cases h; exact Zcn_ok
    · cases h; exact Zbw_ok
    · cases h
theorem Zdb_L0_ok:LoopOk Tryz.prog E_Zdb Tryz.f51.ntmps (kqOf S_Zdb.ps 0) (loopAt 0 (Tryz.f51.body.getD .skip)) ⟨[(2,.f (.own 1)),(5,.ptr [(.own 6),(.v (.int .i64)),(.v (.rs 0)),(.v (.int .i64))])],[(.ret,[(2,.f (.own 1)),(3,.f (.v (.int .i64))),(4,.f (.v (.int .i64)))]),(.exit 0,[(2,.f (.own 1)),(5,.ptr [(.own 6),(.v (.int .i64)),(.v (.rs 0)),(.v (.int .i64))])])],Zdb_L0,[]⟩:=
  loop_ok (A:=A_Zdb) (done:=[]) (c0:=(Tryz.f51.body.getD .skip)) hmix Zdb_env done_nil rounds (by kernel_rfl) (by kernel_rfl) (fun x=>Zdb_L0_eq x.1 x.2.1) (fun _=>rfl)
theorem Zdb_ok:SoundT Tryz.prog cd gdn 51 S_Zdb:=
  sound_fn (E:=E_Zdb) (A:=A_Zdb) (done:=[0]) (c:=(Tryz.f51.body.getD .skip)) (S:=S_Zdb) (fn:=Tryz.f51) hmix Zdb_env Tryz.func51 rfl (by kernel_rfl) (by kernel_rfl) (done_cons rfl Zdb_L0_ok done_nil) (by kernel_rfl) (by kernel_rfl) Zdb_eq
def cbor_Skip_L0b (y0:(List (ApiItem))) (y1:Int) (y2:Int):Option (((List (ApiItem)) × Int × Int × Unit) ⊕ ((Int × Bool × Unit) ⊕ (Int × Unit))):=
 (bif (decide ((0:Int) < y2)) then (bif (decide (((y0).length:Int) ≤ y1)) then (some (Sum.inr (Sum.inl ((0:Int),false,()))))
 else ((getI y0 y1).bind fun x1=>(bif (!decide (x1.kind=(5:Int))) then (bif (!decide (x1.kind=(6:Int))) then (some (Sum.inl (y0,(IntKind.wrap .i64 (y1 + (1:Int))),(IntKind.wrap .i64 (y2 - (1:Int))),())))
 else (bif (decide ((512#64).toNat < x1.number.toNat)) then (some (Sum.inr (Sum.inl ((0:Int),false,()))))
 else (let v2:Int:=(IntKind.wrap .i64 ((IntKind.wrap .i64 (y2 - (1:Int))) + (IntKind.wrap .i64 (x1.number.toNat:Int))))
 (bif (decide (x1.kind=(6:Int))) then (let v3:Int:=(IntKind.wrap .i64 (v2 + (IntKind.wrap .i64 (x1.number.toNat:Int))))
 (some (Sum.inl (y0,(IntKind.wrap .i64 (y1 + (1:Int))),v3,()))))
 else (some (Sum.inl (y0,(IntKind.wrap .i64 (y1 + (1:Int))),v2,())))))))
 else (bif (decide ((512#64).toNat < x1.number.toNat)) then (some (Sum.inr (Sum.inl ((0:Int),false,()))))
 else (let v4:Int:=(IntKind.wrap .i64 ((IntKind.wrap .i64 (y2 - (1:Int))) + (IntKind.wrap .i64 (x1.number.toNat:Int))))
 (bif (decide (x1.kind=(6:Int))) then (let v5:Int:=(IntKind.wrap .i64 (v4 + (IntKind.wrap .i64 (x1.number.toNat:Int))))
 (some (Sum.inl (y0,(IntKind.wrap .i64 (y1 + (1:Int))),v5,()))))
 else (some (Sum.inl (y0,(IntKind.wrap .i64 (y1 + (1:Int))),v4,())))))))))
 else (some (Sum.inr (Sum.inr (y1,())))))
def cbor_Skip_L0 (y:((List (ApiItem)) × Int × Int × Unit)):Option ((Int × Bool × Unit) ⊕ (Int × Unit)):=iter (fun (y:((List (ApiItem)) × Int × Int × Unit))=>cbor_Skip_L0b y.1 y.2.1 y.2.2.1) rounds y
def cbor_Skip (a0:(List (ApiItem))) (a1:Int):Option ((Unit) × (Int × Bool × Unit)):=
 (bif (decide (a1 < (0:Int))) then (some ((),((0:Int),false,())))
 else (bif (decide (((a0).length:Int) ≤ a1)) then (some ((),((0:Int),false,())))
 else ((cbor_Skip_L0 (a0,a1,(1:Int),())).bind (Sum.elim (fun (z6:(Int × Bool × Unit))=>(some ((),(z6.1,z6.2.1,())))) (fun (z7:(Int × Unit))=>(some ((),(z7.1,true,()))))))))
def S_cbor_Skip:FSpec T:=⟨[.f (.v (.rs 1)),.f (.v (.int .i64))],[(.v (.int .i64)),(.v .bool)],fun x=>cbor_Skip x.1 x.2.1⟩
def E_cbor_Skip:Env T:=⟨tab.find,cd,globs,flc,fun f ds=>match f with
    | _=>none,fun f=>match f with
    | _=>false⟩
def A_cbor_Skip:Loc2 T:=⟨fun id=>match id with
    | 0=>some ⟨[(0,.f (.v (.rs 1))),(4,.f (.v (.int .i64))),(6,.f (.v (.int .i64)))],[(.ret,[(4,.f (.v (.int .i64))),(5,.f (.v .bool))]),(.exit 0,[(4,.f (.v (.int .i64)))])],cbor_Skip_L0,[]⟩
    | _=>none,fun r=>match r with
    | _=>none,fun r=>match r with
    | _=>false⟩
theorem cbor_Skip_L0_eq (y0:(List (ApiItem))) (y1:Int) (y2:Int):run E_cbor_Skip A_cbor_Skip (loopAt 0 (Tryz.f117.body.getD .skip)) (layC cd [(0,.f (.v (.rs 1))),(4,.f (.v (.int .i64))),(6,.f (.v (.int .i64)))] [] (y0,y1,y2,())) (roundK cd [(0,.f (.v (.rs 1))),(4,.f (.v (.int .i64))),(6,.f (.v (.int .i64)))] [] [(.ret,[(4,.f (.v (.int .i64))),(5,.f (.v .bool))]),(.exit 0,[(4,.f (.v (.int .i64)))])])=cbor_Skip_L0b y0 y1 y2:=by kernel_rfl
theorem cbor_Skip_eq (x:tySs T S_cbor_Skip.ps):run E_cbor_Skip A_cbor_Skip (Tryz.f117.body.getD .skip) (enterT E_cbor_Skip.C S_cbor_Skip.ps x) (retK E_cbor_Skip Tryz.f117.results.toList S_cbor_Skip.ps S_cbor_Skip.rs)=S_cbor_Skip.fn x:=by kernel_rfl
theorem cbor_Skip_env:EnvOk Tryz.prog E_cbor_Skip:=envOk (E:=E_cbor_Skip) cd_ok tys fl_ok fun f ds S h=>by cases h
theorem cbor_Skip_L0_ok:LoopOk Tryz.prog E_cbor_Skip Tryz.f117.ntmps (kqOf S_cbor_Skip.ps 0) (loopAt 0 (Tryz.f117.body.getD .skip)) ⟨[(0,.f (.v (.rs 1))),(4,.f (.v (.int .i64))),(6,.f (.v (.int .i64)))],[(.ret,[(4,.f (.v (.int .i64))),(5,.f (.v .bool))]),(.exit 0,[(4,.f (.v (.int .i64)))])],cbor_Skip_L0,[]⟩:=
  loop_ok (A:=A_cbor_Skip) (done:=[]) (c0:=(Tryz.f117.body.getD .skip)) hmix cbor_Skip_env done_nil rounds (by kernel_rfl) (by kernel_rfl) (fun x=>cbor_Skip_L0_eq x.1 x.2.1 x.2.2.1) (fun _=>rfl)
theorem cbor_Skip_ok:SoundT Tryz.prog cd gdn 117 S_cbor_Skip:=
  sound_fn (E:=E_cbor_Skip) (A:=A_cbor_Skip) (done:=[0]) (c:=(Tryz.f117.body.getD .skip)) (S:=S_cbor_Skip) (fn:=Tryz.f117) hmix cbor_Skip_env Tryz.func117 rfl (by kernel_rfl) (by kernel_rfl) (done_cons rfl cbor_Skip_L0_ok done_nil) (by kernel_rfl) (by kernel_rfl) cbor_Skip_eq
def Zdd_L0b (y0:(List (ApiItem))) (y1:(BitVec 64)) (y2:Int) (y3:(BitVec 64)) (y4:(BitVec 64)):Option (((List (ApiItem)) × (BitVec 64) × Int × (BitVec 64) × (BitVec 64) × Unit) ⊕ (((List (ApiItem)) × Bool × Unit) ⊕ (Unit))):=
 (bif (decide (y4.toNat < y3.toNat)) then ((cbor_Skip y0 (IntKind.wrap .i64 (y2 + (1:Int)))).bind fun r4=>(bif (!r4.2.2.1) then (some (Sum.inr (Sum.inl ([],false,()))))
 else ((getI y0 y2).bind fun x5=>(bif (decide (x5.kind=(1:Int))) then ((getI y0 y2).bind fun x6=>(bif (decide (x6.number=y1)) then (bif (decide ((0:Int) ≤ r4.2.1) && decide (r4.2.1 ≤ ((y0).length:Int))) then (bif (decide ((0:Int) ≤ (IntKind.wrap .i64 (y2 + (1:Int)))) && decide ((IntKind.wrap .i64 (y2 + (1:Int))) ≤ ((r4.2.1).toNat:Int))) then (let v7:List (ApiItem):=(List.drop ((IntKind.wrap .i64 (y2 + (1:Int)))).toNat (List.take (r4.2.1).toNat y0))
 ((Zcz v7).bind fun r8=>(some (Sum.inr (Sum.inl (r8.2.1,true,()))))))
 else none)
 else none)
 else (some (Sum.inl (y0,y1,r4.2.1,y3,(y4 + 1#64),())))))
 else (some (Sum.inl (y0,y1,r4.2.1,y3,(y4 + 1#64),())))))))
 else (some (Sum.inr (Sum.inr ()))))
def Zdd_L0 (y:((List (ApiItem)) × (BitVec 64) × Int × (BitVec 64) × (BitVec 64) × Unit)):Option (((List (ApiItem)) × Bool × Unit) ⊕ (Unit)):=iter (fun (y:((List (ApiItem)) × (BitVec 64) × Int × (BitVec 64) × (BitVec 64) × Unit))=>Zdd_L0b y.1 y.2.1 y.2.2.1 y.2.2.2.1 y.2.2.2.2.1) rounds y
def Zdd (a0:(List (ApiItem))) (a1:(BitVec 64)):Option ((Unit) × ((List (ApiItem)) × Bool × Unit)):=
 ((Zcr a0).bind fun r1=>(bif (!decide (r1.2.1=(0:Int))) then (some ((),([],false,())))
 else ((getI a0 (0:Int)).bind fun x2=>(bif (!decide (x2.kind=(6:Int))) then (some ((),([],false,())))
 else ((getI a0 (0:Int)).bind fun x3=>((Zdd_L0 (a0,a1,(1:Int),x3.number,0#64,())).bind (Sum.elim (fun (z9:((List (ApiItem)) × Bool × Unit))=>(some ((),(z9.1,z9.2.1,())))) (fun (z10:(Unit))=>(some ((),([],false,())))))))))))
def S_Zdd:FSpec T:=⟨[.f (.v (.rs 1)),.f (.v .u64)],[(.own 1),(.v .bool)],fun x=>Zdd x.1 x.2.1⟩
def E_Zdd:Env T:=⟨tab.find,cd,globs,flc,fun f ds=>match f with
    | 78=>some S_Zcr
    | 117=>some S_cbor_Skip
    | 118=>some S_Zcz
    | _=>none,fun f=>match f with
    | 78=>true
    | 117=>true
    | _=>false⟩
def A_Zdd:Loc2 T:=⟨fun id=>match id with
    | 0=>some ⟨[(0,.f (.v (.rs 1))),(1,.f (.v .u64)),(6,.f (.v (.int .i64))),(22,.f (.v .u64)),(23,.f (.v .u64))],[(.ret,[(4,.f (.own 1)),(5,.f (.v .bool))]),(.exit 0,[])],Zdd_L0,[]⟩
    | _=>none,fun r=>match r with
    | _=>none,fun r=>match r with
    | _=>false⟩
theorem Zdd_L0_eq (y0:(List (ApiItem))) (y1:(BitVec 64)) (y2:Int) (y3:(BitVec 64)) (y4:(BitVec 64)):run E_Zdd A_Zdd (loopAt 0 (Tryz.f85.body.getD .skip)) (layC cd [(0,.f (.v (.rs 1))),(1,.f (.v .u64)),(6,.f (.v (.int .i64))),(22,.f (.v .u64)),(23,.f (.v .u64))] [] (y0,y1,y2,y3,y4,())) (roundK cd [(0,.f (.v (.rs 1))),(1,.f (.v .u64)),(6,.f (.v (.int .i64))),(22,.f (.v .u64)),(23,.f (.v .u64))] [] [(.ret,[(4,.f (.own 1)),(5,.f (.v .bool))]),(.exit 0,[])])=Zdd_L0b y0 y1 y2 y3 y4:=by kernel_rfl
theorem Zdd_eq (x:tySs T S_Zdd.ps):run E_Zdd A_Zdd (Tryz.f85.body.getD .skip) (enterT E_Zdd.C S_Zdd.ps x) (retK E_Zdd Tryz.f85.results.toList S_Zdd.ps S_Zdd.rs)=S_Zdd.fn x:=by kernel_rfl
theorem Zdd_env:EnvOk Tryz.prog E_Zdd:=envOk (E:=E_Zdd) cd_ok tys fl_ok fun f ds S h=>by
    dsimp only [E_Zdd] at h
    split at h
    · cases h; exact Zcr_ok
    · cases h; exact cbor_Skip_ok
    · cases h; exact Zcz_ok
    · cases h
theorem Zdd_L0_ok:LoopOk Tryz.prog E_Zdd Tryz.f85.ntmps (kqOf S_Zdd.ps 0) (loopAt 0 (Tryz.f85.body.getD .skip)) ⟨[(0,.f (.v (.rs 1))),(1,.f (.v .u64)),(6,.f (.v (.int .i64))),(22,.f (.v .u64)),(23,.f (.v .u64))],[(.ret,[(4,.f (.own 1)),(5,.f (.v .bool))]),(.exit 0,[])],Zdd_L0,[]⟩:=
  loop_ok (A:=A_Zdd) (done:=[]) (c0:=(Tryz.f85.body.getD .skip)) hmix Zdd_env done_nil rounds (by kernel_rfl) (by kernel_rfl) (fun x=>Zdd_L0_eq x.1 x.2.1 x.2.2.1 x.2.2.2.1 x.2.2.2.2.1) (fun _=>rfl)
theorem Zdd_ok:SoundT Tryz.prog cd gdn 85 S_Zdd:=
  sound_fn (E:=E_Zdd) (A:=A_Zdd) (done:=[0]) (c:=(Tryz.f85.body.getD .skip)) (S:=S_Zdd) (fn:=Tryz.f85) hmix Zdd_env Tryz.func85 rfl (by kernel_rfl) (by kernel_rfl) (done_cons rfl Zdd_L0_ok done_nil) (by kernel_rfl) (by kernel_rfl) Zdd_eq
def Zcb (a0:(List (ApiItem))) (a1:(BitVec 64)):Option ((Unit) × (ApiItem × Unit)):=
 ((Zdd a0 a1).bind fun r1=>(bif (!r1.2.2.1) then (some ((),((⟨(0:Int),0#64,([]:List UInt8)⟩:ApiItem),())))
 else (bif (decide (((r1.2.1).length:Int)=(0:Int))) then (some ((),((⟨(0:Int),0#64,([]:List UInt8)⟩:ApiItem),())))
 else (bif decide ((0:Int) < ((r1.2.1).length:Int)) then (((r1.2.1)[0]?).bind fun x2=>(some ((),(x2,()))))
 else none))))
def S_Zcb:FSpec T:=⟨[.f (.v (.rs 1)),.f (.v .u64)],[(.v (.agg 1))],fun x=>Zcb x.1 x.2.1⟩
def E_Zcb:Env T:=⟨tab.find,cd,globs,flc,fun f ds=>match f with
    | 85=>some S_Zdd
    | _=>none,fun f=>match f with
    | _=>false⟩
def A_Zcb:Loc2 T:=⟨fun id=>match id with
    | _=>none,fun r=>match r with
    | _=>none,fun r=>match r with
    | _=>false⟩
theorem Zcb_eq (x:tySs T S_Zcb.ps):run E_Zcb A_Zcb (Tryz.f52.body.getD .skip) (enterT E_Zcb.C S_Zcb.ps x) (retK E_Zcb Tryz.f52.results.toList S_Zcb.ps S_Zcb.rs)=S_Zcb.fn x:=by kernel_rfl
theorem Zcb_env:EnvOk Tryz.prog E_Zcb:=envOk (E:=E_Zcb) cd_ok tys fl_ok fun f ds S h=>by
    dsimp only [E_Zcb] at h
    split at h
    · cases h; exact Zdd_ok
    · cases h
theorem Zcb_ok:SoundT Tryz.prog cd gdn 52 S_Zcb:=
  sound_fn (E:=E_Zcb) (A:=A_Zcb) (done:=[]) (c:=(Tryz.f52.body.getD .skip)) (S:=S_Zcb) (fn:=Tryz.f52) hmix Zcb_env Tryz.func52 rfl (by kernel_rfl) (by kernel_rfl) done_nil (by kernel_rfl) (by kernel_rfl) Zcb_eq
def Zda (a0:(List (UInt8))) (a1:(List (UInt8))):Option ((Unit) × (Bool × Unit)):=
 (some ((),((decide (a0=a1)),())))
def S_Zda:FSpec T:=⟨[.f (.v (.rs 0)),.f (.v (.rs 0))],[(.v .bool)],fun x=>Zda x.1 x.2.1⟩
def E_Zda:Env T:=⟨tab.find,cd,globs,flc,fun f ds=>match f with
    | _=>none,fun f=>match f with
    | _=>false⟩
def A_Zda:Loc2 T:=⟨fun id=>match id with
    | _=>none,fun r=>match r with
    | _=>none,fun r=>match r with
    | _=>false⟩
theorem Zda_eq (x:tySs T S_Zda.ps):run E_Zda A_Zda (Tryz.f53.body.getD .skip) (enterT E_Zda.C S_Zda.ps x) (retK E_Zda Tryz.f53.results.toList S_Zda.ps S_Zda.rs)=S_Zda.fn x:=by kernel_rfl
theorem Zda_env:EnvOk Tryz.prog E_Zda:=envOk (E:=E_Zda) cd_ok tys fl_ok fun f ds S h=>by cases h
theorem Zda_ok:SoundT Tryz.prog cd gdn 53 S_Zda:=
  sound_fn (E:=E_Zda) (A:=A_Zda) (done:=[]) (c:=(Tryz.f53.body.getD .skip)) (S:=S_Zda) (fn:=Tryz.f53) hmix Zda_env Tryz.func53 rfl (by kernel_rfl) (by kernel_rfl) done_nil (by kernel_rfl) (by kernel_rfl) Zda_eq
def Zbl (a0:(List (UInt8))):Option ((Unit) × (ApiCredential × Int × Unit)):=
 ((Zdb a0).bind fun r1=>(bif (!decide (r1.2.2.2.1=(0:Int))) then (some ((),((⟨([]:List UInt8),([]:List UInt8),([]:List UInt8),0#64,(0:Int),false,(0:Int),false,false⟩:ApiCredential),(2:Int),())))
 else ((Zcb r1.2.1 (1#64)).bind fun r2=>((Zcb r1.2.1 (2#64)).bind fun r3=>((Zcb r1.2.1 (3#64)).bind fun r4=>((Zcb r1.2.1 (4#64)).bind fun r5=>((Zcb r1.2.1 (5#64)).bind fun r6=>((Zcb r1.2.1 (6#64)).bind fun r7=>((Zcb r1.2.1 (7#64)).bind fun r8=>((Zcb r1.2.1 (8#64)).bind fun r9=>((Zcb r1.2.1 (9#64)).bind fun r10=>((Zbm (⟨r2.2.1.data,r3.2.1.data,r4.2.1.data,r5.2.1.number,(IntKind.wrap .i64 (r6.2.1.number.toNat:Int)),(decide (r7.2.1.number=1#64)),(IntKind.wrap .i64 (r8.2.1.number.toNat:Int)),(decide (r9.2.1.number=1#64)),(decide (r10.2.1.number=1#64))⟩:ApiCredential)).bind fun r11=>(bif (!decide (r11.2.2.1=(0:Int))) then (some ((),((⟨([]:List UInt8),([]:List UInt8),([]:List UInt8),0#64,(0:Int),false,(0:Int),false,false⟩:ApiCredential),(2:Int),())))
 else ((Zda r11.2.1 a0).bind fun r12=>(bif (!r12.2.1) then (some ((),((⟨([]:List UInt8),([]:List UInt8),([]:List UInt8),0#64,(0:Int),false,(0:Int),false,false⟩:ApiCredential),(2:Int),())))
 else (some ((),((⟨r2.2.1.data,r3.2.1.data,r4.2.1.data,r5.2.1.number,(IntKind.wrap .i64 (r6.2.1.number.toNat:Int)),(decide (r7.2.1.number=1#64)),(IntKind.wrap .i64 (r8.2.1.number.toNat:Int)),(decide (r9.2.1.number=1#64)),(decide (r10.2.1.number=1#64))⟩:ApiCredential),(0:Int),()))))))))))))))))))
def S_Zbl:FSpec T:=⟨[.f (.v (.rs 0))],[(.v (.agg 2)),(.v (.int .i64))],fun x=>Zbl x.1⟩
def E_Zbl:Env T:=⟨tab.find,cd,globs,flc,fun f ds=>match f with
    | 12=>some S_Zbm
    | 51=>some S_Zdb
    | 52=>some S_Zcb
    | 53=>some S_Zda
    | _=>none,fun f=>match f with
    | 52=>true
    | 53=>true
    | _=>false⟩
def A_Zbl:Loc2 T:=⟨fun id=>match id with
    | _=>none,fun r=>match r with
    | _=>none,fun r=>match r with
    | _=>false⟩
theorem Zbl_eq (x:tySs T S_Zbl.ps):run E_Zbl A_Zbl (Tryz.f16.body.getD .skip) (enterT E_Zbl.C S_Zbl.ps x) (retK E_Zbl Tryz.f16.results.toList S_Zbl.ps S_Zbl.rs)=S_Zbl.fn x:=by kernel_rfl
theorem Zbl_env:EnvOk Tryz.prog E_Zbl:=envOk (E:=E_Zbl) cd_ok tys fl_ok fun f ds S h=>by
    dsimp only [E_Zbl] at h
    split at h
    · cases h; exact Zbm_ok
    · cases h; exact Zdb_ok
    · cases h; exact Zcb_ok
    · cases h; exact Zda_ok
    · cases h
theorem Zbl_ok:SoundT Tryz.prog cd gdn 16 S_Zbl:=
  sound_fn (E:=E_Zbl) (A:=A_Zbl) (done:=[]) (c:=(Tryz.f16.body.getD .skip)) (S:=S_Zbl) (fn:=Tryz.f16) hmix Zbl_env Tryz.func16 rfl (by kernel_rfl) (by kernel_rfl) done_nil (by kernel_rfl) (by kernel_rfl) Zbl_eq
def Zat_L0b (y0:(List (UInt8))) (y1:UInt8):Option (((List (UInt8)) × UInt8 × Unit) ⊕ ((List (UInt8)) × Unit)):=
 (bif (decide ((0:Int) < ((y0).length:Int))) then ((getI y0 (IntKind.wrap .i64 (((y0).length:Int) - (1:Int)))).bind fun x1=>(bif (decide (x1.toBitVec=y1.toBitVec)) then (bif (decide ((0:Int) ≤ (IntKind.wrap .i64 (((y0).length:Int) - (1:Int)))) && decide ((IntKind.wrap .i64 (((y0).length:Int) - (1:Int))) ≤ ((y0).length:Int))) then (let v2:List (UInt8):=(List.take ((IntKind.wrap .i64 (((y0).length:Int) - (1:Int)))).toNat y0)
 (some (Sum.inl (v2,y1,()))))
 else none)
 else (some (Sum.inr (y0,())))))
 else (some (Sum.inr (y0,()))))
def Zat_L0 (y:((List (UInt8)) × UInt8 × Unit)):Option ((List (UInt8)) × Unit):=iter (fun (y:((List (UInt8)) × UInt8 × Unit))=>Zat_L0b y.1 y.2.1) rounds y
def Zat (a0:(List (UInt8))) (a1:UInt8):Option ((Unit) × ((List (UInt8)) × Unit)):=
 ((Zat_L0 (a0,a1,())).bind (fun (z3:((List (UInt8)) × Unit))=>(some ((),(z3.1,())))))
def S_Zat:FSpec T:=⟨[.f (.v (.rs 0)),.f (.v .u8)],[(.v (.rs 0))],fun x=>Zat x.1 x.2.1⟩
def E_Zat:Env T:=⟨tab.find,cd,globs,flc,fun f ds=>match f with
    | _=>none,fun f=>match f with
    | _=>false⟩
def A_Zat:Loc2 T:=⟨fun id=>match id with
    | 0=>some ⟨[(0,.f (.v (.rs 0))),(1,.f (.v .u8))],[(.exit 0,[(0,.f (.v (.rs 0)))])],Zat_L0,[]⟩
    | _=>none,fun r=>match r with
    | _=>none,fun r=>match r with
    | _=>false⟩
theorem Zat_L0_eq (y0:(List (UInt8))) (y1:UInt8):run E_Zat A_Zat (loopAt 0 (Tryz.f101.body.getD .skip)) (layC cd [(0,.f (.v (.rs 0))),(1,.f (.v .u8))] [] (y0,y1,())) (roundK cd [(0,.f (.v (.rs 0))),(1,.f (.v .u8))] [] [(.exit 0,[(0,.f (.v (.rs 0)))])])=Zat_L0b y0 y1:=by kernel_rfl
theorem Zat_eq (x:tySs T S_Zat.ps):run E_Zat A_Zat (Tryz.f101.body.getD .skip) (enterT E_Zat.C S_Zat.ps x) (retK E_Zat Tryz.f101.results.toList S_Zat.ps S_Zat.rs)=S_Zat.fn x:=by kernel_rfl
theorem Zat_env:EnvOk Tryz.prog E_Zat:=envOk (E:=E_Zat) cd_ok tys fl_ok fun f ds S h=>by cases h
theorem Zat_L0_ok:LoopOk Tryz.prog E_Zat Tryz.f101.ntmps (kqOf S_Zat.ps 0) (loopAt 0 (Tryz.f101.body.getD .skip)) ⟨[(0,.f (.v (.rs 0))),(1,.f (.v .u8))],[(.exit 0,[(0,.f (.v (.rs 0)))])],Zat_L0,[]⟩:=
  loop_ok (A:=A_Zat) (done:=[]) (c0:=(Tryz.f101.body.getD .skip)) hmix Zat_env done_nil rounds (by kernel_rfl) (by kernel_rfl) (fun x=>Zat_L0_eq x.1 x.2.1) (fun _=>rfl)
theorem Zat_ok:SoundT Tryz.prog cd gdn 101 S_Zat:=
  sound_fn (E:=E_Zat) (A:=A_Zat) (done:=[0]) (c:=(Tryz.f101.body.getD .skip)) (S:=S_Zat) (fn:=Tryz.f101) hmix Zat_env Tryz.func101 rfl (by kernel_rfl) (by kernel_rfl) (done_cons rfl Zat_L0_ok done_nil) (by kernel_rfl) (by kernel_rfl) Zat_eq
def Zba_L0b (y0:(List (UInt8))) (y1:UInt8):Option (((List (UInt8)) × UInt8 × Unit) ⊕ ((List (UInt8)) × Unit)):=
 (bif (decide ((0:Int) < ((y0).length:Int))) then ((getI y0 (0:Int)).bind fun x1=>(bif (decide (x1.toBitVec=y1.toBitVec)) then (bif decide ((1:Int) ≤ ((y0).length:Int)) then (some (Sum.inl ((List.drop 1 y0),y1,())))
 else none)
 else (some (Sum.inr (y0,())))))
 else (some (Sum.inr (y0,()))))
def Zba_L0 (y:((List (UInt8)) × UInt8 × Unit)):Option ((List (UInt8)) × Unit):=iter (fun (y:((List (UInt8)) × UInt8 × Unit))=>Zba_L0b y.1 y.2.1) rounds y
def Zba (a0:(List (UInt8))) (a1:UInt8):Option ((Unit) × ((List (UInt8)) × Unit)):=
 ((Zba_L0 (a0,a1,())).bind (fun (z2:((List (UInt8)) × Unit))=>(bif (decide (((z2.1).length:Int)=(0:Int))) then (some ((),([],())))
 else (some ((),(z2.1,()))))))
def S_Zba:FSpec T:=⟨[.f (.v (.rs 0)),.f (.v .u8)],[(.v (.rs 0))],fun x=>Zba x.1 x.2.1⟩
def E_Zba:Env T:=⟨tab.find,cd,globs,flc,fun f ds=>match f with
    | _=>none,fun f=>match f with
    | _=>false⟩
def A_Zba:Loc2 T:=⟨fun id=>match id with
    | 0=>some ⟨[(0,.f (.v (.rs 0))),(1,.f (.v .u8))],[(.exit 0,[(0,.f (.v (.rs 0)))])],Zba_L0,[]⟩
    | _=>none,fun r=>match r with
    | _=>none,fun r=>match r with
    | _=>false⟩
theorem Zba_L0_eq (y0:(List (UInt8))) (y1:UInt8):run E_Zba A_Zba (loopAt 0 (Tryz.f100.body.getD .skip)) (layC cd [(0,.f (.v (.rs 0))),(1,.f (.v .u8))] [] (y0,y1,())) (roundK cd [(0,.f (.v (.rs 0))),(1,.f (.v .u8))] [] [(.exit 0,[(0,.f (.v (.rs 0)))])])=Zba_L0b y0 y1:=by kernel_rfl
theorem Zba_eq (x:tySs T S_Zba.ps):run E_Zba A_Zba (Tryz.f100.body.getD .skip) (enterT E_Zba.C S_Zba.ps x) (retK E_Zba Tryz.f100.results.toList S_Zba.ps S_Zba.rs)=S_Zba.fn x:=by kernel_rfl
theorem Zba_env:EnvOk Tryz.prog E_Zba:=envOk (E:=E_Zba) cd_ok tys fl_ok fun f ds S h=>by cases h
theorem Zba_L0_ok:LoopOk Tryz.prog E_Zba Tryz.f100.ntmps (kqOf S_Zba.ps 0) (loopAt 0 (Tryz.f100.body.getD .skip)) ⟨[(0,.f (.v (.rs 0))),(1,.f (.v .u8))],[(.exit 0,[(0,.f (.v (.rs 0)))])],Zba_L0,[]⟩:=
  loop_ok (A:=A_Zba) (done:=[]) (c0:=(Tryz.f100.body.getD .skip)) hmix Zba_env done_nil rounds (by kernel_rfl) (by kernel_rfl) (fun x=>Zba_L0_eq x.1 x.2.1) (fun _=>rfl)
theorem Zba_ok:SoundT Tryz.prog cd gdn 100 S_Zba:=
  sound_fn (E:=E_Zba) (A:=A_Zba) (done:=[0]) (c:=(Tryz.f100.body.getD .skip)) (S:=S_Zba) (fn:=Tryz.f100) hmix Zba_env Tryz.func100 rfl (by kernel_rfl) (by kernel_rfl) (done_cons rfl Zba_L0_ok done_nil) (by kernel_rfl) (by kernel_rfl) Zba_eq
def Zdi (a0:(List (UInt8))) (a1:(List UInt8)):Option ((Unit) × ((List (UInt8)) × Unit)):=
 (bif (decide (((a0).length:Int)=(0:Int))) then (some ((),([],())))
 else (bif (decide (a1=([]:List UInt8))) then (some ((),(a0,())))
 else (bif (decide (((a1).length:Int)=(1:Int))) then ((getI a1 (0:Int)).bind fun x1=>(bif (decide (x1.toBitVec.toNat < (128:UInt8).toBitVec.toNat)) then ((getI a1 (0:Int)).bind fun x2=>((Zat a0 x2).bind fun r3=>((getI a1 (0:Int)).bind fun x4=>((Zba r3.2.1 x4).bind fun r5=>(some ((),(r5.2.1,())))))))
 else none))
 else none)))
def S_Zdi:FSpec T:=⟨[.f (.v (.rs 0)),.f (.v .str)],[(.v (.rs 0))],fun x=>Zdi x.1 x.2.1⟩
def E_Zdi:Env T:=⟨tab.find,cd,globs,flc,fun f ds=>match f with
    | 100=>some S_Zba
    | 101=>some S_Zat
    | _=>none,fun f=>match f with
    | _=>false⟩
def A_Zdi:Loc2 T:=⟨fun id=>match id with
    | _=>none,fun r=>match r with
    | _=>none,fun r=>match r with
    | _=>false⟩
theorem Zdi_eq (x:tySs T S_Zdi.ps):run E_Zdi A_Zdi (Tryz.f72.body.getD .skip) (enterT E_Zdi.C S_Zdi.ps x) (retK E_Zdi Tryz.f72.results.toList S_Zdi.ps S_Zdi.rs)=S_Zdi.fn x:=by kernel_rfl
theorem Zdi_env:EnvOk Tryz.prog E_Zdi:=envOk (E:=E_Zdi) cd_ok tys fl_ok fun f ds S h=>by
    dsimp only [E_Zdi] at h
    split at h
    · cases h; exact Zba_ok
    · cases h; exact Zat_ok
    · cases h
theorem Zdi_ok:SoundT Tryz.prog cd gdn 72 S_Zdi:=
  sound_fn (E:=E_Zdi) (A:=A_Zdi) (done:=[]) (c:=(Tryz.f72.body.getD .skip)) (S:=S_Zdi) (fn:=Tryz.f72) hmix Zdi_env Tryz.func72 rfl (by kernel_rfl) (by kernel_rfl) done_nil (by kernel_rfl) (by kernel_rfl) Zdi_eq
end Go.Proofs.YtghfcfjnfgmkgaaGreatDoor

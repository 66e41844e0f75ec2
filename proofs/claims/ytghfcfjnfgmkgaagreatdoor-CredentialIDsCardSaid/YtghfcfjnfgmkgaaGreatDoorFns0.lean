/- The functions of the program, as plain functions, and that the program computes them. Written by a program. -/
import Derived.Test.YtghfcfjnfgmkgaaGreatDoorLib8
import Derived.Test.YtghfcfjnfgmkgaaGreatDoorLay
import Derived.Lib.LaidU8
import Derived.Lib.BytesEntry
import Derived.Lib.Bytealg
import Derived.Lib.ValidU
import Derived.Test.YtghfcfjnfgmkgaaGreatDoorClone
import Derived.Test.YtghfcfjnfgmkgaaGreatDoorProg
import Derived.WalkKit
set_option linter.unusedVariables false
set_option maxRecDepth 100000
namespace Go.Proofs.YtghfcfjnfgmkgaaGreatDoor
open Go Go.Abs
structure ApiItem where
  kind:Int
  number:BitVec 64
  data:List UInt8
  deriving DecidableEq,Inhabited
structure ApiCredential where
  rP:List UInt8
  user:List UInt8
  name:List UInt8
  seed:BitVec 64
  height:Int
  resident:Bool
  protect:Int
  shared:Bool
  backed:Bool
  deriving DecidableEq,Inhabited
structure CborFrame where
  pairs:Bool
  left:Int
  last_:List UInt8
  deriving DecidableEq,Inhabited
structure CborWalk where
  open_:List CborFrame
  count:Int
  deriving DecidableEq,Inhabited
structure CborChecker where
  walk:CborWalk
  deriving DecidableEq,Inhabited
structure DigestState where
  v0:BitVec 64
  v1:BitVec 64
  v2:BitVec 64
  v3:BitVec 64
  deriving DecidableEq,Inhabited
structure Arr8_UInt8 where
  a0:UInt8
  a1:UInt8
  a2:UInt8
  a3:UInt8
  a4:UInt8
  a5:UInt8
  a6:UInt8
  a7:UInt8
  deriving DecidableEq,Inhabited
structure CborReader where
  walk:CborWalk
  b:List UInt8
  at_:Int
  deriving DecidableEq,Inhabited
structure Arr4_BitVec64 where
  a0:BitVec 64
  a1:BitVec 64
  a2:BitVec 64
  a3:BitVec 64
  deriving DecidableEq,Inhabited
abbrev T:Nat → Type
  | 0=>UInt8
  | 1=>ApiItem
  | 2=>ApiCredential
  | 3=>BitVec 64
  | 4=>List ApiItem
  | 5=>Int
  | 6=>CborFrame
  | 7=>CborWalk
  | 8=>CborChecker
  | 9=>DigestState
  | 10=>List UInt8
  | 11=>Arr8_UInt8
  | 12=>CborReader
  | 13=>List UInt8
  | 14=>Arr4_BitVec64
  | _=>Unit
def lfs:Nat → List Lf
  | 0=>[.u8]
  | 1=>[.int .i64,.u64,.str]
  | 2=>[.str,.str,.str,.u64,.int .i64,.bool,.int .i64,.bool,.bool]
  | 3=>[.u64]
  | 4=>[.rs 1]
  | 5=>[.int .i64]
  | 6=>[.bool,.int .i64,.rn 0]
  | 7=>[.rs 6,.int .i64]
  | 8=>[.rs 6,.int .i64]
  | 9=>[.u64,.u64,.u64,.u64]
  | 10=>[.rs 0]
  | 11=>[.u8,.u8,.u8,.u8,.u8,.u8,.u8,.u8]
  | 12=>[.rs 6,.int .i64,.rs 0,.int .i64]
  | 13=>[.str]
  | 14=>[.u64,.u64,.u64,.u64]
  | _=>[]
def to0 (x:UInt8):tyLs T (lfs 0):=(x,())
def of0 (y:tyLs T (lfs 0)):UInt8:=y.1
def eD0 (x:UInt8):List D:=[.int .u8 x.toNat]
def to1 (x:ApiItem):tyLs T (lfs 1):=(x.kind,x.number,x.data,())
def of1 (y:tyLs T (lfs 1)):ApiItem:=⟨y.1,y.2.1,y.2.2.1⟩
def eD1 (x:ApiItem):List D:=[.int .i64 x.kind,.int .u64 x.number.toNat,.str x.data]
def to2 (x:ApiCredential):tyLs T (lfs 2):=(x.rP,x.user,x.name,x.seed,x.height,x.resident,x.protect,x.shared,x.backed,())
def of2 (y:tyLs T (lfs 2)):ApiCredential:=⟨y.1,y.2.1,y.2.2.1,y.2.2.2.1,y.2.2.2.2.1,y.2.2.2.2.2.1,y.2.2.2.2.2.2.1,y.2.2.2.2.2.2.2.1,y.2.2.2.2.2.2.2.2.1⟩
def eD2 (x:ApiCredential):List D:=[.str x.rP,.str x.user,.str x.name,.int .u64 x.seed.toNat,.int .i64 x.height,.bool x.resident,.int .i64 x.protect,.bool x.shared,.bool x.backed]
def to3 (x:BitVec 64):tyLs T (lfs 3):=(x,())
def of3 (y:tyLs T (lfs 3)):BitVec 64:=y.1
def eD3 (x:BitVec 64):List D:=[.int .u64 x.toNat]
def to4 (x:List ApiItem):tyLs T (lfs 4):=(x,())
def of4 (y:tyLs T (lfs 4)):List ApiItem:=y.1
def eD4 (x:List ApiItem):List D:=[.rs 3 (x.map eD1)]
def to5 (x:Int):tyLs T (lfs 5):=(x,())
def of5 (y:tyLs T (lfs 5)):Int:=y.1
def eD5 (x:Int):List D:=[.int .i64 x]
def to6 (x:CborFrame):tyLs T (lfs 6):=(x.pairs,x.left,x.last_,())
def of6 (y:tyLs T (lfs 6)):CborFrame:=⟨y.1,y.2.1,y.2.2.1⟩
def eD6 (x:CborFrame):List D:=[.bool x.pairs,.int .i64 x.left,rnD 1 (x.last_.map eD0)]
def to7 (x:CborWalk):tyLs T (lfs 7):=(x.open_,x.count,())
def of7 (y:tyLs T (lfs 7)):CborWalk:=⟨y.1,y.2.1⟩
def eD7 (x:CborWalk):List D:=[.rs 3 (x.open_.map eD6),.int .i64 x.count]
def to8 (x:CborChecker):tyLs T (lfs 8):=(x.walk.open_,x.walk.count,())
def of8 (y:tyLs T (lfs 8)):CborChecker:=⟨⟨y.1,y.2.1⟩⟩
def eD8 (x:CborChecker):List D:=[.rs 3 (x.walk.open_.map eD6),.int .i64 x.walk.count]
def to9 (x:DigestState):tyLs T (lfs 9):=(x.v0,x.v1,x.v2,x.v3,())
def of9 (y:tyLs T (lfs 9)):DigestState:=⟨y.1,y.2.1,y.2.2.1,y.2.2.2.1⟩
def eD9 (x:DigestState):List D:=[.int .u64 x.v0.toNat,.int .u64 x.v1.toNat,.int .u64 x.v2.toNat,.int .u64 x.v3.toNat]
def to10 (x:List UInt8):tyLs T (lfs 10):=(x,())
def of10 (y:tyLs T (lfs 10)):List UInt8:=y.1
def eD10 (x:List UInt8):List D:=[.rs 1 (x.map eD0)]
def to11 (x:Arr8_UInt8):tyLs T (lfs 11):=(x.a0,x.a1,x.a2,x.a3,x.a4,x.a5,x.a6,x.a7,())
def of11 (y:tyLs T (lfs 11)):Arr8_UInt8:=⟨y.1,y.2.1,y.2.2.1,y.2.2.2.1,y.2.2.2.2.1,y.2.2.2.2.2.1,y.2.2.2.2.2.2.1,y.2.2.2.2.2.2.2.1⟩
def eD11 (x:Arr8_UInt8):List D:=[.int .u8 x.a0.toNat,.int .u8 x.a1.toNat,.int .u8 x.a2.toNat,.int .u8 x.a3.toNat,.int .u8 x.a4.toNat,.int .u8 x.a5.toNat,.int .u8 x.a6.toNat,.int .u8 x.a7.toNat]
def to12 (x:CborReader):tyLs T (lfs 12):=(x.walk.open_,x.walk.count,x.b,x.at_,())
def of12 (y:tyLs T (lfs 12)):CborReader:=⟨⟨y.1,y.2.1⟩,y.2.2.1,y.2.2.2.1⟩
def eD12 (x:CborReader):List D:=[.rs 3 (x.walk.open_.map eD6),.int .i64 x.walk.count,.rs 1 (x.b.map eD0),.int .i64 x.at_]
def to13 (x:List UInt8):tyLs T (lfs 13):=(x,())
def of13 (y:tyLs T (lfs 13)):List UInt8:=y.1
def eD13 (x:List UInt8):List D:=[.str x]
def to14 (x:Arr4_BitVec64):tyLs T (lfs 14):=(x.a0,x.a1,x.a2,x.a3,())
def of14 (y:tyLs T (lfs 14)):Arr4_BitVec64:=⟨y.1,y.2.1,y.2.2.1,y.2.2.2.1⟩
def eD14 (x:Arr4_BitVec64):List D:=[.int .u64 x.a0.toNat,.int .u64 x.a1.toNat,.int .u64 x.a2.toNat,.int .u64 x.a3.toNat]
def cd:Cd T where
  sz:=fun c=>match c with
    | 0=>1
    | 1=>3
    | 2=>9
    | 3=>1
    | 4=>1
    | 5=>1
    | 6=>3
    | 7=>2
    | 8=>2
    | 9=>4
    | 10=>1
    | 11=>8
    | 12=>4
    | 13=>1
    | 14=>4
    | _=>0
  encD:=fun c x=>match c,x with
    | 0,x=>eD0 x
    | 1,x=>eD1 x
    | 2,x=>eD2 x
    | 3,x=>eD3 x
    | 4,x=>eD4 x
    | 5,x=>eD5 x
    | 6,x=>eD6 x
    | 7,x=>eD7 x
    | 8,x=>eD8 x
    | 9,x=>eD9 x
    | 10,x=>eD10 x
    | 11,x=>eD11 x
    | 12,x=>eD12 x
    | 13,x=>eD13 x
    | 14,x=>eD14 x
    | _,_=>[]
  enc:=fun c x=>match c,x with
    | 0,x=>encL (lfs 0) (to0 x)
    | 1,x=>encL (lfs 1) (to1 x)
    | 2,x=>encL (lfs 2) (to2 x)
    | 3,x=>encL (lfs 3) (to3 x)
    | 4,x=>encL (lfs 4) (to4 x)
    | 5,x=>encL (lfs 5) (to5 x)
    | 6,x=>encL (lfs 6) (to6 x)
    | 7,x=>encL (lfs 7) (to7 x)
    | 8,x=>encL (lfs 8) (to8 x)
    | 9,x=>encL (lfs 9) (to9 x)
    | 10,x=>encL (lfs 10) (to10 x)
    | 11,x=>encL (lfs 11) (to11 x)
    | 12,x=>encL (lfs 12) (to12 x)
    | 13,x=>encL (lfs 13) (to13 x)
    | 14,x=>encL (lfs 14) (to14 x)
    | _,_=>[]
  dec:=fun c ds=>match c with
    | 0=>(decL (lfs 0) ds).map of0
    | 1=>(decL (lfs 1) ds).map of1
    | 2=>(decL (lfs 2) ds).map of2
    | 3=>(decL (lfs 3) ds).map of3
    | 4=>(decL (lfs 4) ds).map of4
    | 5=>(decL (lfs 5) ds).map of5
    | 6=>(decL (lfs 6) ds).map of6
    | 7=>(decL (lfs 7) ds).map of7
    | 8=>(decL (lfs 8) ds).map of8
    | 9=>(decL (lfs 9) ds).map of9
    | 10=>(decL (lfs 10) ds).map of10
    | 11=>(decL (lfs 11) ds).map of11
    | 12=>(decL (lfs 12) ds).map of12
    | 13=>(decL (lfs 13) ds).map of13
    | 14=>(decL (lfs 14) ds).map of14
    | _=>none
  bt:=0
  hb:=rfl
  rn:=fun c=>match c with
    | 6=>[false,false,true]
    | _=>[]
  im:=fun t=>match t with
    | 60=>true
    | _=>false
  la:=fun t=>match t with
    | 117=>some 0
    | _=>none
theorem cd_ok:CdOk cd where
  len:=fun c=>match c with
    | 0=>fun _=>rfl
    | 1=>fun _=>rfl
    | 2=>fun _=>rfl
    | 3=>fun _=>rfl
    | 4=>fun _=>rfl
    | 5=>fun _=>rfl
    | 6=>fun _=>rfl
    | 7=>fun _=>rfl
    | 8=>fun _=>rfl
    | 9=>fun _=>rfl
    | 10=>fun _=>rfl
    | 11=>fun _=>rfl
    | 12=>fun _=>rfl
    | 13=>fun _=>rfl
    | 14=>fun _=>rfl
    | _ + 15=>fun _=>rfl
  enc:=fun c=>match c with
    | 0=>fun _=>rfl
    | 1=>fun _=>rfl
    | 2=>fun _=>rfl
    | 3=>fun _=>rfl
    | 4=>fun _=>rfl
    | 5=>fun _=>rfl
    | 6=>fun _=>rfl
    | 7=>fun _=>rfl
    | 8=>fun _=>rfl
    | 9=>fun _=>rfl
    | 10=>fun _=>rfl
    | 11=>fun _=>rfl
    | 12=>fun _=>rfl
    | 13=>fun _=>rfl
    | 14=>fun _=>rfl
    | _ + 15=>fun _=>rfl
  epure:=fun c=>match c with
    | 0=>fun _=>rfl
    | 1=>fun _=>rfl
    | 2=>fun _=>rfl
    | 3=>fun _=>rfl
    | 4=>fun _=>rfl
    | 5=>fun _=>rfl
    | 6=>fun _=>rfl
    | 7=>fun _=>rfl
    | 8=>fun _=>rfl
    | 9=>fun _=>rfl
    | 10=>fun _=>rfl
    | 11=>fun _=>rfl
    | 12=>fun _=>rfl
    | 13=>fun _=>rfl
    | 14=>fun _=>rfl
    | _ + 15=>fun _=>rfl
  byte:=fun _=>rfl
  bsz:=rfl
  dec:=fun c=>match c with
    | 0=>fun ds x h=>dec_ok cd (c:=0) (lfs 0) (of:=of0) (e:=eD0) (fun _=>rfl) ds x h
    | 1=>fun ds x h=>dec_ok cd (c:=1) (lfs 1) (of:=of1) (e:=eD1) (fun _=>rfl) ds x h
    | 2=>fun ds x h=>dec_ok cd (c:=2) (lfs 2) (of:=of2) (e:=eD2) (fun _=>rfl) ds x h
    | 3=>fun ds x h=>dec_ok cd (c:=3) (lfs 3) (of:=of3) (e:=eD3) (fun _=>rfl) ds x h
    | 4=>fun ds x h=>dec_ok cd (c:=4) (lfs 4) (of:=of4) (e:=eD4) (fun _=>rfl) ds x h
    | 5=>fun ds x h=>dec_ok cd (c:=5) (lfs 5) (of:=of5) (e:=eD5) (fun _=>rfl) ds x h
    | 6=>fun ds x h=>dec_ok cd (c:=6) (lfs 6) (of:=of6) (e:=eD6) (fun _=>rfl) ds x h
    | 7=>fun ds x h=>dec_ok cd (c:=7) (lfs 7) (of:=of7) (e:=eD7) (fun _=>rfl) ds x h
    | 8=>fun ds x h=>dec_ok cd (c:=8) (lfs 8) (of:=of8) (e:=eD8) (fun _=>rfl) ds x h
    | 9=>fun ds x h=>dec_ok cd (c:=9) (lfs 9) (of:=of9) (e:=eD9) (fun _=>rfl) ds x h
    | 10=>fun ds x h=>dec_ok cd (c:=10) (lfs 10) (of:=of10) (e:=eD10) (fun _=>rfl) ds x h
    | 11=>fun ds x h=>dec_ok cd (c:=11) (lfs 11) (of:=of11) (e:=eD11) (fun _=>rfl) ds x h
    | 12=>fun ds x h=>dec_ok cd (c:=12) (lfs 12) (of:=of12) (e:=eD12) (fun _=>rfl) ds x h
    | 13=>fun ds x h=>dec_ok cd (c:=13) (lfs 13) (of:=of13) (e:=eD13) (fun _=>rfl) ds x h
    | 14=>fun ds x h=>dec_ok cd (c:=14) (lfs 14) (of:=of14) (e:=eD14) (fun _=>rfl) ds x h
    | _ + 15=>fun _ _ h=>by cases h
def ti3:TI:=⟨5,1,8,.int .i64,[.i .i64],[],[],none⟩
def ti4:TI:=⟨16,1,1,.bool,[.b],[],[],none⟩
def ti5:TI:=⟨0,1,1,.int .u8,[.i .u8],[],[],none⟩
def ti9:TI:=⟨13,1,16,.str,[.s],[],[],none⟩
def ti22:TI:=⟨3,1,8,.int .u64,[.i .u64],[],[],none⟩
def ti24:TI:=⟨2,9,88,.strct,[.s,.s,.s,.i .u64,.i .i64,.b,.i .i64,.b,.b],[some (0,9),some (1,9),some (2,9),some (3,22),some (4,3),some (5,4),some (6,3),some (7,4),some (8,4)],[(0,1),(1,1),(2,1),(3,1),(4,1),(5,1),(6,1),(7,1),(8,1)],some [2,2,2,3,3,1,3,1,1]⟩
def ti28:TI:=⟨10,1,24,.slice 5,[.ns],[],[],none⟩
def ti29:TI:=⟨16,1,8,.int .i64,[.i .i64],[],[],none⟩
def ti39:TI:=⟨16,1,8,.int .u64,[.i .u64],[],[],none⟩
def ti59:TI:=⟨16,1,24,.slice 9,[.ns],[],[],none⟩
def ti60:TI:=⟨16,1,24,.slice 22,[.ns],[],[],none⟩
def ti61:TI:=⟨4,1,24,.slice 71,[.ns],[],[],none⟩
def ti68:TI:=⟨16,1,24,.slice 61,[.ns],[],[],none⟩
def ti71:TI:=⟨1,3,32,.strct,[.i .i64,.i .u64,.s],[some (0,3),some (1,22),some (2,9)],[(0,1),(1,1),(2,1)],some [3,3,2]⟩
def ti91:TI:=⟨16,1,24,.slice 3,[.ns],[],[],none⟩
def ti105:TI:=⟨16,1,24,.slice 180,[.ns],[],[],none⟩
def ti107:TI:=⟨7,2,32,.strct,[.ns,.i .i64],[some (0,105),some (1,3)],[(0,1),(1,1)],none⟩
def ti109:TI:=⟨12,4,64,.strct,[.ns,.i .i64,.ns,.i .i64],[some (0,107),some (2,28),some (3,3)],[(0,2),(2,1),(3,1)],none⟩
def ti117:TI:=⟨11,8,8,.arr 8 5,[.i .u8,.i .u8,.i .u8,.i .u8,.i .u8,.i .u8,.i .u8,.i .u8],[],[],some [3,3,3,3,3,3,3,3]⟩
def ti136:TI:=⟨8,2,32,.strct,[.ns,.i .i64],[some (0,107)],[(0,2)],none⟩
def ti151:TI:=⟨14,4,32,.arr 4 22,[.i .u64,.i .u64,.i .u64,.i .u64],[],[],some [3,3,3,3]⟩
def ti153:TI:=⟨16,1,24,.slice 28,[.ns],[],[],none⟩
def ti156:TI:=⟨9,4,32,.strct,[.i .u64,.i .u64,.i .u64,.i .u64],[some (0,22),some (1,22),some (2,22),some (3,22)],[(0,1),(1,1),(2,1),(3,1)],some [3,3,3,3]⟩
def ti180:TI:=⟨6,3,40,.strct,[.b,.i .i64,.ns],[some (0,4),some (1,3),some (2,28)],[(0,1),(1,1),(2,1)],none⟩
def ti184:TI:=⟨16,3,48,.strct,[.s,.i .i64,.ns],[some (0,9),some (1,3),some (2,61)],[(0,1),(1,1),(2,1)],none⟩
def tab:Tr:=.node (.node (.node (.node (.node .leaf 3 ti3 .leaf) 4 ti4 (.node .leaf 5 ti5 .leaf)) 9 ti9 (.node (.node .leaf 22 ti22 .leaf) 24 ti24 .leaf)) 28 ti28 (.node (.node (.node .leaf 29 ti29 .leaf) 39 ti39 .leaf) 59 ti59 (.node (.node .leaf 60 ti60 .leaf) 61 ti61 .leaf))) 68 ti68 (.node (.node (.node (.node .leaf 71 ti71 .leaf) 91 ti91 (.node .leaf 105 ti105 .leaf)) 107 ti107 (.node (.node .leaf 109 ti109 .leaf) 117 ti117 .leaf)) 136 ti136 (.node (.node (.node .leaf 151 ti151 .leaf) 153 ti153 .leaf) 156 ti156 (.node (.node .leaf 180 ti180 .leaf) 184 ti184 .leaf)))
def globs:Nat → Option (List (DT T)):=fun g=>match g with
  | 0=>some (Lib.firstTab.map fun z=>DT.int .u8 z)
  | 1=>some (((List.range 16).flatMap fun i=>[((Lib.accLo i:Nat):Int),((Lib.accHi i:Nat):Int)]).map fun z=>DT.int .u8 z)
  | _=>none
def flc:Nat → Bool:=fun c=>match c with
  | 0=>true
  | 1=>true
  | 2=>true
  | 3=>true
  | 4=>false
  | 5=>true
  | 6=>false
  | 7=>false
  | 8=>false
  | 9=>true
  | 10=>false
  | 11=>true
  | 12=>false
  | 13=>true
  | 14=>true
  | _=>false
theorem hmix:Tryz.prog.follows .mixedOrders=true:=by kernel_rfl
theorem tys:TysOk Tryz.prog tab.find:=tys_ok (by kernel_rfl)
abbrev gdn:Nat → Option (List D):=fun g=>(globs g).map (denL cd)
theorem fl_ok:FlOk cd flc:=fun c=>match c with
  | 0=>fun h _=>rfl
  | 1=>fun h _=>rfl
  | 2=>fun h _=>rfl
  | 3=>fun h _=>rfl
  | 4=>fun h _=>by cases h
  | 5=>fun h _=>rfl
  | 6=>fun h _=>by cases h
  | 7=>fun h _=>by cases h
  | 8=>fun h _=>by cases h
  | 9=>fun h _=>rfl
  | 10=>fun h _=>by cases h
  | 11=>fun h _=>rfl
  | 12=>fun h _=>by cases h
  | 13=>fun h _=>rfl
  | 14=>fun h _=>rfl
  | _ + 15=>fun h _=>by cases h
theorem row_lt {w:World} {b:Nat} (h:0 < rowSize w b):b < w.heap.size:=by
  unfold rowSize at h
  cases hh:w.heap[b]? with
  | none=>rw [hh] at h; cases h
  | some o=>exact (Array.getElem?_eq_some_iff.1 hh).1
def accTab:List Int:=(List.range 16).flatMap fun i=>[Lib.accLo i,Lib.accHi i]
theorem gdn0:gdn 0=some (tabD .u8 Lib.firstTab):=by
  show some (denL cd _)=_
  rw [denL_map]
  simp [tabD,den,Function.comp_def]
theorem gdn1:gdn 1=some (tabD .u8 accTab):=by
  show some (denL cd _)=_
  rw [denL_map]
  simp [tabD,den,Function.comp_def,accTab]
theorem acc_lo:∀ i:Fin 16,accTab[2 * i.val]? = some ((Lib.accLo i.val:Nat):Int):=by decide
theorem acc_hi:∀ i:Fin 16,accTab[2 * i.val + 1]? = some ((Lib.accHi i.val:Nat):Int):=by decide
theorem tabs_of {I:Nat → Prop} {w:World} (h:Glob gdn I w):Lib.Utf8Tabs 0 1 w:=by
  refine ⟨fun c hc=>glob_tab (h 0 _ gdn0).2.1 (by simp [Lib.firstTab,hc]),fun i hi=>⟨?_,?_⟩⟩
  · exact glob_tab (h 1 _ gdn1).2.1 (acc_lo ⟨i,hi⟩)
  · exact glob_tab (h 1 _ gdn1).2.1 (acc_hi ⟨i,hi⟩)
theorem glob_of {w:World} (h:Lib.Utf8Tabs 0 1 w) (h0:rowSize w 0=256) (h1:rowSize w 1=32):Glob gdn (All w) w:=by
  intro g cs e
  match g,e with
  | 0,e=>
    rw [gdn0] at e; cases e
    refine ⟨row_lt (by omega),tab_glob fun i n hn=>?_,by rw [h0]; simp [tabD,Lib.firstTab]⟩
    have hi:i < 256:=by
      have:=(List.getElem?_eq_some_iff.1 hn).1
      simpa [Lib.firstTab] using this
    have e2:Lib.firstTab[i]? = some ((Lib.firstT i:Nat):Int):=by simp [Lib.firstTab,hi]
    rw [hn] at e2; cases e2
    exact h.1 i hi
  | 1,e=>
    rw [gdn1] at e; cases e
    refine ⟨row_lt (by omega),tab_glob fun i n hn=>?_,by rw [h1]; decide⟩
    have hi:i < 32:=by
      have:=(List.getElem?_eq_some_iff.1 hn).1
      have e:accTab.length=32:=by decide
      omega
    rcases Nat.mod_two_eq_zero_or_one i with hm | hm
    · have e3:i=2 * (i / 2):=by omega
      have e2:=acc_lo ⟨i / 2,by omega⟩
      simp only at e2
      rw [← e3,hn] at e2; cases e2
      have:=(h.2 (i / 2) (by omega)).1
      rwa [← e3] at this
    · have e3:i=2 * (i / 2) + 1:=by omega
      have e2:=acc_hi ⟨i / 2,by omega⟩
      simp only at e2
      rw [← e3,hn] at e2; cases e2
      have:=(h.2 (i / 2) (by omega)).2
      rwa [← e3] at this
  | n + 2,e=>cases e
def Zcr (a0:List UInt8):Option (Unit × (Bool × Unit)):=bif decide (a0.length ≤ 9223372036854775807) then some ((),Lib.validD a0,()) else none
def S_Zcr:FSpec T:=⟨[.f (.v .str)],[.v .bool],fun x=>Zcr x.1⟩
theorem Zcr_ok:SoundT Tryz.prog cd gdn 49 S_Zcr:=by
  refine sound_below (vts:=[.str]) (rts:=[.bool]) ⟨_,Tryz.func49,by kernel_rfl,by kernel_rfl⟩ fun I own w args x r hG hv hF=>?_
  obtain ⟨v,vr,_,_,rfl,h1,rfl,_⟩:=hv
  change V I w (.str x.1) free v at h1
  simp only [V] at h1
  subst h1
  change Zcr x.1=some r at hF
  unfold Zcr at hF
  by_cases hs:x.1.length ≤ 9223372036854775807
  · simp only [hs,decide_true,cond_true] at hF
    have hr:=Option.some.inj hF
    subst hr
    refine ⟨[.bool (Lib.validD x.1)],fun I' w'=>⟨_,_,none',none',rfl,(show V I' w' (.bool (Lib.validD x.1)) free _ by simp [V]),rfl,fun _ h=>h,fun _ h=>h,fun _ h=>h.elim⟩,?_⟩
    exact (Any.utf8_ValidString Tryz.lays196 ⟨x.1.toArray⟩ w (by rw [show ByteArray.size ⟨List.toArray x.1⟩=List.length x.1 from List.size_toArray]; exact hs) (tabs_of hG)).mono fun e w' h=>⟨h.1,h.2⟩
  · simp [hs] at hF
theorem bytesOf_rs {I:Nat → Prop} {w:World} {l:List UInt8} {v:Value} (h:V I w (.rs 1 (l.map byteD)) free v):(Extern.Bytes.bytesOf v).run Tryz.prog w = .ok ⟨l.toArray⟩ w:=by
  simp only [V] at h
  rcases h with ⟨hl,p,cap,rfl⟩ | ⟨b,o,cap,rfl,hcap,hIb,hvr⟩
  · have:l=[]:=List.map_eq_nil_iff.1 hl
    subst this
    cases p <;> rfl
  · have:=Lib.run_loadBytesX (P:=Tryz.prog) w (l.map fun c=>(c.toNat:Int)) ⟨b,o,none⟩ .empty (fun j x hj=>by
      rw [List.getElem?_map] at hj
      obtain ⟨c,hc,rfl⟩:=Option.map_eq_some_iff.1 hj
      rw [← VR_bytes hvr hc,Addr.add_lit])
    have e:Lib.bytesOf (l.map fun c=>(c.toNat:Int))=l:=by
      unfold Lib.bytesOf
      rw [List.map_map]
      conv=>rhs; rw [← List.map_id l]
      apply List.map_congr_left
      intro c _
      simp
    rw [e] at this
    simp only [Extern.Bytes.bytesOf,List.length_map] at this ⊢
    rw [this]
    simp
theorem Zdh_calls (v1 v2:Value) (a b:List UInt8) (w:World) (h1:(Extern.Bytes.bytesOf v1).run Tryz.prog w = .ok ⟨a.toArray⟩ w) (h2:(Extern.Bytes.bytesOf v2).run Tryz.prog w = .ok ⟨b.toArray⟩ w):Calls Tryz.prog 171 #[v1,v2] w fun e w'=>e = .returned (.int .i64 (Lib.compareBytes a b)) ∧ w'=w:=by
  have hx:∀ w',w'=w → (callFunc 174 #[v1,v2]).run Tryz.prog w' = .ok (.value (.int .i64 (Lib.compareBytes a b))) w':=by
    intro w' e
    subst e
    rw [run_callFunc_extern Tryz.func174 (by kernel_rfl) (by kernel_rfl) (by kernel_rfl) (e:=Extern.BytealgCompare.compare) (by kernel_rfl)]
    change Result.andThen (Sem.run Tryz.prog (do pure (goInt (Extern.BytealgCompare.cmp (← Extern.Bytes.bytesOf v1) (← Extern.Bytes.bytesOf v2)))) w') _=_
    simp only [Sem.run_bind,h1,h2,Sem.run_pure,Result.andThen]
    rw [Lib.cmp_eq]
    rfl
  go_enter Tryz.func171,Tryz.ntmps171
  go_wp2
  go_ret
  exact ⟨rfl,rfl⟩
def Zdh (a0 a1:List UInt8):Option (Unit × (Int × Unit)):=some ((),Lib.compareBytes a0 a1,())
def S_Zdh:FSpec T:=⟨[.f (.v (.rs 0)),.f (.v (.rs 0))],[.v (.int .i64)],fun x=>Zdh x.1 x.2.1⟩
theorem Zdh_ok:SoundT Tryz.prog cd gdn 171 S_Zdh:=by
  refine sound_below (vts:=[.rs 0,.rs 0]) (rts:=[.int .i64]) ⟨_,Tryz.func171,by kernel_rfl,by kernel_rfl⟩ fun I own w args x r hG hv hF=>?_
  obtain ⟨v,vr,_,_,rfl,h1,⟨v2,vr2,_,_,rfl,h2,rfl,_⟩,_⟩:=hv
  change V I w (.rs 1 (List.map byteD x.1)) free v at h1
  change V I w (.rs 1 (List.map byteD x.2.1)) free v2 at h2
  change Zdh x.1 x.2.1=some r at hF
  unfold Zdh at hF
  have hr:=Option.some.inj hF
  subst hr
  refine ⟨[.int .i64 (Lib.compareBytes x.1 x.2.1)],fun I' w'=>⟨_,_,none',none',rfl,(show V I' w' (.int .i64 (Lib.compareBytes x.1 x.2.1)) free _ by simp [V]),rfl,fun _ h=>h,fun _ h=>h,fun _ h=>h.elim⟩,?_⟩
  refine (Zdh_calls _ _ _ _ w (bytesOf_rs h1) (bytesOf_rs h2)).mono fun e w' h=>?_
  obtain ⟨rfl,rfl⟩:=h
  exact ⟨rfl,RowKit.Below.refl _ _⟩
def Zdq (a0:List ApiItem):Option (Unit × (List ApiItem × Unit)):=bif decide (a0.length ≤ 1000000) then some ((),a0,()) else none
def S_Zdq:FSpec T:=⟨[.f (.v (.rs 1))],[.own 1],fun x=>Zdq x.1⟩
theorem Zdq_ok:SoundT Tryz.prog cd gdn 118 S_Zdq:=by
  refine sound_cloneE (C:=cd) (c:=1) (te:=71) (F:=fun x=>Zdq x.1) (by decide) ⟨_,Tryz.func118,by kernel_rfl,by kernel_rfl⟩ (fun x r h=>?_) (fun n c w=>AnyE.slices_Clone_nil Tryz.laysCl n c w) (fun a n c news w h1 h2 h3 h4=>?_)
  · change Zdq x.1=some r at h
    unfold Zdq at h
    by_cases hs:List.length x.1 ≤ 1000000
    · simp only [hs,decide_true,cond_true] at h
      have hr:=Option.some.inj h
      subst hr
      exact ⟨rfl,hs⟩
    · simp [hs] at h
  · have hi:((Tryz.prog.info? 71).bind fun i=>i.zero.bind fun z=>some (i.size,i.bytes,z.cells.size))=some (3,32,3):=by kernel_rfl
    cases hq:Tryz.prog.info? 71 with
    | none=>rw [hq] at hi; cases hi
    | some i0=>
    rw [hq] at hi
    cases hz:i0.zero with
    | none=>rw [Option.bind_some,hz] at hi; cases hi
    | some z=>
    rw [Option.bind_some,hz,Option.bind_some] at hi
    obtain ⟨e1,e2,e3⟩:i0.size=3 ∧ i0.bytes=32 ∧ z.cells.size=3:=by
      have:=Option.some.inj hi
      simpa using this
    exact clone_at Tryz.laysCl i0 z 3 32 hq hz e1 e2 e3 (by decide) Tryz.sizeOf71 a n c news w h1 (by unfold maxLen; omega) (by omega) h3 h4
def Zbs (a0:Int) (a1:Int) (a2:Int):Option ((Unit) × (Bool × Unit)):=
 (bif (decide (a1 ≤ a0)) then (some ((),((decide (a0 ≤ a2)),())))
 else (some ((),(false,()))))
def S_Zbs:FSpec T:=⟨[.f (.v (.int .i64)),.f (.v (.int .i64)),.f (.v (.int .i64))],[(.v .bool)],fun x=>Zbs x.1 x.2.1 x.2.2.1⟩
def E_Zbs:Env T:=⟨tab.find,cd,globs,flc,fun f ds=>match f with
    | _=>none,fun f=>match f with
    | _=>false⟩
def A_Zbs:Loc2 T:=⟨fun id=>match id with
    | _=>none,fun r=>match r with
    | _=>none,fun r=>match r with
    | _=>false⟩
theorem Zbs_eq (x:tySs T S_Zbs.ps):run E_Zbs A_Zbs (Tryz.f48.body.getD .skip) (enterT E_Zbs.C S_Zbs.ps x) (retK E_Zbs Tryz.f48.results.toList S_Zbs.ps S_Zbs.rs)=S_Zbs.fn x:=by kernel_rfl
theorem Zbs_env:EnvOk Tryz.prog E_Zbs:=envOk (E:=E_Zbs) cd_ok tys fl_ok fun f ds S h=>by cases h
theorem Zbs_ok:SoundT Tryz.prog cd gdn 48 S_Zbs:=
  sound_fn (E:=E_Zbs) (A:=A_Zbs) (done:=[]) (c:=(Tryz.f48.body.getD .skip)) (S:=S_Zbs) (fn:=Tryz.f48) hmix Zbs_env Tryz.func48 rfl (by kernel_rfl) (by kernel_rfl) done_nil (by kernel_rfl) (by kernel_rfl) Zbs_eq
def Zav (a0:ApiCredential):Option ((Unit) × (Int × Unit)):=
 ((Zbs ((a0.rP).length:Int) (1:Int) (64:Int)).bind fun r1=>(bif (!r1.2.1) then (bif (!r1.2.1) then (some ((),((9:Int),())))
 else ((Zcr a0.rP).bind fun r2=>(bif (!r2.2.1) then (bif (!r2.2.1) then (some ((),((6:Int),())))
 else (bif a0.shared then (bif (!a0.resident) then (bif (!a0.resident) then (some ((),((18:Int),())))
 else (some ((),((0:Int),()))))
 else (bif a0.backed then (bif (!a0.shared) then (some ((),((18:Int),())))
 else (some ((),((0:Int),()))))
 else (some ((),((0:Int),())))))
 else (bif a0.backed then (bif (!a0.shared) then (some ((),((18:Int),())))
 else (some ((),((0:Int),()))))
 else (some ((),((0:Int),()))))))
 else ((Zcr a0.name).bind fun r3=>(bif (!r3.2.1) then (some ((),((6:Int),())))
 else (bif a0.shared then (bif (!a0.resident) then (bif (!a0.resident) then (some ((),((18:Int),())))
 else (some ((),((0:Int),()))))
 else (bif a0.backed then (bif (!a0.shared) then (some ((),((18:Int),())))
 else (some ((),((0:Int),()))))
 else (some ((),((0:Int),())))))
 else (bif a0.backed then (bif (!a0.shared) then (some ((),((18:Int),())))
 else (some ((),((0:Int),()))))
 else (some ((),((0:Int),()))))))))))
 else ((Zbs ((a0.user).length:Int) (1:Int) (16:Int)).bind fun r4=>(bif (!r4.2.1) then (bif (!r4.2.1) then (some ((),((9:Int),())))
 else ((Zcr a0.rP).bind fun r5=>(bif (!r5.2.1) then (bif (!r5.2.1) then (some ((),((6:Int),())))
 else (bif a0.shared then (bif (!a0.resident) then (bif (!a0.resident) then (some ((),((18:Int),())))
 else (some ((),((0:Int),()))))
 else (bif a0.backed then (bif (!a0.shared) then (some ((),((18:Int),())))
 else (some ((),((0:Int),()))))
 else (some ((),((0:Int),())))))
 else (bif a0.backed then (bif (!a0.shared) then (some ((),((18:Int),())))
 else (some ((),((0:Int),()))))
 else (some ((),((0:Int),()))))))
 else ((Zcr a0.name).bind fun r6=>(bif (!r6.2.1) then (some ((),((6:Int),())))
 else (bif a0.shared then (bif (!a0.resident) then (bif (!a0.resident) then (some ((),((18:Int),())))
 else (some ((),((0:Int),()))))
 else (bif a0.backed then (bif (!a0.shared) then (some ((),((18:Int),())))
 else (some ((),((0:Int),()))))
 else (some ((),((0:Int),())))))
 else (bif a0.backed then (bif (!a0.shared) then (some ((),((18:Int),())))
 else (some ((),((0:Int),()))))
 else (some ((),((0:Int),()))))))))))
 else (bif (decide ((32:Int) < ((a0.name).length:Int))) then (bif (decide ((32:Int) < ((a0.name).length:Int))) then (some ((),((9:Int),())))
 else ((Zcr a0.rP).bind fun r7=>(bif (!r7.2.1) then (bif (!r7.2.1) then (some ((),((6:Int),())))
 else (bif a0.shared then (bif (!a0.resident) then (bif (!a0.resident) then (some ((),((18:Int),())))
 else (some ((),((0:Int),()))))
 else (bif a0.backed then (bif (!a0.shared) then (some ((),((18:Int),())))
 else (some ((),((0:Int),()))))
 else (some ((),((0:Int),())))))
 else (bif a0.backed then (bif (!a0.shared) then (some ((),((18:Int),())))
 else (some ((),((0:Int),()))))
 else (some ((),((0:Int),()))))))
 else ((Zcr a0.name).bind fun r8=>(bif (!r8.2.1) then (some ((),((6:Int),())))
 else (bif a0.shared then (bif (!a0.resident) then (bif (!a0.resident) then (some ((),((18:Int),())))
 else (some ((),((0:Int),()))))
 else (bif a0.backed then (bif (!a0.shared) then (some ((),((18:Int),())))
 else (some ((),((0:Int),()))))
 else (some ((),((0:Int),())))))
 else (bif a0.backed then (bif (!a0.shared) then (some ((),((18:Int),())))
 else (some ((),((0:Int),()))))
 else (some ((),((0:Int),()))))))))))
 else ((Zbs a0.height (1:Int) (4:Int)).bind fun r9=>(bif (!r9.2.1) then (bif (!r9.2.1) then (some ((),((9:Int),())))
 else ((Zcr a0.rP).bind fun r10=>(bif (!r10.2.1) then (bif (!r10.2.1) then (some ((),((6:Int),())))
 else (bif a0.shared then (bif (!a0.resident) then (bif (!a0.resident) then (some ((),((18:Int),())))
 else (some ((),((0:Int),()))))
 else (bif a0.backed then (bif (!a0.shared) then (some ((),((18:Int),())))
 else (some ((),((0:Int),()))))
 else (some ((),((0:Int),())))))
 else (bif a0.backed then (bif (!a0.shared) then (some ((),((18:Int),())))
 else (some ((),((0:Int),()))))
 else (some ((),((0:Int),()))))))
 else ((Zcr a0.name).bind fun r11=>(bif (!r11.2.1) then (some ((),((6:Int),())))
 else (bif a0.shared then (bif (!a0.resident) then (bif (!a0.resident) then (some ((),((18:Int),())))
 else (some ((),((0:Int),()))))
 else (bif a0.backed then (bif (!a0.shared) then (some ((),((18:Int),())))
 else (some ((),((0:Int),()))))
 else (some ((),((0:Int),())))))
 else (bif a0.backed then (bif (!a0.shared) then (some ((),((18:Int),())))
 else (some ((),((0:Int),()))))
 else (some ((),((0:Int),()))))))))))
 else ((Zbs a0.protect (1:Int) (3:Int)).bind fun r12=>(bif (!r12.2.1) then (some ((),((9:Int),())))
 else ((Zcr a0.rP).bind fun r13=>(bif (!r13.2.1) then (bif (!r13.2.1) then (some ((),((6:Int),())))
 else (bif a0.shared then (bif (!a0.resident) then (bif (!a0.resident) then (some ((),((18:Int),())))
 else (some ((),((0:Int),()))))
 else (bif a0.backed then (bif (!a0.shared) then (some ((),((18:Int),())))
 else (some ((),((0:Int),()))))
 else (some ((),((0:Int),())))))
 else (bif a0.backed then (bif (!a0.shared) then (some ((),((18:Int),())))
 else (some ((),((0:Int),()))))
 else (some ((),((0:Int),()))))))
 else ((Zcr a0.name).bind fun r14=>(bif (!r14.2.1) then (some ((),((6:Int),())))
 else (bif a0.shared then (bif (!a0.resident) then (bif (!a0.resident) then (some ((),((18:Int),())))
 else (some ((),((0:Int),()))))
 else (bif a0.backed then (bif (!a0.shared) then (some ((),((18:Int),())))
 else (some ((),((0:Int),()))))
 else (some ((),((0:Int),())))))
 else (bif a0.backed then (bif (!a0.shared) then (some ((),((18:Int),())))
 else (some ((),((0:Int),()))))
 else (some ((),((0:Int),()))))))))))))))))))
def S_Zav:FSpec T:=⟨[.f (.v (.agg 2))],[(.v (.int .i64))],fun x=>Zav x.1⟩
def E_Zav:Env T:=⟨tab.find,cd,globs,flc,fun f ds=>match f with
    | 48=>some S_Zbs
    | 49=>some S_Zcr
    | _=>none,fun f=>match f with
    | 48=>true
    | 49=>true
    | _=>false⟩
def A_Zav:Loc2 T:=⟨fun id=>match id with
    | _=>none,fun r=>match r with
    | _=>none,fun r=>match r with
    | _=>false⟩
theorem Zav_eq (x:tySs T S_Zav.ps):run E_Zav A_Zav (Tryz.f14.body.getD .skip) (enterT E_Zav.C S_Zav.ps x) (retK E_Zav Tryz.f14.results.toList S_Zav.ps S_Zav.rs)=S_Zav.fn x:=by kernel_rfl
theorem Zav_env:EnvOk Tryz.prog E_Zav:=envOk (E:=E_Zav) cd_ok tys fl_ok fun f ds S h=>by
    dsimp only [E_Zav] at h
    split at h
    · cases h; exact Zbs_ok
    · cases h; exact Zcr_ok
    · cases h
theorem Zav_ok:SoundT Tryz.prog cd gdn 14 S_Zav:=
  sound_fn (E:=E_Zav) (A:=A_Zav) (done:=[]) (c:=(Tryz.f14.body.getD .skip)) (S:=S_Zav) (fn:=Tryz.f14) hmix Zav_env Tryz.func14 rfl (by kernel_rfl) (by kernel_rfl) done_nil (by kernel_rfl) (by kernel_rfl) Zav_eq
def Zeg (a0:(List UInt8)):Option ((Unit) × ((List (ApiItem)) × Unit)):=
 (some ((),(([(⟨(4:Int),0#64,a0⟩:ApiItem)]:List (ApiItem)),())))
def S_Zeg:FSpec T:=⟨[.f (.v .str)],[(.own 1)],fun x=>Zeg x.1⟩
def E_Zeg:Env T:=⟨tab.find,cd,globs,flc,fun f ds=>match f with
    | _=>none,fun f=>match f with
    | _=>false⟩
def A_Zeg:Loc2 T:=⟨fun id=>match id with
    | _=>none,fun r=>match r with
    | _=>none,fun r=>match r with
    | _=>false⟩
theorem Zeg_eq (x:tySs T S_Zeg.ps):run E_Zeg A_Zeg (Tryz.f38.body.getD .skip) (enterT E_Zeg.C S_Zeg.ps x) (retK E_Zeg Tryz.f38.results.toList S_Zeg.ps S_Zeg.rs)=S_Zeg.fn x:=by kernel_rfl
theorem Zeg_env:EnvOk Tryz.prog E_Zeg:=envOk (E:=E_Zeg) cd_ok tys fl_ok fun f ds S h=>by cases h
theorem Zeg_ok:SoundT Tryz.prog cd gdn 38 S_Zeg:=
  sound_fn (E:=E_Zeg) (A:=A_Zeg) (done:=[]) (c:=(Tryz.f38.body.getD .skip)) (S:=S_Zeg) (fn:=Tryz.f38) hmix Zeg_env Tryz.func38 rfl (by kernel_rfl) (by kernel_rfl) done_nil (by kernel_rfl) (by kernel_rfl) Zeg_eq
def Zea (a0:(List (UInt8))):Option ((Unit) × ((List (ApiItem)) × Unit)):=
 (some ((),(([(⟨(3:Int),0#64,a0⟩:ApiItem)]:List (ApiItem)),())))
def S_Zea:FSpec T:=⟨[.f (.v (.rs 0))],[(.own 1)],fun x=>Zea x.1⟩
def E_Zea:Env T:=⟨tab.find,cd,globs,flc,fun f ds=>match f with
    | _=>none,fun f=>match f with
    | _=>false⟩
def A_Zea:Loc2 T:=⟨fun id=>match id with
    | _=>none,fun r=>match r with
    | _=>none,fun r=>match r with
    | _=>false⟩
theorem Zea_eq (x:tySs T S_Zea.ps):run E_Zea A_Zea (Tryz.f39.body.getD .skip) (enterT E_Zea.C S_Zea.ps x) (retK E_Zea Tryz.f39.results.toList S_Zea.ps S_Zea.rs)=S_Zea.fn x:=by kernel_rfl
theorem Zea_env:EnvOk Tryz.prog E_Zea:=envOk (E:=E_Zea) cd_ok tys fl_ok fun f ds S h=>by cases h
theorem Zea_ok:SoundT Tryz.prog cd gdn 39 S_Zea:=
  sound_fn (E:=E_Zea) (A:=A_Zea) (done:=[]) (c:=(Tryz.f39.body.getD .skip)) (S:=S_Zea) (fn:=Tryz.f39) hmix Zea_env Tryz.func39 rfl (by kernel_rfl) (by kernel_rfl) done_nil (by kernel_rfl) (by kernel_rfl) Zea_eq
def Zeh (a0:(BitVec 64)):Option ((Unit) × ((List (ApiItem)) × Unit)):=
 (let v1:List (ApiItem):=([(⟨(1:Int),a0,([]:List UInt8)⟩:ApiItem)]:List (ApiItem))
 (some ((),(v1,()))))
def S_Zeh:FSpec T:=⟨[.f (.v .u64)],[(.own 1)],fun x=>Zeh x.1⟩
def E_Zeh:Env T:=⟨tab.find,cd,globs,flc,fun f ds=>match f with
    | _=>none,fun f=>match f with
    | _=>false⟩
def A_Zeh:Loc2 T:=⟨fun id=>match id with
    | _=>none,fun r=>match r with
    | _=>none,fun r=>match r with
    | _=>false⟩
theorem Zeh_eq (x:tySs T S_Zeh.ps):run E_Zeh A_Zeh (Tryz.f40.body.getD .skip) (enterT E_Zeh.C S_Zeh.ps x) (retK E_Zeh Tryz.f40.results.toList S_Zeh.ps S_Zeh.rs)=S_Zeh.fn x:=by kernel_rfl
theorem Zeh_env:EnvOk Tryz.prog E_Zeh:=envOk (E:=E_Zeh) cd_ok tys fl_ok fun f ds S h=>by cases h
theorem Zeh_ok:SoundT Tryz.prog cd gdn 40 S_Zeh:=
  sound_fn (E:=E_Zeh) (A:=A_Zeh) (done:=[]) (c:=(Tryz.f40.body.getD .skip)) (S:=S_Zeh) (fn:=Tryz.f40) hmix Zeh_env Tryz.func40 rfl (by kernel_rfl) (by kernel_rfl) done_nil (by kernel_rfl) (by kernel_rfl) Zeh_eq
def Zef (a0:Bool):Option ((Unit) × ((List (ApiItem)) × Unit)):=
 (bif a0 then (let v1:List (ApiItem):=([(⟨(7:Int),1#64,([]:List UInt8)⟩:ApiItem)]:List (ApiItem))
 (some ((),(v1,()))))
 else (let v2:List (ApiItem):=([(⟨(7:Int),0#64,([]:List UInt8)⟩:ApiItem)]:List (ApiItem))
 (some ((),(v2,())))))
def S_Zef:FSpec T:=⟨[.f (.v .bool)],[(.own 1)],fun x=>Zef x.1⟩
def E_Zef:Env T:=⟨tab.find,cd,globs,flc,fun f ds=>match f with
    | _=>none,fun f=>match f with
    | _=>false⟩
def A_Zef:Loc2 T:=⟨fun id=>match id with
    | _=>none,fun r=>match r with
    | _=>none,fun r=>match r with
    | _=>false⟩
theorem Zef_eq (x:tySs T S_Zef.ps):run E_Zef A_Zef (Tryz.f41.body.getD .skip) (enterT E_Zef.C S_Zef.ps x) (retK E_Zef Tryz.f41.results.toList S_Zef.ps S_Zef.rs)=S_Zef.fn x:=by kernel_rfl
theorem Zef_env:EnvOk Tryz.prog E_Zef:=envOk (E:=E_Zef) cd_ok tys fl_ok fun f ds S h=>by cases h
theorem Zef_ok:SoundT Tryz.prog cd gdn 41 S_Zef:=
  sound_fn (E:=E_Zef) (A:=A_Zef) (done:=[]) (c:=(Tryz.f41.body.getD .skip)) (S:=S_Zef) (fn:=Tryz.f41) hmix Zef_env Tryz.func41 rfl (by kernel_rfl) (by kernel_rfl) done_nil (by kernel_rfl) (by kernel_rfl) Zef_eq
def Zcx (a0:(BitVec 64)):Option ((Unit) × (Int × Unit)):=
 ((bif (decide ((4294967296#64).toNat ≤ a0.toNat)) then (some ((a0 >>> 32),(32:Int),()))
 else (some (a0,(0:Int),()))).bind (fun (j1:((BitVec 64) × Int × Unit))=>((bif (decide ((65536#64).toNat ≤ j1.1.toNat)) then (some ((j1.1 >>> 16),(IntKind.wrap .i64 (j1.2.1 + (16:Int))),()))
 else (some (j1.1,j1.2.1,()))).bind (fun (j2:((BitVec 64) × Int × Unit))=>(bif (decide ((256#64).toNat ≤ j2.1.toNat)) then (((([0,1,2,2,3,3,3,3,4,4,4,4,4,4,4,4,5,5,5,5,5,5,5,5,5,5,5,5,5,5,5,5,6,6,6,6,6,6,6,6,6,6,6,6,6,6,6,6,6,6,6,6,6,6,6,6,6,6,6,6,6,6,6,6,7,7,7,7,7,7,7,7,7,7,7,7,7,7,7,7,7,7,7,7,7,7,7,7,7,7,7,7,7,7,7,7,7,7,7,7,7,7,7,7,7,7,7,7,7,7,7,7,7,7,7,7,7,7,7,7,7,7,7,7,7,7,7,7,8,8,8,8,8,8,8,8,8,8,8,8,8,8,8,8,8,8,8,8,8,8,8,8,8,8,8,8,8,8,8,8,8,8,8,8,8,8,8,8,8,8,8,8,8,8,8,8,8,8,8,8,8,8,8,8,8,8,8,8,8,8,8,8,8,8,8,8,8,8,8,8,8,8,8,8,8,8,8,8,8,8,8,8,8,8,8,8,8,8,8,8,8,8,8,8,8,8,8,8,8,8,8,8,8,8,8,8,8,8,8,8,8,8,8,8,8,8,8,8,8,8,8,8,8,8,8,8]:List UInt8))[(UInt8.ofBitVec (BitVec.setWidth 8 (j2.1 >>> 8))).toNat]?).bind fun x3=>(let v4:Int:=(IntKind.wrap .i64 ((IntKind.wrap .i64 (j2.2.1 + (8:Int))) + (x3.toBitVec.toNat:Int)))
 (some ((),(v4,())))))
 else (((([0,1,2,2,3,3,3,3,4,4,4,4,4,4,4,4,5,5,5,5,5,5,5,5,5,5,5,5,5,5,5,5,6,6,6,6,6,6,6,6,6,6,6,6,6,6,6,6,6,6,6,6,6,6,6,6,6,6,6,6,6,6,6,6,7,7,7,7,7,7,7,7,7,7,7,7,7,7,7,7,7,7,7,7,7,7,7,7,7,7,7,7,7,7,7,7,7,7,7,7,7,7,7,7,7,7,7,7,7,7,7,7,7,7,7,7,7,7,7,7,7,7,7,7,7,7,7,7,8,8,8,8,8,8,8,8,8,8,8,8,8,8,8,8,8,8,8,8,8,8,8,8,8,8,8,8,8,8,8,8,8,8,8,8,8,8,8,8,8,8,8,8,8,8,8,8,8,8,8,8,8,8,8,8,8,8,8,8,8,8,8,8,8,8,8,8,8,8,8,8,8,8,8,8,8,8,8,8,8,8,8,8,8,8,8,8,8,8,8,8,8,8,8,8,8,8,8,8,8,8,8,8,8,8,8,8,8,8,8,8,8,8,8,8,8,8,8,8,8,8,8,8,8,8,8,8]:List UInt8))[(UInt8.ofBitVec (BitVec.setWidth 8 j2.1)).toNat]?).bind fun x5=>(some ((),((IntKind.wrap .i64 (j2.2.1 + (x5.toBitVec.toNat:Int))),())))))))))
def S_Zcx:FSpec T:=⟨[.f (.v .u64)],[(.v (.int .i64))],fun x=>Zcx x.1⟩
def E_Zcx:Env T:=⟨tab.find,cd,globs,flc,fun f ds=>match f with
    | _=>none,fun f=>match f with
    | _=>false⟩
def A_Zcx:Loc2 T:=⟨fun id=>match id with
    | _=>none,fun r=>match r with
    | 4=>some ([(0,.f (.v .u64)),(2,.f (.v (.int .i64)))],true)
    | 7=>some ([(0,.f (.v .u64)),(2,.f (.v (.int .i64)))],true)
    | _=>none,fun r=>match r with
    | _=>false⟩
theorem Zcx_eq (x:tySs T S_Zcx.ps):run E_Zcx A_Zcx (Tryz.f145.body.getD .skip) (enterT E_Zcx.C S_Zcx.ps x) (retK E_Zcx Tryz.f145.results.toList S_Zcx.ps S_Zcx.rs)=S_Zcx.fn x:=by kernel_rfl
theorem Zcx_env:EnvOk Tryz.prog E_Zcx:=envOk (E:=E_Zcx) cd_ok tys fl_ok fun f ds S h=>by cases h
theorem Zcx_ok:SoundT Tryz.prog cd gdn 145 S_Zcx:=
  sound_fn (E:=E_Zcx) (A:=A_Zcx) (done:=[]) (c:=(Tryz.f145.body.getD .skip)) (S:=S_Zcx) (fn:=Tryz.f145) hmix Zcx_env Tryz.func145 rfl (by kernel_rfl) (by kernel_rfl) done_nil (by kernel_rfl) (by kernel_rfl) Zcx_eq
def Zdm (a0:(BitVec 64)):Option ((Unit) × (Int × Unit)):=
 ((Zcx a0).bind fun r1=>(some ((),(r1.2.1,()))))
def S_Zdm:FSpec T:=⟨[.f (.v .u64)],[(.v (.int .i64))],fun x=>Zdm x.1⟩
def E_Zdm:Env T:=⟨tab.find,cd,globs,flc,fun f ds=>match f with
    | 145=>some S_Zcx
    | _=>none,fun f=>match f with
    | 145=>true
    | _=>false⟩
def A_Zdm:Loc2 T:=⟨fun id=>match id with
    | _=>none,fun r=>match r with
    | _=>none,fun r=>match r with
    | _=>false⟩
theorem Zdm_eq (x:tySs T S_Zdm.ps):run E_Zdm A_Zdm (Tryz.f108.body.getD .skip) (enterT E_Zdm.C S_Zdm.ps x) (retK E_Zdm Tryz.f108.results.toList S_Zdm.ps S_Zdm.rs)=S_Zdm.fn x:=by kernel_rfl
theorem Zdm_env:EnvOk Tryz.prog E_Zdm:=envOk (E:=E_Zdm) cd_ok tys fl_ok fun f ds S h=>by
    dsimp only [E_Zdm] at h
    split at h
    · cases h; exact Zcx_ok
    · cases h
theorem Zdm_ok:SoundT Tryz.prog cd gdn 108 S_Zdm:=
  sound_fn (E:=E_Zdm) (A:=A_Zdm) (done:=[]) (c:=(Tryz.f108.body.getD .skip)) (S:=S_Zdm) (fn:=Tryz.f108) hmix Zdm_env Tryz.func108 rfl (by kernel_rfl) (by kernel_rfl) done_nil (by kernel_rfl) (by kernel_rfl) Zdm_eq
def Zce (a0:(BitVec 64)):Option ((Unit) × (Bool × Unit)):=
 (some ((),((!decide (a0=a0)),())))
def S_Zce:FSpec T:=⟨[.f (.v .u64)],[(.v .bool)],fun x=>Zce x.1⟩
def E_Zce:Env T:=⟨tab.find,cd,globs,flc,fun f ds=>match f with
    | _=>none,fun f=>match f with
    | _=>false⟩
def A_Zce:Loc2 T:=⟨fun id=>match id with
    | _=>none,fun r=>match r with
    | _=>none,fun r=>match r with
    | _=>false⟩
theorem Zce_eq (x:tySs T S_Zce.ps):run E_Zce A_Zce (Tryz.f109.body.getD .skip) (enterT E_Zce.C S_Zce.ps x) (retK E_Zce Tryz.f109.results.toList S_Zce.ps S_Zce.rs)=S_Zce.fn x:=by kernel_rfl
theorem Zce_env:EnvOk Tryz.prog E_Zce:=envOk (E:=E_Zce) cd_ok tys fl_ok fun f ds S h=>by cases h
theorem Zce_ok:SoundT Tryz.prog cd gdn 109 S_Zce:=
  sound_fn (E:=E_Zce) (A:=A_Zce) (done:=[]) (c:=(Tryz.f109.body.getD .skip)) (S:=S_Zce) (fn:=Tryz.f109) hmix Zce_env Tryz.func109 rfl (by kernel_rfl) (by kernel_rfl) done_nil (by kernel_rfl) (by kernel_rfl) Zce_eq
def Zbe (a0:(BitVec 64)) (a1:(BitVec 64)):Option ((Unit) × (Int × Unit)):=
 ((Zce a0).bind fun r1=>((Zce a1).bind fun r2=>(bif r1.2.1 then (bif r2.2.1 then (some ((),((0:Int),())))
 else (some ((),((-1:Int),()))))
 else (bif r2.2.1 then (some ((),((1:Int),())))
 else (bif (decide (a0.toNat < a1.toNat)) then (some ((),((-1:Int),())))
 else (bif (decide (a1.toNat < a0.toNat)) then (some ((),((1:Int),())))
 else (some ((),((0:Int),())))))))))
def S_Zbe:FSpec T:=⟨[.f (.v .u64),.f (.v .u64)],[(.v (.int .i64))],fun x=>Zbe x.1 x.2.1⟩
def E_Zbe:Env T:=⟨tab.find,cd,globs,flc,fun f ds=>match f with
    | 109=>some S_Zce
    | _=>none,fun f=>match f with
    | 109=>true
    | _=>false⟩
def A_Zbe:Loc2 T:=⟨fun id=>match id with
    | _=>none,fun r=>match r with
    | _=>none,fun r=>match r with
    | _=>false⟩
theorem Zbe_eq (x:tySs T S_Zbe.ps):run E_Zbe A_Zbe (Tryz.f75.body.getD .skip) (enterT E_Zbe.C S_Zbe.ps x) (retK E_Zbe Tryz.f75.results.toList S_Zbe.ps S_Zbe.rs)=S_Zbe.fn x:=by kernel_rfl
theorem Zbe_env:EnvOk Tryz.prog E_Zbe:=envOk (E:=E_Zbe) cd_ok tys fl_ok fun f ds S h=>by
    dsimp only [E_Zbe] at h
    split at h
    · cases h; exact Zce_ok
    · cases h
theorem Zbe_ok:SoundT Tryz.prog cd gdn 75 S_Zbe:=
  sound_fn (E:=E_Zbe) (A:=A_Zbe) (done:=[]) (c:=(Tryz.f75.body.getD .skip)) (S:=S_Zbe) (fn:=Tryz.f75) hmix Zbe_env Tryz.func75 rfl (by kernel_rfl) (by kernel_rfl) done_nil (by kernel_rfl) (by kernel_rfl) Zbe_eq
def Zeb (a0:Int) (a1:Int) (a2:(List (BitVec 64))):Option ((Unit) × (Int × Unit)):=
 ((getI a2 a0).bind fun x1=>((getI a2 a1).bind fun x2=>((Zbe x1 x2).bind fun r3=>(some ((),(r3.2.1,()))))))
def S_Zeb:FSpec T:=⟨[.f (.v (.int .i64)),.f (.v (.int .i64)),.f (.v (.ref (.rs 3)))],[(.v (.int .i64))],fun x=>Zeb x.1 x.2.1 x.2.2.1⟩
def E_Zeb:Env T:=⟨tab.find,cd,globs,flc,fun f ds=>match f with
    | 75=>some S_Zbe
    | _=>none,fun f=>match f with
    | 75=>true
    | _=>false⟩
def A_Zeb:Loc2 T:=⟨fun id=>match id with
    | _=>none,fun r=>match r with
    | _=>none,fun r=>match r with
    | _=>false⟩
theorem Zeb_eq (x:tySs T S_Zeb.ps):run E_Zeb A_Zeb (Tryz.f74.body.getD .skip) (enterT E_Zeb.C S_Zeb.ps x) (retK E_Zeb Tryz.f74.results.toList S_Zeb.ps S_Zeb.rs)=S_Zeb.fn x:=by kernel_rfl
theorem Zeb_env:EnvOk Tryz.prog E_Zeb:=envOk (E:=E_Zeb) cd_ok tys fl_ok fun f ds S h=>by
    dsimp only [E_Zeb] at h
    split at h
    · cases h; exact Zbe_ok
    · cases h
theorem Zeb_ok:SoundT Tryz.prog cd gdn 74 S_Zeb:=
  sound_fn (E:=E_Zeb) (A:=A_Zeb) (done:=[]) (c:=(Tryz.f74.body.getD .skip)) (S:=S_Zeb) (fn:=Tryz.f74) hmix Zeb_env Tryz.func74 rfl (by kernel_rfl) (by kernel_rfl) done_nil (by kernel_rfl) (by kernel_rfl) Zeb_eq
def Zab_L2b (y0:(List (Int))) (y1:Int) (y2:Int) (y3:((List (BitVec 64)) × Unit)) (y4:Int) (y5:Int):Option (((List (Int)) × Int × Int × ((List (BitVec 64)) × Unit) × Int × Int × Unit) ⊕ ((List (Int)) × Int × Int × ((List (BitVec 64)) × Unit) × Int × Unit)):=
 (bif (decide (y1 < y5)) then (bif (decide ((0:Int) ≤ y5) && decide (y5 < ((y0).length:Int))) then (((y0)[(y5).toNat]?).bind fun x1=>(bif (decide ((0:Int) ≤ (IntKind.wrap .i64 (y5 - (1:Int)))) && decide ((IntKind.wrap .i64 (y5 - (1:Int))) < ((y0).length:Int))) then (((y0)[((IntKind.wrap .i64 (y5 - (1:Int)))).toNat]?).bind fun x2=>((Zeb x1 x2 y3.1).bind fun r3=>(bif (decide (r3.2.1 < (0:Int))) then (bif (decide ((0:Int) ≤ (IntKind.wrap .i64 (y5 - (1:Int)))) && decide ((IntKind.wrap .i64 (y5 - (1:Int))) < ((y0).length:Int))) then (((y0)[((IntKind.wrap .i64 (y5 - (1:Int)))).toNat]?).bind fun x4=>(bif (decide ((0:Int) ≤ y5) && decide (y5 < ((y0).length:Int))) then (((y0)[(y5).toNat]?).bind fun x5=>(bif (decide ((0:Int) ≤ y5) && decide (y5 < ((y0).length:Int))) then (((y0)[(y5).toNat]?).bind fun x6=>(bif (decide ((0:Int) ≤ (IntKind.wrap .i64 (y5 - (1:Int)))) && decide ((IntKind.wrap .i64 (y5 - (1:Int))) < ((y0).length:Int))) then ((((List.set y0 (y5).toNat x4))[((IntKind.wrap .i64 (y5 - (1:Int)))).toNat]?).bind fun x7=>(let v8:List (Int):=(List.set (List.set y0 (y5).toNat x4) ((IntKind.wrap .i64 (y5 - (1:Int)))).toNat x5)
 (some (Sum.inl (v8,y1,y2,(y3.1,()),y4,(IntKind.wrap .i64 (y5 - (1:Int))),())))))
 else none))
 else none))
 else none))
 else none)
 else (some (Sum.inr (y0,y1,y2,(y3.1,()),y4,()))))))
 else none))
 else none)
 else (some (Sum.inr (y0,y1,y2,(y3.1,()),y4,()))))
def Zab_L2 (y:((List (Int)) × Int × Int × ((List (BitVec 64)) × Unit) × Int × Int × Unit)):Option ((List (Int)) × Int × Int × ((List (BitVec 64)) × Unit) × Int × Unit):=iter (fun (y:((List (Int)) × Int × Int × ((List (BitVec 64)) × Unit) × Int × Int × Unit))=>Zab_L2b y.1 y.2.1 y.2.2.1 y.2.2.2.1 y.2.2.2.2.1 y.2.2.2.2.2.1) rounds y
def Zab_L0b (y0:(List (Int))) (y1:Int) (y2:Int) (y3:((List (BitVec 64)) × Unit)) (y4:Int):Option (((List (Int)) × Int × Int × ((List (BitVec 64)) × Unit) × Int × Unit) ⊕ ((List (Int)) × Unit)):=
 (bif (decide (y4 < y2)) then ((Zab_L2 (y0,y1,y2,(y3.1,()),y4,y4,())).bind (fun (z1:((List (Int)) × Int × Int × ((List (BitVec 64)) × Unit) × Int × Unit))=>(some (Sum.inl (z1.1,z1.2.1,z1.2.2.1,(z1.2.2.2.1.1,()),(IntKind.wrap .i64 (z1.2.2.2.2.1 + (1:Int))),())))))
 else (some (Sum.inr (y0,()))))
def Zab_L0 (y:((List (Int)) × Int × Int × ((List (BitVec 64)) × Unit) × Int × Unit)):Option ((List (Int)) × Unit):=iter (fun (y:((List (Int)) × Int × Int × ((List (BitVec 64)) × Unit) × Int × Unit))=>Zab_L0b y.1 y.2.1 y.2.2.1 y.2.2.2.1 y.2.2.2.2.1) rounds y
def Zab (a0:(List (Int))) (a1:Int) (a2:Int) (a3:((List (BitVec 64)) × Unit)):Option (((List (Int)) × Unit) × (Unit)):=
 ((Zab_L0 (a0,a1,a2,(a3.1,()),(IntKind.wrap .i64 (a1 + (1:Int))),())).bind (fun (z2:((List (Int)) × Unit))=>(some ((z2.1,()),()))))
def S_Zab:FSpec T:=⟨[.inp 5,.f (.v (.int .i64)),.f (.v (.int .i64)),.f (.v (.fn 74 (.cons (.ref (.rs 3)) .nil)))],[],fun x=>Zab x.1 x.2.1 x.2.2.1 x.2.2.2.1⟩
def E_Zab:Env T:=⟨tab.find,cd,globs,flc,fun f ds=>match f with
    | 74=>some S_Zeb
    | _=>none,fun f=>match f with
    | 74=>true
    | _=>false⟩
def A_Zab:Loc2 T:=⟨fun id=>match id with
    | 2=>some ⟨[(0,.f (.own 5)),(1,.f (.v (.int .i64))),(2,.f (.v (.int .i64))),(3,.f (.v (.fn 74 (.cons (.ref (.rs 3)) .nil)))),(8,.f (.v (.int .i64))),(9,.f (.v (.int .i64)))],[(.exit 2,[(0,.f (.own 5)),(1,.f (.v (.int .i64))),(2,.f (.v (.int .i64))),(3,.f (.v (.fn 74 (.cons (.ref (.rs 3)) .nil)))),(8,.f (.v (.int .i64)))])],Zab_L2,[]⟩
    | 0=>some ⟨[(0,.f (.own 5)),(1,.f (.v (.int .i64))),(2,.f (.v (.int .i64))),(3,.f (.v (.fn 74 (.cons (.ref (.rs 3)) .nil)))),(8,.f (.v (.int .i64)))],[(.exit 0,[(0,.f (.own 5))])],Zab_L0,[]⟩
    | _=>none,fun r=>match r with
    | _=>none,fun r=>match r with
    | _=>false⟩
theorem Zab_L2_eq (y0:(List (Int))) (y1:Int) (y2:Int) (y3:((List (BitVec 64)) × Unit)) (y4:Int) (y5:Int):run E_Zab A_Zab (loopAt 2 (Tryz.f136.body.getD .skip)) (layC cd [(0,.f (.own 5)),(1,.f (.v (.int .i64))),(2,.f (.v (.int .i64))),(3,.f (.v (.fn 74 (.cons (.ref (.rs 3)) .nil)))),(8,.f (.v (.int .i64))),(9,.f (.v (.int .i64)))] [] (y0,y1,y2,y3,y4,y5,())) (roundK cd [(0,.f (.own 5)),(1,.f (.v (.int .i64))),(2,.f (.v (.int .i64))),(3,.f (.v (.fn 74 (.cons (.ref (.rs 3)) .nil)))),(8,.f (.v (.int .i64))),(9,.f (.v (.int .i64)))] [] [(.exit 2,[(0,.f (.own 5)),(1,.f (.v (.int .i64))),(2,.f (.v (.int .i64))),(3,.f (.v (.fn 74 (.cons (.ref (.rs 3)) .nil)))),(8,.f (.v (.int .i64)))])])=Zab_L2b y0 y1 y2 y3 y4 y5:=by kernel_rfl
theorem Zab_L0_eq (y0:(List (Int))) (y1:Int) (y2:Int) (y3:((List (BitVec 64)) × Unit)) (y4:Int):run E_Zab A_Zab (loopAt 0 (Tryz.f136.body.getD .skip)) (layC cd [(0,.f (.own 5)),(1,.f (.v (.int .i64))),(2,.f (.v (.int .i64))),(3,.f (.v (.fn 74 (.cons (.ref (.rs 3)) .nil)))),(8,.f (.v (.int .i64)))] [] (y0,y1,y2,y3,y4,())) (roundK cd [(0,.f (.own 5)),(1,.f (.v (.int .i64))),(2,.f (.v (.int .i64))),(3,.f (.v (.fn 74 (.cons (.ref (.rs 3)) .nil)))),(8,.f (.v (.int .i64)))] [] [(.exit 0,[(0,.f (.own 5))])])=Zab_L0b y0 y1 y2 y3 y4:=by kernel_rfl
theorem Zab_eq (x:tySs T S_Zab.ps):run E_Zab A_Zab (Tryz.f136.body.getD .skip) (enterT E_Zab.C S_Zab.ps x) (retK E_Zab Tryz.f136.results.toList S_Zab.ps S_Zab.rs)=S_Zab.fn x:=by kernel_rfl
theorem Zab_env:EnvOk Tryz.prog E_Zab:=envOk (E:=E_Zab) cd_ok tys fl_ok fun f ds S h=>by
    dsimp only [E_Zab] at h
    split at h
    · cases h; exact Zeb_ok
    · cases h
theorem Zab_L2_ok:LoopOk Tryz.prog E_Zab Tryz.f136.ntmps (kqOf S_Zab.ps 0) (loopAt 2 (Tryz.f136.body.getD .skip)) ⟨[(0,.f (.own 5)),(1,.f (.v (.int .i64))),(2,.f (.v (.int .i64))),(3,.f (.v (.fn 74 (.cons (.ref (.rs 3)) .nil)))),(8,.f (.v (.int .i64))),(9,.f (.v (.int .i64)))],[(.exit 2,[(0,.f (.own 5)),(1,.f (.v (.int .i64))),(2,.f (.v (.int .i64))),(3,.f (.v (.fn 74 (.cons (.ref (.rs 3)) .nil)))),(8,.f (.v (.int .i64)))])],Zab_L2,[]⟩:=
  loop_ok (A:=A_Zab) (done:=[]) (c0:=(Tryz.f136.body.getD .skip)) hmix Zab_env done_nil rounds (by kernel_rfl) (by kernel_rfl) (fun x=>Zab_L2_eq x.1 x.2.1 x.2.2.1 x.2.2.2.1 x.2.2.2.2.1 x.2.2.2.2.2.1) (fun _=>rfl)
theorem Zab_L0_ok:LoopOk Tryz.prog E_Zab Tryz.f136.ntmps (kqOf S_Zab.ps 0) (loopAt 0 (Tryz.f136.body.getD .skip)) ⟨[(0,.f (.own 5)),(1,.f (.v (.int .i64))),(2,.f (.v (.int .i64))),(3,.f (.v (.fn 74 (.cons (.ref (.rs 3)) .nil)))),(8,.f (.v (.int .i64)))],[(.exit 0,[(0,.f (.own 5))])],Zab_L0,[]⟩:=
  loop_ok (A:=A_Zab) (done:=[2]) (c0:=(Tryz.f136.body.getD .skip)) hmix Zab_env (done_cons rfl Zab_L2_ok done_nil) rounds (by kernel_rfl) (by kernel_rfl) (fun x=>Zab_L0_eq x.1 x.2.1 x.2.2.1 x.2.2.2.1 x.2.2.2.2.1) (fun _=>rfl)
theorem Zab_ok:SoundT Tryz.prog cd gdn 136 S_Zab:=
  sound_fn (E:=E_Zab) (A:=A_Zab) (done:=[2,0]) (c:=(Tryz.f136.body.getD .skip)) (S:=S_Zab) (fn:=Tryz.f136) hmix Zab_env Tryz.func136 rfl (by kernel_rfl) (by kernel_rfl) (done_cons rfl Zab_L2_ok (done_cons rfl Zab_L0_ok done_nil)) (by kernel_rfl) (by kernel_rfl) Zab_eq
def Zah_L0b (y0:(List (Int))) (y1:Int) (y2:Int) (y3:Int) (y4:((List (BitVec 64)) × Unit)) (y5:Bool) (y6:Bool):Option (((List (Int)) × Int × Int × Int × ((List (BitVec 64)) × Unit) × Bool × Bool × Unit) ⊕ ((List (Int)) × Unit)):=
 (bif (decide ((IntKind.wrap .i64 (y2 - y1)) ≤ (12:Int))) then ((Zab y0 y1 y2 (y4.1,())).bind fun r1=>(some (Sum.inr (r1.1.1,()))))
 else (bif (decide (y3=(0:Int))) then none
 else ((bif (!y5) then none
 else (some (y0,y1,y2,y3,(y4.1,()),y5,y6,(IntKind.wrap .i64 (y2 - y1)),()))).bind (fun (j2:((List (Int)) × Int × Int × Int × ((List (BitVec 64)) × Unit) × Bool × Bool × Int × Unit))=>none))))
def Zah_L0 (y:((List (Int)) × Int × Int × Int × ((List (BitVec 64)) × Unit) × Bool × Bool × Unit)):Option ((List (Int)) × Unit):=iter (fun (y:((List (Int)) × Int × Int × Int × ((List (BitVec 64)) × Unit) × Bool × Bool × Unit))=>Zah_L0b y.1 y.2.1 y.2.2.1 y.2.2.2.1 y.2.2.2.2.1 y.2.2.2.2.2.1 y.2.2.2.2.2.2.1) rounds y
def Zah (a0:(List (Int))) (a1:Int) (a2:Int) (a3:Int) (a4:((List (BitVec 64)) × Unit)):Option (((List (Int)) × Unit) × (Unit)):=
 ((Zah_L0 (a0,a1,a2,a3,(a4.1,()),true,true,())).bind (fun (z3:((List (Int)) × Unit))=>(some ((z3.1,()),()))))
def S_Zah:FSpec T:=⟨[.inp 5,.f (.v (.int .i64)),.f (.v (.int .i64)),.f (.v (.int .i64)),.f (.v (.fn 74 (.cons (.ref (.rs 3)) .nil)))],[],fun x=>Zah x.1 x.2.1 x.2.2.1 x.2.2.2.1 x.2.2.2.2.1⟩
def E_Zah:Env T:=⟨tab.find,cd,globs,flc,fun f ds=>match f with
    | 136=>match fnAt ds 3 with
      | some 74=>some S_Zab
      | _=>none
    | _=>none,fun f=>match f with
    | _=>false⟩
def A_Zah:Loc2 T:=⟨fun id=>match id with
    | 0=>some ⟨[(0,.f (.own 5)),(1,.f (.v (.int .i64))),(2,.f (.v (.int .i64))),(3,.f (.v (.int .i64))),(4,.f (.v (.fn 74 (.cons (.ref (.rs 3)) .nil)))),(10,.f (.v .bool)),(11,.f (.v .bool))],[(.ret,[(0,.f (.own 5))])],Zah_L0,[]⟩
    | _=>none,fun r=>match r with
    | 10=>some ([(0,.f (.own 5)),(1,.f (.v (.int .i64))),(2,.f (.v (.int .i64))),(3,.f (.v (.int .i64))),(4,.f (.v (.fn 74 (.cons (.ref (.rs 3)) .nil)))),(10,.f (.v .bool)),(11,.f (.v .bool)),(12,.f (.v (.int .i64)))],true)
    | _=>none,fun r=>match r with
    | _=>false⟩
theorem Zah_L0_eq (y0:(List (Int))) (y1:Int) (y2:Int) (y3:Int) (y4:((List (BitVec 64)) × Unit)) (y5:Bool) (y6:Bool):run E_Zah A_Zah (loopAt 0 (Tryz.f107.body.getD .skip)) (layC cd [(0,.f (.own 5)),(1,.f (.v (.int .i64))),(2,.f (.v (.int .i64))),(3,.f (.v (.int .i64))),(4,.f (.v (.fn 74 (.cons (.ref (.rs 3)) .nil)))),(10,.f (.v .bool)),(11,.f (.v .bool))] [] (y0,y1,y2,y3,y4,y5,y6,())) (roundK cd [(0,.f (.own 5)),(1,.f (.v (.int .i64))),(2,.f (.v (.int .i64))),(3,.f (.v (.int .i64))),(4,.f (.v (.fn 74 (.cons (.ref (.rs 3)) .nil)))),(10,.f (.v .bool)),(11,.f (.v .bool))] [] [(.ret,[(0,.f (.own 5))])])=Zah_L0b y0 y1 y2 y3 y4 y5 y6:=by kernel_rfl
theorem Zah_eq (x:tySs T S_Zah.ps):run E_Zah A_Zah (Tryz.f107.body.getD .skip) (enterT E_Zah.C S_Zah.ps x) (retK E_Zah Tryz.f107.results.toList S_Zah.ps S_Zah.rs)=S_Zah.fn x:=by kernel_rfl
theorem Zah_env:EnvOk Tryz.prog E_Zah:=envOk (E:=E_Zah) cd_ok tys fl_ok fun f ds S h=>by
    dsimp only [E_Zah] at h
    split at h
    · split at h
      · cases h; exact Zab_ok
      · cases h
    · cases h
theorem Zah_L0_ok:LoopOk Tryz.prog E_Zah Tryz.f107.ntmps (kqOf S_Zah.ps 0) (loopAt 0 (Tryz.f107.body.getD .skip)) ⟨[(0,.f (.own 5)),(1,.f (.v (.int .i64))),(2,.f (.v (.int .i64))),(3,.f (.v (.int .i64))),(4,.f (.v (.fn 74 (.cons (.ref (.rs 3)) .nil)))),(10,.f (.v .bool)),(11,.f (.v .bool))],[(.ret,[(0,.f (.own 5))])],Zah_L0,[]⟩:=
  loop_ok (A:=A_Zah) (done:=[]) (c0:=(Tryz.f107.body.getD .skip)) hmix Zah_env done_nil rounds (by kernel_rfl) (by kernel_rfl) (fun x=>Zah_L0_eq x.1 x.2.1 x.2.2.1 x.2.2.2.1 x.2.2.2.2.1 x.2.2.2.2.2.1 x.2.2.2.2.2.2.1) (fun _=>rfl)
theorem Zah_ok:SoundT Tryz.prog cd gdn 107 S_Zah:=
  sound_fn (E:=E_Zah) (A:=A_Zah) (done:=[0]) (c:=(Tryz.f107.body.getD .skip)) (S:=S_Zah) (fn:=Tryz.f107) hmix Zah_env Tryz.func107 rfl (by kernel_rfl) (by kernel_rfl) (done_cons rfl Zah_L0_ok done_nil) (by kernel_rfl) (by kernel_rfl) Zah_eq
def Zal (a0:(List (Int))) (a1:((List (BitVec 64)) × Unit)):Option (((List (Int)) × Unit) × (Unit)):=
 ((Zdm (BitVec.ofInt 64 ((a0).length:Int))).bind fun r1=>((Zah a0 (0:Int) ((a0).length:Int) r1.2.1 (a1.1,())).bind fun r2=>(some ((r2.1.1,()),()))))
def S_Zal:FSpec T:=⟨[.inp 5,.f (.v (.fn 74 (.cons (.ref (.rs 3)) .nil)))],[],fun x=>Zal x.1 x.2.1⟩
def E_Zal:Env T:=⟨tab.find,cd,globs,flc,fun f ds=>match f with
    | 107=>match fnAt ds 4 with
      | some 74=>some S_Zah
      | _=>none
    | 108=>some S_Zdm
    | _=>none,fun f=>match f with
    | 108=>true
    | _=>false⟩
def A_Zal:Loc2 T:=⟨fun id=>match id with
    | _=>none,fun r=>match r with
    | _=>none,fun r=>match r with
    | _=>false⟩
theorem Zal_eq (x:tySs T S_Zal.ps):run E_Zal A_Zal (Tryz.f73.body.getD .skip) (enterT E_Zal.C S_Zal.ps x) (retK E_Zal Tryz.f73.results.toList S_Zal.ps S_Zal.rs)=S_Zal.fn x:=by kernel_rfl
theorem Zal_env:EnvOk Tryz.prog E_Zal:=envOk (E:=E_Zal) cd_ok tys fl_ok fun f ds S h=>by
    dsimp only [E_Zal] at h
    split at h
    · split at h
      · cases h; exact Zah_ok
      · cases h
    · cases h; exact Zdm_ok
    · cases h
theorem Zal_ok:SoundT Tryz.prog cd gdn 73 S_Zal:=
  sound_fn (E:=E_Zal) (A:=A_Zal) (done:=[]) (c:=(Tryz.f73.body.getD .skip)) (S:=S_Zal) (fn:=Tryz.f73) hmix Zal_env Tryz.func73 rfl (by kernel_rfl) (by kernel_rfl) done_nil (by kernel_rfl) (by kernel_rfl) Zal_eq
def Zdd (a0:CborWalk):Option ((Unit) × (Bool × Unit)):=
 (bif (decide ((0:Int) < a0.count)) then (some ((),((decide (((a0.open_).length:Int)=(0:Int))),())))
 else (some ((),(false,()))))
def S_Zdd:FSpec T:=⟨[.f (.v (.ref (.agg 7)))],[(.v .bool)],fun x=>Zdd x.1⟩
def E_Zdd:Env T:=⟨tab.find,cd,globs,flc,fun f ds=>match f with
    | _=>none,fun f=>match f with
    | _=>false⟩
def A_Zdd:Loc2 T:=⟨fun id=>match id with
    | _=>none,fun r=>match r with
    | _=>none,fun r=>match r with
    | _=>false⟩
theorem Zdd_eq (x:tySs T S_Zdd.ps):run E_Zdd A_Zdd (Tryz.f83.body.getD .skip) (enterT E_Zdd.C S_Zdd.ps x) (retK E_Zdd Tryz.f83.results.toList S_Zdd.ps S_Zdd.rs)=S_Zdd.fn x:=by kernel_rfl
theorem Zdd_env:EnvOk Tryz.prog E_Zdd:=envOk (E:=E_Zdd) cd_ok tys fl_ok fun f ds S h=>by cases h
theorem Zdd_ok:SoundT Tryz.prog cd gdn 83 S_Zdd:=
  sound_fn (E:=E_Zdd) (A:=A_Zdd) (done:=[]) (c:=(Tryz.f83.body.getD .skip)) (S:=S_Zdd) (fn:=Tryz.f83) hmix Zdd_env Tryz.func83 rfl (by kernel_rfl) (by kernel_rfl) done_nil (by kernel_rfl) (by kernel_rfl) Zdd_eq
def Zcw (a0:CborWalk):Option ((Unit) × (Bool × Unit)):=
 (bif (decide ((0:Int) < ((a0.open_).length:Int))) then ((getI a0.open_ (IntKind.wrap .i64 (((a0.open_).length:Int) - (1:Int)))).bind fun x1=>(bif x1.pairs then ((getI a0.open_ (IntKind.wrap .i64 (((a0.open_).length:Int) - (1:Int)))).bind fun x2=>(some ((),((decide ((Int.tmod x2.left (2:Int))=(0:Int))),()))))
 else (some ((),(false,())))))
 else (some ((),(false,()))))
def S_Zcw:FSpec T:=⟨[.f (.v (.ref (.agg 7)))],[(.v .bool)],fun x=>Zcw x.1⟩
def E_Zcw:Env T:=⟨tab.find,cd,globs,flc,fun f ds=>match f with
    | _=>none,fun f=>match f with
    | _=>false⟩
def A_Zcw:Loc2 T:=⟨fun id=>match id with
    | _=>none,fun r=>match r with
    | _=>none,fun r=>match r with
    | _=>false⟩
theorem Zcw_eq (x:tySs T S_Zcw.ps):run E_Zcw A_Zcw (Tryz.f149.body.getD .skip) (enterT E_Zcw.C S_Zcw.ps x) (retK E_Zcw Tryz.f149.results.toList S_Zcw.ps S_Zcw.rs)=S_Zcw.fn x:=by kernel_rfl
theorem Zcw_env:EnvOk Tryz.prog E_Zcw:=envOk (E:=E_Zcw) cd_ok tys fl_ok fun f ds S h=>by cases h
theorem Zcw_ok:SoundT Tryz.prog cd gdn 149 S_Zcw:=
  sound_fn (E:=E_Zcw) (A:=A_Zcw) (done:=[]) (c:=(Tryz.f149.body.getD .skip)) (S:=S_Zcw) (fn:=Tryz.f149) hmix Zcw_env Tryz.func149 rfl (by kernel_rfl) (by kernel_rfl) done_nil (by kernel_rfl) (by kernel_rfl) Zcw_eq
def Zcv (a0:CborWalk) (a1:Int):Option ((Unit) × (Int × Unit)):=
 (bif (decide ((512:Int) ≤ a0.count)) then (some ((),((8:Int),())))
 else (bif (decide (a1 < (1:Int))) then (some ((),((3:Int),())))
 else (bif (decide ((8:Int) < a1)) then (some ((),((3:Int),())))
 else ((Zcw a0).bind fun r1=>(bif r1.2.1 then (bif (!decide (a1=(1:Int))) then (bif (!decide (a1=(2:Int))) then (bif (!decide (a1=(4:Int))) then (some ((),((3:Int),())))
 else (bif (decide ((8:Int) < ((a0.open_).length:Int))) then (some ((),((5:Int),())))
 else (some ((),((0:Int),())))))
 else (bif (decide ((8:Int) < ((a0.open_).length:Int))) then (some ((),((5:Int),())))
 else (some ((),((0:Int),())))))
 else (bif (decide ((8:Int) < ((a0.open_).length:Int))) then (some ((),((5:Int),())))
 else (some ((),((0:Int),())))))
 else (bif (decide ((8:Int) < ((a0.open_).length:Int))) then (some ((),((5:Int),())))
 else (some ((),((0:Int),())))))))))
def S_Zcv:FSpec T:=⟨[.f (.v (.ref (.agg 7))),.f (.v (.int .i64))],[(.v (.int .i64))],fun x=>Zcv x.1 x.2.1⟩
def E_Zcv:Env T:=⟨tab.find,cd,globs,flc,fun f ds=>match f with
    | 149=>some S_Zcw
    | _=>none,fun f=>match f with
    | 149=>true
    | _=>false⟩
def A_Zcv:Loc2 T:=⟨fun id=>match id with
    | _=>none,fun r=>match r with
    | _=>none,fun r=>match r with
    | _=>false⟩
theorem Zcv_eq (x:tySs T S_Zcv.ps):run E_Zcv A_Zcv (Tryz.f115.body.getD .skip) (enterT E_Zcv.C S_Zcv.ps x) (retK E_Zcv Tryz.f115.results.toList S_Zcv.ps S_Zcv.rs)=S_Zcv.fn x:=by kernel_rfl
theorem Zcv_env:EnvOk Tryz.prog E_Zcv:=envOk (E:=E_Zcv) cd_ok tys fl_ok fun f ds S h=>by
    dsimp only [E_Zcv] at h
    split at h
    · cases h; exact Zcw_ok
    · cases h
theorem Zcv_ok:SoundT Tryz.prog cd gdn 115 S_Zcv:=
  sound_fn (E:=E_Zcv) (A:=A_Zcv) (done:=[]) (c:=(Tryz.f115.body.getD .skip)) (S:=S_Zcv) (fn:=Tryz.f115) hmix Zcv_env Tryz.func115 rfl (by kernel_rfl) (by kernel_rfl) done_nil (by kernel_rfl) (by kernel_rfl) Zcv_eq
def Zdw (a0:ApiItem):Option ((Unit) × (Bool × Unit)):=
 (bif (decide (a0.kind=(3:Int))) then (bif (decide (a0.kind=(3:Int))) then (some ((),((decide (a0.number=0#64)),())))
 else (bif (decide (a0.kind=(8:Int))) then (bif (decide (a0.number=0#64)) then (some ((),((decide (a0.data=([]:List UInt8))),())))
 else (some ((),(false,()))))
 else (bif (decide (a0.kind=(7:Int))) then (bif (decide (a0.number.toNat ≤ (1#64).toNat)) then (some ((),((decide (a0.data=([]:List UInt8))),())))
 else (some ((),(false,()))))
 else (some ((),((decide (a0.data=([]:List UInt8))),()))))))
 else (bif (decide (a0.kind=(4:Int))) then (some ((),((decide (a0.number=0#64)),())))
 else (bif (decide (a0.kind=(8:Int))) then (bif (decide (a0.number=0#64)) then (some ((),((decide (a0.data=([]:List UInt8))),())))
 else (some ((),(false,()))))
 else (bif (decide (a0.kind=(7:Int))) then (bif (decide (a0.number.toNat ≤ (1#64).toNat)) then (some ((),((decide (a0.data=([]:List UInt8))),())))
 else (some ((),(false,()))))
 else (some ((),((decide (a0.data=([]:List UInt8))),())))))))
def S_Zdw:FSpec T:=⟨[.f (.v (.agg 1))],[(.v .bool)],fun x=>Zdw x.1⟩
def E_Zdw:Env T:=⟨tab.find,cd,globs,flc,fun f ds=>match f with
    | _=>none,fun f=>match f with
    | _=>false⟩
def A_Zdw:Loc2 T:=⟨fun id=>match id with
    | _=>none,fun r=>match r with
    | _=>none,fun r=>match r with
    | _=>false⟩
theorem Zdw_eq (x:tySs T S_Zdw.ps):run E_Zdw A_Zdw (Tryz.f146.body.getD .skip) (enterT E_Zdw.C S_Zdw.ps x) (retK E_Zdw Tryz.f146.results.toList S_Zdw.ps S_Zdw.rs)=S_Zdw.fn x:=by kernel_rfl
theorem Zdw_env:EnvOk Tryz.prog E_Zdw:=envOk (E:=E_Zdw) cd_ok tys fl_ok fun f ds S h=>by cases h
theorem Zdw_ok:SoundT Tryz.prog cd gdn 146 S_Zdw:=
  sound_fn (E:=E_Zdw) (A:=A_Zdw) (done:=[]) (c:=(Tryz.f146.body.getD .skip)) (S:=S_Zdw) (fn:=Tryz.f146) hmix Zdw_env Tryz.func146 rfl (by kernel_rfl) (by kernel_rfl) done_nil (by kernel_rfl) (by kernel_rfl) Zdw_eq
def Zct_L1b (y0:(List (UInt8))) (y1:(BitVec 64)) (y2:Int):Option (((List (UInt8)) × (BitVec 64) × Int × Unit) ⊕ ((List (UInt8)) × Unit)):=
 (bif (decide ((0:Int) ≤ y2)) then (bif decide ((0:Int) ≤ (IntKind.wrap .i64 ((8:Int) * y2))) then (let v7:UInt8:=(UInt8.ofBitVec (BitVec.setWidth 8 (y1 >>> ((IntKind.wrap .i64 ((8:Int) * y2))).toNat)))
 (bif small ((y0).length + (([v7]:List (UInt8)):List (UInt8)).length) 1 then (some (Sum.inl ((y0 ++ ([v7]:List (UInt8))),y1,(IntKind.wrap .i64 (y2 - (1:Int))),())))
 else none))
 else none)
 else (some (Sum.inr (y0,()))))
def Zct_L1 (y:((List (UInt8)) × (BitVec 64) × Int × Unit)):Option ((List (UInt8)) × Unit):=iter (fun (y:((List (UInt8)) × (BitVec 64) × Int × Unit))=>Zct_L1b y.1 y.2.1 y.2.2.1) rounds y
def Zct (a0:(List (UInt8))) (a1:UInt8) (a2:(BitVec 64)):Option ((Unit) × ((List (UInt8)) × Unit)):=
 ((bif (decide (a2.toNat < (24#64).toNat)) then (let v1:UInt8:=(UInt8.ofBitVec ((UInt8.ofBitVec (a1.toBitVec <<< 5)).toBitVec + (UInt8.ofBitVec (BitVec.setWidth 8 a2)).toBitVec))
 (bif small ((a0).length + (([v1]:List (UInt8)):List (UInt8)).length) 1 then (((some ((),((a0 ++ ([v1]:List (UInt8))),())))).bind fun q=>some (Sum.inr q))
 else none))
 else (bif (decide (a2.toNat < (256#64).toNat)) then (let v2:UInt8:=(UInt8.ofBitVec ((UInt8.ofBitVec (a1.toBitVec <<< 5)).toBitVec + (24:UInt8).toBitVec))
 (some (Sum.inl (a0,a2,v2,(1:Int),()))))
 else (bif (decide (a2.toNat < (65536#64).toNat)) then (let v3:UInt8:=(UInt8.ofBitVec ((UInt8.ofBitVec (a1.toBitVec <<< 5)).toBitVec + (25:UInt8).toBitVec))
 (some (Sum.inl (a0,a2,v3,(2:Int),()))))
 else (bif (decide (a2.toNat < (4294967296#64).toNat)) then (let v4:UInt8:=(UInt8.ofBitVec ((UInt8.ofBitVec (a1.toBitVec <<< 5)).toBitVec + (26:UInt8).toBitVec))
 (some (Sum.inl (a0,a2,v4,(4:Int),()))))
 else (let v5:UInt8:=(UInt8.ofBitVec ((UInt8.ofBitVec (a1.toBitVec <<< 5)).toBitVec + (27:UInt8).toBitVec))
 (some (Sum.inl (a0,a2,v5,(8:Int),())))))))).bind (Sum.elim (fun (j6:((List (UInt8)) × (BitVec 64) × UInt8 × Int × Unit))=>(bif small ((j6.1).length + (([j6.2.2.1]:List (UInt8)):List (UInt8)).length) 1 then ((Zct_L1 ((j6.1 ++ ([j6.2.2.1]:List (UInt8))),j6.2.1,(IntKind.wrap .i64 (j6.2.2.2.1 - (1:Int))),())).bind (fun (z8:((List (UInt8)) × Unit))=>(some ((),(z8.1,())))))
 else none)) some))
def S_Zct:FSpec T:=⟨[.f (.own 0),.f (.v .u8),.f (.v .u64)],[(.own 0)],fun x=>Zct x.1 x.2.1 x.2.2.1⟩
def E_Zct:Env T:=⟨tab.find,cd,globs,flc,fun f ds=>match f with
    | _=>none,fun f=>match f with
    | _=>false⟩
def A_Zct:Loc2 T:=⟨fun id=>match id with
    | 1=>some ⟨[(0,.f (.own 0)),(2,.f (.v .u64)),(9,.f (.v (.int .i64)))],[(.exit 1,[(0,.f (.own 0))])],Zct_L1,[]⟩
    | _=>none,fun r=>match r with
    | 12=>some ([(0,.f (.own 0)),(2,.f (.v .u64)),(7,.f (.v .u8)),(8,.f (.v (.int .i64)))],false)
    | _=>none,fun r=>match r with
    | _=>false⟩
theorem Zct_L1_eq (y0:(List (UInt8))) (y1:(BitVec 64)) (y2:Int):run E_Zct A_Zct (loopAt 1 (Tryz.f111.body.getD .skip)) (layC cd [(0,.f (.own 0)),(2,.f (.v .u64)),(9,.f (.v (.int .i64)))] [] (y0,y1,y2,())) (roundK cd [(0,.f (.own 0)),(2,.f (.v .u64)),(9,.f (.v (.int .i64)))] [] [(.exit 1,[(0,.f (.own 0))])])=Zct_L1b y0 y1 y2:=by kernel_rfl
theorem Zct_eq (x:tySs T S_Zct.ps):run E_Zct A_Zct (Tryz.f111.body.getD .skip) (enterT E_Zct.C S_Zct.ps x) (retK E_Zct Tryz.f111.results.toList S_Zct.ps S_Zct.rs)=S_Zct.fn x:=by kernel_rfl
theorem Zct_env:EnvOk Tryz.prog E_Zct:=envOk (E:=E_Zct) cd_ok tys fl_ok fun f ds S h=>by cases h
theorem Zct_L1_ok:LoopOk Tryz.prog E_Zct Tryz.f111.ntmps (kqOf S_Zct.ps 0) (loopAt 1 (Tryz.f111.body.getD .skip)) ⟨[(0,.f (.own 0)),(2,.f (.v .u64)),(9,.f (.v (.int .i64)))],[(.exit 1,[(0,.f (.own 0))])],Zct_L1,[]⟩:=
  loop_ok (A:=A_Zct) (done:=[]) (c0:=(Tryz.f111.body.getD .skip)) hmix Zct_env done_nil rounds (by kernel_rfl) (by kernel_rfl) (fun x=>Zct_L1_eq x.1 x.2.1 x.2.2.1) (fun _=>rfl)
theorem Zct_ok:SoundT Tryz.prog cd gdn 111 S_Zct:=
  sound_fn (E:=E_Zct) (A:=A_Zct) (done:=[1]) (c:=(Tryz.f111.body.getD .skip)) (S:=S_Zct) (fn:=Tryz.f111) hmix Zct_env Tryz.func111 rfl (by kernel_rfl) (by kernel_rfl) (done_cons rfl Zct_L1_ok done_nil) (by kernel_rfl) (by kernel_rfl) Zct_eq
def Zcu (a0:(List (UInt8))) (a1:ApiItem):Option ((Unit) × ((List (UInt8)) × Unit)):=
 (bif (decide (a1.kind=(7:Int))) then (let v1:UInt8:=(UInt8.ofBitVec ((244:UInt8).toBitVec + (UInt8.ofBitVec (BitVec.setWidth 8 a1.number)).toBitVec))
 (bif small ((a0).length + (([v1]:List (UInt8)):List (UInt8)).length) 1 then (some ((),((a0 ++ ([v1]:List (UInt8))),())))
 else none))
 else (bif (decide (a1.kind=(8:Int))) then (bif small ((a0).length + (([(246:UInt8)]:List (UInt8)):List (UInt8)).length) 1 then (some ((),((a0 ++ ([(246:UInt8)]:List (UInt8))),())))
 else none)
 else (bif (decide (a1.kind=(3:Int))) then (bif (decide (a1.kind=(3:Int))) then (let v2:UInt8:=(UInt8.ofBitVec (BitVec.ofInt 8 (IntKind.wrap .i64 (a1.kind - (1:Int)))))
 ((Zct a0 v2 (BitVec.ofInt 64 ((a1.data).length:Int))).bind fun r3=>(bif small ((r3.2.1).length + (a1.data:List (UInt8)).length) 1 then (some ((),((r3.2.1 ++ a1.data),())))
 else none)))
 else (let v4:UInt8:=(UInt8.ofBitVec (BitVec.ofInt 8 (IntKind.wrap .i64 (a1.kind - (1:Int)))))
 ((Zct a0 v4 a1.number).bind fun r5=>(some ((),(r5.2.1,()))))))
 else (bif (decide (a1.kind=(4:Int))) then (let v6:UInt8:=(UInt8.ofBitVec (BitVec.ofInt 8 (IntKind.wrap .i64 (a1.kind - (1:Int)))))
 ((Zct a0 v6 (BitVec.ofInt 64 ((a1.data).length:Int))).bind fun r7=>(bif small ((r7.2.1).length + (a1.data:List (UInt8)).length) 1 then (some ((),((r7.2.1 ++ a1.data),())))
 else none)))
 else (let v8:UInt8:=(UInt8.ofBitVec (BitVec.ofInt 8 (IntKind.wrap .i64 (a1.kind - (1:Int)))))
 ((Zct a0 v8 a1.number).bind fun r9=>(some ((),(r9.2.1,())))))))))
def S_Zcu:FSpec T:=⟨[.f (.own 0),.f (.v (.agg 1))],[(.own 0)],fun x=>Zcu x.1 x.2.1⟩
def E_Zcu:Env T:=⟨tab.find,cd,globs,flc,fun f ds=>match f with
    | 111=>some S_Zct
    | _=>none,fun f=>match f with
    | _=>false⟩
def A_Zcu:Loc2 T:=⟨fun id=>match id with
    | _=>none,fun r=>match r with
    | _=>none,fun r=>match r with
    | _=>false⟩
theorem Zcu_eq (x:tySs T S_Zcu.ps):run E_Zcu A_Zcu (Tryz.f79.body.getD .skip) (enterT E_Zcu.C S_Zcu.ps x) (retK E_Zcu Tryz.f79.results.toList S_Zcu.ps S_Zcu.rs)=S_Zcu.fn x:=by kernel_rfl
theorem Zcu_env:EnvOk Tryz.prog E_Zcu:=envOk (E:=E_Zcu) cd_ok tys fl_ok fun f ds S h=>by
    dsimp only [E_Zcu] at h
    split at h
    · cases h; exact Zct_ok
    · cases h
theorem Zcu_ok:SoundT Tryz.prog cd gdn 79 S_Zcu:=
  sound_fn (E:=E_Zcu) (A:=A_Zcu) (done:=[]) (c:=(Tryz.f79.body.getD .skip)) (S:=S_Zcu) (fn:=Tryz.f79) hmix Zcu_env Tryz.func79 rfl (by kernel_rfl) (by kernel_rfl) done_nil (by kernel_rfl) (by kernel_rfl) Zcu_eq
def Zdo (a0:(List (UInt8))) (a1:(List (UInt8))):Option ((Unit) × (Bool × Unit)):=
 (bif (!decide (((a0).length:Int)=((a1).length:Int))) then (some ((),((decide (((a0).length:Int) < ((a1).length:Int))),())))
 else ((Zdh a0 a1).bind fun r1=>(some ((),((decide (r1.2.1 < (0:Int))),())))))
def S_Zdo:FSpec T:=⟨[.f (.v (.rs 0)),.f (.v (.rs 0))],[(.v .bool)],fun x=>Zdo x.1 x.2.1⟩
def E_Zdo:Env T:=⟨tab.find,cd,globs,flc,fun f ds=>match f with
    | 171=>some S_Zdh
    | _=>none,fun f=>match f with
    | 171=>true
    | _=>false⟩
def A_Zdo:Loc2 T:=⟨fun id=>match id with
    | _=>none,fun r=>match r with
    | _=>none,fun r=>match r with
    | _=>false⟩
theorem Zdo_eq (x:tySs T S_Zdo.ps):run E_Zdo A_Zdo (Tryz.f150.body.getD .skip) (enterT E_Zdo.C S_Zdo.ps x) (retK E_Zdo Tryz.f150.results.toList S_Zdo.ps S_Zdo.rs)=S_Zdo.fn x:=by kernel_rfl
theorem Zdo_env:EnvOk Tryz.prog E_Zdo:=envOk (E:=E_Zdo) cd_ok tys fl_ok fun f ds S h=>by
    dsimp only [E_Zdo] at h
    split at h
    · cases h; exact Zdh_ok
    · cases h
theorem Zdo_ok:SoundT Tryz.prog cd gdn 150 S_Zdo:=
  sound_fn (E:=E_Zdo) (A:=A_Zdo) (done:=[]) (c:=(Tryz.f150.body.getD .skip)) (S:=S_Zdo) (fn:=Tryz.f150) hmix Zdo_env Tryz.func150 rfl (by kernel_rfl) (by kernel_rfl) done_nil (by kernel_rfl) (by kernel_rfl) Zdo_eq
def Zde_L0b (y0:((List (CborFrame)) × Int × Unit)) (y1:Int):Option ((((List (CborFrame)) × Int × Unit) × Int × Unit) ⊕ (((List (CborFrame)) × Int × Unit) × Unit)):=
 (bif (decide ((0:Int) < y1)) then (bif (decide ((0:Int) ≤ (IntKind.wrap .i64 (y1 - (1:Int)))) && decide ((IntKind.wrap .i64 (y1 - (1:Int))) < ((y0.1).length:Int))) then (((y0.1)[((IntKind.wrap .i64 (y1 - (1:Int)))).toNat]?).bind fun x10=>(bif (decide (x10.left=(0:Int))) then (bif (decide ((0:Int) ≤ (IntKind.wrap .i64 (y1 - (1:Int)))) && decide ((IntKind.wrap .i64 (y1 - (1:Int))) ≤ ((y0.1).length:Int))) then (bif decide (((IntKind.wrap .i64 (y1 - (1:Int)))).toNat ≤ (y0.1).length) then (some (Sum.inl (((List.take ((IntKind.wrap .i64 (y1 - (1:Int)))).toNat y0.1),y0.2.1,()),(IntKind.wrap .i64 (y1 - (1:Int))),())))
 else none)
 else none)
 else (some (Sum.inr ((y0.1,y0.2.1,()),())))))
 else none)
 else (some (Sum.inr ((y0.1,y0.2.1,()),()))))
def Zde_L0 (y:(((List (CborFrame)) × Int × Unit) × Int × Unit)):Option (((List (CborFrame)) × Int × Unit) × Unit):=iter (fun (y:(((List (CborFrame)) × Int × Unit) × Int × Unit))=>Zde_L0b y.1 y.2.1) rounds y
def Zde (a0:((List (CborFrame)) × Int × Unit)) (a1:ApiItem):Option ((((List (CborFrame)) × Int × Unit) × Unit) × (Unit)):=
 ((bif (decide ((0:Int) < ((a0.1).length:Int))) then (bif (decide ((0:Int) ≤ (IntKind.wrap .i64 (((a0.1).length:Int) - (1:Int)))) && decide ((IntKind.wrap .i64 (((a0.1).length:Int) - (1:Int))) < ((a0.1).length:Int))) then (((a0.1)[((IntKind.wrap .i64 (((a0.1).length:Int) - (1:Int)))).toNat]?).bind fun x1=>(bif (decide ((0:Int) ≤ (IntKind.wrap .i64 (((a0.1).length:Int) - (1:Int)))) && decide ((IntKind.wrap .i64 (((a0.1).length:Int) - (1:Int))) < ((a0.1).length:Int))) then (((a0.1)[((IntKind.wrap .i64 (((a0.1).length:Int) - (1:Int)))).toNat]?).bind fun x2=>(let v3:List (CborFrame):=(List.set a0.1 ((IntKind.wrap .i64 (((a0.1).length:Int) - (1:Int)))).toNat (⟨x2.pairs,(IntKind.wrap .i64 (x1.left - (1:Int))),x2.last_⟩:CborFrame))
 (some ((v3,(IntKind.wrap .i64 (a0.2.1 + (1:Int))),()),(a1,()),()))))
 else none))
 else none)
 else (some ((a0.1,(IntKind.wrap .i64 (a0.2.1 + (1:Int))),()),(a1,()),()))).bind (fun (j4:(((List (CborFrame)) × Int × Unit) × (ApiItem × Unit) × Unit))=>((bif (decide (j4.2.1.1.kind=(5:Int))) then (bif (decide ((0#64).toNat < j4.2.1.1.number.toNat)) then (let v5:List (CborFrame):=([(⟨false,(IntKind.wrap .i64 (j4.2.1.1.number.toNat:Int)),[]⟩:CborFrame)]:List (CborFrame))
 (bif small ((j4.1.1).length + (v5:List (CborFrame)).length) 40 then (some (((j4.1.1 ++ v5),j4.1.2.1,()),(j4.2.1.1,()),()))
 else none))
 else (some ((j4.1.1,j4.1.2.1,()),(j4.2.1.1,()),())))
 else (some ((j4.1.1,j4.1.2.1,()),(j4.2.1.1,()),()))).bind (fun (j6:(((List (CborFrame)) × Int × Unit) × (ApiItem × Unit) × Unit))=>((bif (decide (j6.2.1.1.kind=(6:Int))) then (bif (decide ((0#64).toNat < j6.2.1.1.number.toNat)) then (let v7:Int:=(IntKind.wrap .i64 ((2:Int) * (IntKind.wrap .i64 (j6.2.1.1.number.toNat:Int))))
 (bif small ((j6.1.1).length + (([(⟨true,v7,[]⟩:CborFrame)]:List (CborFrame)):List (CborFrame)).length) 40 then (let v8:List (CborFrame):=(j6.1.1 ++ ([(⟨true,v7,[]⟩:CborFrame)]:List (CborFrame)))
 (some ((v8,j6.1.2.1,()),())))
 else none))
 else (some ((j6.1.1,j6.1.2.1,()),())))
 else (some ((j6.1.1,j6.1.2.1,()),()))).bind (fun (j9:(((List (CborFrame)) × Int × Unit) × Unit))=>((Zde_L0 ((j9.1.1,j9.1.2.1,()),((j9.1.1).length:Int),())).bind (fun (z11:(((List (CborFrame)) × Int × Unit) × Unit))=>(some (((z11.1.1,z11.1.2.1,()),()),()))))))))))
def S_Zde:FSpec T:=⟨[.ptr [(.own 6),(.v (.int .i64))],.f (.v (.agg 1))],[],fun x=>Zde x.1 x.2.1⟩
def E_Zde:Env T:=⟨tab.find,cd,globs,flc,fun f ds=>match f with
    | _=>none,fun f=>match f with
    | _=>false⟩
def A_Zde:Loc2 T:=⟨fun id=>match id with
    | 0=>some ⟨[(0,.ptr [(.own 6),(.v (.int .i64))]),(5,.f (.v (.int .i64)))],[(.exit 0,[(0,.ptr [(.own 6),(.v (.int .i64))])])],Zde_L0,[]⟩
    | _=>none,fun r=>match r with
    | 5=>some ([(0,.ptr [(.own 6),(.v (.int .i64))]),(3,.ptr [(.v (.agg 1))])],true)
    | 7=>some ([(0,.ptr [(.own 6),(.v (.int .i64))]),(3,.ptr [(.v (.agg 1))])],true)
    | 9=>some ([(0,.ptr [(.own 6),(.v (.int .i64))])],true)
    | _=>none,fun r=>match r with
    | 6=>true
    | 8=>true
    | _=>false⟩
theorem Zde_L0_eq (y0:((List (CborFrame)) × Int × Unit)) (y1:Int):run E_Zde A_Zde (loopAt 0 (Tryz.f151.body.getD .skip)) (layC cd [(0,.ptr [(.own 6),(.v (.int .i64))]),(5,.f (.v (.int .i64)))] [] (y0,y1,())) (roundK cd [(0,.ptr [(.own 6),(.v (.int .i64))]),(5,.f (.v (.int .i64)))] [] [(.exit 0,[(0,.ptr [(.own 6),(.v (.int .i64))])])])=Zde_L0b y0 y1:=by kernel_rfl
theorem Zde_eq (x:tySs T S_Zde.ps):run E_Zde A_Zde (Tryz.f151.body.getD .skip) (enterT E_Zde.C S_Zde.ps x) (retK E_Zde Tryz.f151.results.toList S_Zde.ps S_Zde.rs)=S_Zde.fn x:=by kernel_rfl
theorem Zde_env:EnvOk Tryz.prog E_Zde:=envOk (E:=E_Zde) cd_ok tys fl_ok fun f ds S h=>by cases h
theorem Zde_L0_ok:LoopOk Tryz.prog E_Zde Tryz.f151.ntmps (kqOf S_Zde.ps 0) (loopAt 0 (Tryz.f151.body.getD .skip)) ⟨[(0,.ptr [(.own 6),(.v (.int .i64))]),(5,.f (.v (.int .i64)))],[(.exit 0,[(0,.ptr [(.own 6),(.v (.int .i64))])])],Zde_L0,[]⟩:=
  loop_ok (A:=A_Zde) (done:=[]) (c0:=(Tryz.f151.body.getD .skip)) hmix Zde_env done_nil rounds (by kernel_rfl) (by kernel_rfl) (fun x=>Zde_L0_eq x.1 x.2.1) (fun _=>rfl)
theorem Zde_ok:SoundT Tryz.prog cd gdn 151 S_Zde:=
  sound_fn (E:=E_Zde) (A:=A_Zde) (done:=[0]) (c:=(Tryz.f151.body.getD .skip)) (S:=S_Zde) (fn:=Tryz.f151) hmix Zde_env Tryz.func151 rfl (by kernel_rfl) (by kernel_rfl) (done_cons rfl Zde_L0_ok done_nil) (by kernel_rfl) (by kernel_rfl) Zde_eq
def Zcc (a0:((List (CborFrame)) × Int × Unit)) (a1:ApiItem):Option ((((List (CborFrame)) × Int × Unit) × Unit) × (Int × Unit)):=
 (bif (decide (a1.kind=(4:Int))) then ((Zcr a1.data).bind fun r1=>(bif (!r1.2.1) then (some (((a0.1,a0.2.1,()),()),((6:Int),())))
 else ((Zcw (⟨a0.1,a0.2.1⟩:CborWalk)).bind fun r2=>(bif r2.2.1 then (bif (decide ((0:Int) ≤ (IntKind.wrap .i64 (((a0.1).length:Int) - (1:Int)))) && decide ((IntKind.wrap .i64 (((a0.1).length:Int) - (1:Int))) < ((a0.1).length:Int))) then ((Zcu [] a1).bind fun r3=>(((a0.1)[((IntKind.wrap .i64 (((a0.1).length:Int) - (1:Int)))).toNat]?).bind fun x4=>(bif (!(x4.last_).isEmpty) then (((a0.1)[((IntKind.wrap .i64 (((a0.1).length:Int) - (1:Int)))).toNat]?).bind fun x5=>((Zdo x5.last_ r3.2.1).bind fun r6=>(bif (!r6.2.1) then (some (((a0.1,a0.2.1,()),()),((7:Int),())))
 else (((a0.1)[((IntKind.wrap .i64 (((a0.1).length:Int) - (1:Int)))).toNat]?).bind fun x7=>(bif (r3.2.1).isEmpty then none
 else (let v8:List (CborFrame):=(List.set a0.1 ((IntKind.wrap .i64 (((a0.1).length:Int) - (1:Int)))).toNat (⟨x7.pairs,x7.left,r3.2.1⟩:CborFrame))
 ((Zde (v8,a0.2.1,()) a1).bind fun r9=>(some (((r9.1.1.1,r9.1.1.2.1,()),()),((0:Int),()))))))))))
 else (((a0.1)[((IntKind.wrap .i64 (((a0.1).length:Int) - (1:Int)))).toNat]?).bind fun x10=>(bif (r3.2.1).isEmpty then none
 else (let v11:List (CborFrame):=(List.set a0.1 ((IntKind.wrap .i64 (((a0.1).length:Int) - (1:Int)))).toNat (⟨x10.pairs,x10.left,r3.2.1⟩:CborFrame))
 ((Zde (v11,a0.2.1,()) a1).bind fun r12=>(some (((r12.1.1.1,r12.1.1.2.1,()),()),((0:Int),()))))))))))
 else none)
 else ((Zde (a0.1,a0.2.1,()) a1).bind fun r13=>(some (((r13.1.1.1,r13.1.1.2.1,()),()),((0:Int),()))))))))
 else ((Zcw (⟨a0.1,a0.2.1⟩:CborWalk)).bind fun r14=>(bif r14.2.1 then (bif (decide ((0:Int) ≤ (IntKind.wrap .i64 (((a0.1).length:Int) - (1:Int)))) && decide ((IntKind.wrap .i64 (((a0.1).length:Int) - (1:Int))) < ((a0.1).length:Int))) then ((Zcu [] a1).bind fun r15=>(((a0.1)[((IntKind.wrap .i64 (((a0.1).length:Int) - (1:Int)))).toNat]?).bind fun x16=>(bif (!(x16.last_).isEmpty) then (((a0.1)[((IntKind.wrap .i64 (((a0.1).length:Int) - (1:Int)))).toNat]?).bind fun x17=>((Zdo x17.last_ r15.2.1).bind fun r18=>(bif (!r18.2.1) then (some (((a0.1,a0.2.1,()),()),((7:Int),())))
 else (((a0.1)[((IntKind.wrap .i64 (((a0.1).length:Int) - (1:Int)))).toNat]?).bind fun x19=>(bif (r15.2.1).isEmpty then none
 else (let v20:List (CborFrame):=(List.set a0.1 ((IntKind.wrap .i64 (((a0.1).length:Int) - (1:Int)))).toNat (⟨x19.pairs,x19.left,r15.2.1⟩:CborFrame))
 ((Zde (v20,a0.2.1,()) a1).bind fun r21=>(some (((r21.1.1.1,r21.1.1.2.1,()),()),((0:Int),()))))))))))
 else (((a0.1)[((IntKind.wrap .i64 (((a0.1).length:Int) - (1:Int)))).toNat]?).bind fun x22=>(bif (r15.2.1).isEmpty then none
 else (let v23:List (CborFrame):=(List.set a0.1 ((IntKind.wrap .i64 (((a0.1).length:Int) - (1:Int)))).toNat (⟨x22.pairs,x22.left,r15.2.1⟩:CborFrame))
 ((Zde (v23,a0.2.1,()) a1).bind fun r24=>(some (((r24.1.1.1,r24.1.1.2.1,()),()),((0:Int),()))))))))))
 else none)
 else ((Zde (a0.1,a0.2.1,()) a1).bind fun r25=>(some (((r25.1.1.1,r25.1.1.2.1,()),()),((0:Int),())))))))
def S_Zcc:FSpec T:=⟨[.ptr [(.own 6),(.v (.int .i64))],.f (.v (.agg 1))],[(.v (.int .i64))],fun x=>Zcc x.1 x.2.1⟩
def E_Zcc:Env T:=⟨tab.find,cd,globs,flc,fun f ds=>match f with
    | 49=>some S_Zcr
    | 79=>some S_Zcu
    | 149=>some S_Zcw
    | 150=>some S_Zdo
    | 151=>some S_Zde
    | _=>none,fun f=>match f with
    | 49=>true
    | 149=>true
    | 150=>true
    | _=>false⟩
def A_Zcc:Loc2 T:=⟨fun id=>match id with
    | _=>none,fun r=>match r with
    | _=>none,fun r=>match r with
    | _=>false⟩
theorem Zcc_eq (x:tySs T S_Zcc.ps):run E_Zcc A_Zcc (Tryz.f116.body.getD .skip) (enterT E_Zcc.C S_Zcc.ps x) (retK E_Zcc Tryz.f116.results.toList S_Zcc.ps S_Zcc.rs)=S_Zcc.fn x:=by kernel_rfl
theorem Zcc_env:EnvOk Tryz.prog E_Zcc:=envOk (E:=E_Zcc) cd_ok tys fl_ok fun f ds S h=>by
    dsimp only [E_Zcc] at h
    split at h
    · cases h; exact Zcr_ok
    · cases h; exact Zcu_ok
    · cases h; exact Zcw_ok
    · cases h; exact Zdo_ok
    · cases h; exact Zde_ok
    · cases h
theorem Zcc_ok:SoundT Tryz.prog cd gdn 116 S_Zcc:=
  sound_fn (E:=E_Zcc) (A:=A_Zcc) (done:=[]) (c:=(Tryz.f116.body.getD .skip)) (S:=S_Zcc) (fn:=Tryz.f116) hmix Zcc_env Tryz.func116 rfl (by kernel_rfl) (by kernel_rfl) done_nil (by kernel_rfl) (by kernel_rfl) Zcc_eq
def Zbo (a0:((List (CborFrame)) × Int × Unit)) (a1:ApiItem):Option ((((List (CborFrame)) × Int × Unit) × Unit) × (Int × Unit)):=
 ((Zdd (⟨a0.1,a0.2.1⟩:CborWalk)).bind fun r1=>(bif r1.2.1 then (some (((a0.1,a0.2.1,()),()),((2:Int),())))
 else ((Zcv (⟨a0.1,a0.2.1⟩:CborWalk) a1.kind).bind fun r2=>(bif (!decide (r2.2.1=(0:Int))) then (some (((a0.1,a0.2.1,()),()),(r2.2.1,())))
 else ((Zdw a1).bind fun r3=>(bif (!r3.2.1) then (some (((a0.1,a0.2.1,()),()),((4:Int),())))
 else (bif (decide ((1024:Int) < ((a1.data).length:Int))) then (some (((a0.1,a0.2.1,()),()),((8:Int),())))
 else (bif (decide (a1.kind=(5:Int))) then (bif (decide ((512#64).toNat < a1.number.toNat)) then (some (((a0.1,a0.2.1,()),()),((8:Int),())))
 else ((Zcc (a0.1,a0.2.1,()) a1).bind fun r4=>(some (((r4.1.1.1,r4.1.1.2.1,()),()),(r4.2.1,())))))
 else (bif (decide (a1.kind=(6:Int))) then (bif (decide ((512#64).toNat < a1.number.toNat)) then (some (((a0.1,a0.2.1,()),()),((8:Int),())))
 else ((Zcc (a0.1,a0.2.1,()) a1).bind fun r5=>(some (((r5.1.1.1,r5.1.1.2.1,()),()),(r5.2.1,())))))
 else ((Zcc (a0.1,a0.2.1,()) a1).bind fun r6=>(some (((r6.1.1.1,r6.1.1.2.1,()),()),(r6.2.1,())))))))))))))
def S_Zbo:FSpec T:=⟨[.ptr [(.own 6),(.v (.int .i64))],.f (.v (.agg 1))],[(.v (.int .i64))],fun x=>Zbo x.1 x.2.1⟩
def E_Zbo:Env T:=⟨tab.find,cd,globs,flc,fun f ds=>match f with
    | 83=>some S_Zdd
    | 115=>some S_Zcv
    | 116=>some S_Zcc
    | 146=>some S_Zdw
    | _=>none,fun f=>match f with
    | 83=>true
    | 115=>true
    | 146=>true
    | _=>false⟩
def A_Zbo:Loc2 T:=⟨fun id=>match id with
    | _=>none,fun r=>match r with
    | _=>none,fun r=>match r with
    | _=>false⟩
theorem Zbo_eq (x:tySs T S_Zbo.ps):run E_Zbo A_Zbo (Tryz.f110.body.getD .skip) (enterT E_Zbo.C S_Zbo.ps x) (retK E_Zbo Tryz.f110.results.toList S_Zbo.ps S_Zbo.rs)=S_Zbo.fn x:=by kernel_rfl
theorem Zbo_env:EnvOk Tryz.prog E_Zbo:=envOk (E:=E_Zbo) cd_ok tys fl_ok fun f ds S h=>by
    dsimp only [E_Zbo] at h
    split at h
    · cases h; exact Zdd_ok
    · cases h; exact Zcv_ok
    · cases h; exact Zcc_ok
    · cases h; exact Zdw_ok
    · cases h
theorem Zbo_ok:SoundT Tryz.prog cd gdn 110 S_Zbo:=
  sound_fn (E:=E_Zbo) (A:=A_Zbo) (done:=[]) (c:=(Tryz.f110.body.getD .skip)) (S:=S_Zbo) (fn:=Tryz.f110) hmix Zbo_env Tryz.func110 rfl (by kernel_rfl) (by kernel_rfl) done_nil (by kernel_rfl) (by kernel_rfl) Zbo_eq
def Zdi_L0b (y0:((List (CborFrame)) × Int × Unit)) (y1:(List (ApiItem))) (y2:Int) (y3:Int):Option ((((List (CborFrame)) × Int × Unit) × (List (ApiItem)) × Int × Int × Unit) ⊕ ((Int × Unit) ⊕ (((List (CborFrame)) × Int × Unit) × Unit))):=
 (bif (decide (y3 < y2)) then ((getI y1 y3).bind fun x1=>((Zbo (y0.1,y0.2.1,()) x1).bind fun r2=>(bif (!decide (r2.2.1=(0:Int))) then (some (Sum.inr (Sum.inl (r2.2.1,()))))
 else (some (Sum.inl ((r2.1.1.1,r2.1.1.2.1,()),y1,y2,(IntKind.wrap .i64 (y3 + (1:Int))),()))))))
 else (some (Sum.inr (Sum.inr ((y0.1,y0.2.1,()),())))))
def Zdi_L0 (y:(((List (CborFrame)) × Int × Unit) × (List (ApiItem)) × Int × Int × Unit)):Option ((Int × Unit) ⊕ (((List (CborFrame)) × Int × Unit) × Unit)):=iter (fun (y:(((List (CborFrame)) × Int × Unit) × (List (ApiItem)) × Int × Int × Unit))=>Zdi_L0b y.1 y.2.1 y.2.2.1 y.2.2.2.1) rounds y
def Zdi (a0:(List (ApiItem))):Option ((Unit) × (Int × Unit)):=
 ((Zdi_L0 (([],(0:Int),()),a0,((a0).length:Int),(0:Int),())).bind (Sum.elim (fun (z3:(Int × Unit))=>(some ((),(z3.1,())))) (fun (z4:(((List (CborFrame)) × Int × Unit) × Unit))=>((Zdd (⟨z4.1.1,z4.1.2.1⟩:CborWalk)).bind fun r5=>(bif (!r5.2.1) then (some ((),((1:Int),())))
 else (some ((),((0:Int),()))))))))
def S_Zdi:FSpec T:=⟨[.f (.v (.rs 1))],[(.v (.int .i64))],fun x=>Zdi x.1⟩
def E_Zdi:Env T:=⟨tab.find,cd,globs,flc,fun f ds=>match f with
    | 83=>some S_Zdd
    | 110=>some S_Zbo
    | _=>none,fun f=>match f with
    | 83=>true
    | _=>false⟩
def A_Zdi:Loc2 T:=⟨fun id=>match id with
    | 0=>some ⟨[(3,.ptr [(.own 6),(.v (.int .i64))]),(7,.f (.v (.rs 1))),(8,.f (.v (.int .i64))),(9,.f (.v (.int .i64)))],[(.ret,[(2,.f (.v (.int .i64)))]),(.exit 0,[(3,.ptr [(.own 6),(.v (.int .i64))])])],Zdi_L0,[]⟩
    | _=>none,fun r=>match r with
    | _=>none,fun r=>match r with
    | _=>false⟩
theorem Zdi_L0_eq (y0:((List (CborFrame)) × Int × Unit)) (y1:(List (ApiItem))) (y2:Int) (y3:Int):run E_Zdi A_Zdi (loopAt 0 (Tryz.f78.body.getD .skip)) (layC cd [(3,.ptr [(.own 6),(.v (.int .i64))]),(7,.f (.v (.rs 1))),(8,.f (.v (.int .i64))),(9,.f (.v (.int .i64)))] [] (y0,y1,y2,y3,())) (roundK cd [(3,.ptr [(.own 6),(.v (.int .i64))]),(7,.f (.v (.rs 1))),(8,.f (.v (.int .i64))),(9,.f (.v (.int .i64)))] [] [(.ret,[(2,.f (.v (.int .i64)))]),(.exit 0,[(3,.ptr [(.own 6),(.v (.int .i64))])])])=Zdi_L0b y0 y1 y2 y3:=by kernel_rfl
theorem Zdi_eq (x:tySs T S_Zdi.ps):run E_Zdi A_Zdi (Tryz.f78.body.getD .skip) (enterT E_Zdi.C S_Zdi.ps x) (retK E_Zdi Tryz.f78.results.toList S_Zdi.ps S_Zdi.rs)=S_Zdi.fn x:=by kernel_rfl
theorem Zdi_env:EnvOk Tryz.prog E_Zdi:=envOk (E:=E_Zdi) cd_ok tys fl_ok fun f ds S h=>by
    dsimp only [E_Zdi] at h
    split at h
    · cases h; exact Zdd_ok
    · cases h; exact Zbo_ok
    · cases h
theorem Zdi_L0_ok:LoopOk Tryz.prog E_Zdi Tryz.f78.ntmps (kqOf S_Zdi.ps 0) (loopAt 0 (Tryz.f78.body.getD .skip)) ⟨[(3,.ptr [(.own 6),(.v (.int .i64))]),(7,.f (.v (.rs 1))),(8,.f (.v (.int .i64))),(9,.f (.v (.int .i64)))],[(.ret,[(2,.f (.v (.int .i64)))]),(.exit 0,[(3,.ptr [(.own 6),(.v (.int .i64))])])],Zdi_L0,[]⟩:=
  loop_ok (A:=A_Zdi) (done:=[]) (c0:=(Tryz.f78.body.getD .skip)) hmix Zdi_env done_nil rounds (by kernel_rfl) (by kernel_rfl) (fun x=>Zdi_L0_eq x.1 x.2.1 x.2.2.1 x.2.2.2.1) (fun _=>rfl)
theorem Zdi_ok:SoundT Tryz.prog cd gdn 78 S_Zdi:=
  sound_fn (E:=E_Zdi) (A:=A_Zdi) (done:=[0]) (c:=(Tryz.f78.body.getD .skip)) (S:=S_Zdi) (fn:=Tryz.f78) hmix Zdi_env Tryz.func78 rfl (by kernel_rfl) (by kernel_rfl) (done_cons rfl Zdi_L0_ok done_nil) (by kernel_rfl) (by kernel_rfl) Zdi_eq
def Zdv_L0b (y0:(List (List ApiItem))) (y1:Int) (y2:Int):Option (((List (List ApiItem)) × Int × Int × Unit) ⊕ ((Int × Unit) ⊕ (Unit))):=
 (bif (decide (y2 < y1)) then ((getI y0 y2).bind fun x1=>((Zdi x1).bind fun r2=>(bif (!decide (r2.2.1=(0:Int))) then (some (Sum.inr (Sum.inl (r2.2.1,()))))
 else (some (Sum.inl (y0,y1,(IntKind.wrap .i64 (y2 + (1:Int))),()))))))
 else (some (Sum.inr (Sum.inr ()))))
def Zdv_L0 (y:((List (List ApiItem)) × Int × Int × Unit)):Option ((Int × Unit) ⊕ (Unit)):=iter (fun (y:((List (List ApiItem)) × Int × Int × Unit))=>Zdv_L0b y.1 y.2.1 y.2.2.1) rounds y
def Zdv (a0:(List (List ApiItem))):Option ((Unit) × (Int × Unit)):=
 ((Zdv_L0 (a0,((a0).length:Int),(0:Int),())).bind (Sum.elim (fun (z3:(Int × Unit))=>(some ((),(z3.1,())))) (fun (z4:(Unit))=>(some ((),((0:Int),()))))))
def S_Zdv:FSpec T:=⟨[.f (.v (.rs 4))],[(.v (.int .i64))],fun x=>Zdv x.1⟩
def E_Zdv:Env T:=⟨tab.find,cd,globs,flc,fun f ds=>match f with
    | 78=>some S_Zdi
    | _=>none,fun f=>match f with
    | 78=>true
    | _=>false⟩
def A_Zdv:Loc2 T:=⟨fun id=>match id with
    | 0=>some ⟨[(6,.f (.v (.rs 4))),(7,.f (.v (.int .i64))),(8,.f (.v (.int .i64)))],[(.ret,[(2,.f (.v (.int .i64)))]),(.exit 0,[])],Zdv_L0,[]⟩
    | _=>none,fun r=>match r with
    | _=>none,fun r=>match r with
    | _=>false⟩
theorem Zdv_L0_eq (y0:(List (List ApiItem))) (y1:Int) (y2:Int):run E_Zdv A_Zdv (loopAt 0 (Tryz.f76.body.getD .skip)) (layC cd [(6,.f (.v (.rs 4))),(7,.f (.v (.int .i64))),(8,.f (.v (.int .i64)))] [] (y0,y1,y2,())) (roundK cd [(6,.f (.v (.rs 4))),(7,.f (.v (.int .i64))),(8,.f (.v (.int .i64)))] [] [(.ret,[(2,.f (.v (.int .i64)))]),(.exit 0,[])])=Zdv_L0b y0 y1 y2:=by kernel_rfl
theorem Zdv_eq (x:tySs T S_Zdv.ps):run E_Zdv A_Zdv (Tryz.f76.body.getD .skip) (enterT E_Zdv.C S_Zdv.ps x) (retK E_Zdv Tryz.f76.results.toList S_Zdv.ps S_Zdv.rs)=S_Zdv.fn x:=by kernel_rfl
theorem Zdv_env:EnvOk Tryz.prog E_Zdv:=envOk (E:=E_Zdv) cd_ok tys fl_ok fun f ds S h=>by
    dsimp only [E_Zdv] at h
    split at h
    · cases h; exact Zdi_ok
    · cases h
theorem Zdv_L0_ok:LoopOk Tryz.prog E_Zdv Tryz.f76.ntmps (kqOf S_Zdv.ps 0) (loopAt 0 (Tryz.f76.body.getD .skip)) ⟨[(6,.f (.v (.rs 4))),(7,.f (.v (.int .i64))),(8,.f (.v (.int .i64)))],[(.ret,[(2,.f (.v (.int .i64)))]),(.exit 0,[])],Zdv_L0,[]⟩:=
  loop_ok (A:=A_Zdv) (done:=[]) (c0:=(Tryz.f76.body.getD .skip)) hmix Zdv_env done_nil rounds (by kernel_rfl) (by kernel_rfl) (fun x=>Zdv_L0_eq x.1 x.2.1 x.2.2.1) (fun _=>rfl)
theorem Zdv_ok:SoundT Tryz.prog cd gdn 76 S_Zdv:=
  sound_fn (E:=E_Zdv) (A:=A_Zdv) (done:=[0]) (c:=(Tryz.f76.body.getD .skip)) (S:=S_Zdv) (fn:=Tryz.f76) hmix Zdv_env Tryz.func76 rfl (by kernel_rfl) (by kernel_rfl) (done_cons rfl Zdv_L0_ok done_nil) (by kernel_rfl) (by kernel_rfl) Zdv_eq
def Zdn (a0:(List (ApiItem))):Option ((Unit) × ((List (ApiItem)) × Int × Unit)):=
 ((Zdi a0).bind fun r1=>(bif (!decide (r1.2.1=(0:Int))) then (some ((),([],r1.2.1,())))
 else (some ((),(a0,(0:Int),())))))
def S_Zdn:FSpec T:=⟨[.f (.v (.rs 1))],[(.v (.rs 1)),(.v (.int .i64))],fun x=>Zdn x.1⟩
def E_Zdn:Env T:=⟨tab.find,cd,globs,flc,fun f ds=>match f with
    | 78=>some S_Zdi
    | _=>none,fun f=>match f with
    | 78=>true
    | _=>false⟩
def A_Zdn:Loc2 T:=⟨fun id=>match id with
    | _=>none,fun r=>match r with
    | _=>none,fun r=>match r with
    | _=>false⟩
theorem Zdn_eq (x:tySs T S_Zdn.ps):run E_Zdn A_Zdn (Tryz.f77.body.getD .skip) (enterT E_Zdn.C S_Zdn.ps x) (retK E_Zdn Tryz.f77.results.toList S_Zdn.ps S_Zdn.rs)=S_Zdn.fn x:=by kernel_rfl
theorem Zdn_env:EnvOk Tryz.prog E_Zdn:=envOk (E:=E_Zdn) cd_ok tys fl_ok fun f ds S h=>by
    dsimp only [E_Zdn] at h
    split at h
    · cases h; exact Zdi_ok
    · cases h
theorem Zdn_ok:SoundT Tryz.prog cd gdn 77 S_Zdn:=
  sound_fn (E:=E_Zdn) (A:=A_Zdn) (done:=[]) (c:=(Tryz.f77.body.getD .skip)) (S:=S_Zdn) (fn:=Tryz.f77) hmix Zdn_env Tryz.func77 rfl (by kernel_rfl) (by kernel_rfl) done_nil (by kernel_rfl) (by kernel_rfl) Zdn_eq
def cbor_Map_L0b (y0:(List (List ApiItem))) (y1:(List (BitVec 64))) (y2:(List (Int))) (y3:Int) (y4:Int):Option (((List (List ApiItem)) × (List (BitVec 64)) × (List (Int)) × Int × Int × Unit) ⊕ ((List (List ApiItem)) × (List (BitVec 64)) × (List (Int)) × Unit)):=
 (bif (decide (y4 < y3)) then (bif (decide ((0:Int) ≤ y4) && decide (y4 < ((y2).length:Int))) then (((y2)[(y4).toNat]?).bind fun x2=>(some (Sum.inl (y0,y1,(List.set y2 (y4).toNat y4),y3,(IntKind.wrap .i64 (y4 + (1:Int))),()))))
 else none)
 else (some (Sum.inr (y0,y1,y2,()))))
def cbor_Map_L0 (y:((List (List ApiItem)) × (List (BitVec 64)) × (List (Int)) × Int × Int × Unit)):Option ((List (List ApiItem)) × (List (BitVec 64)) × (List (Int)) × Unit):=iter (fun (y:((List (List ApiItem)) × (List (BitVec 64)) × (List (Int)) × Int × Int × Unit))=>cbor_Map_L0b y.1 y.2.1 y.2.2.1 y.2.2.2.1 y.2.2.2.2.1) rounds y
def cbor_Map_L2b (y0:(List (List ApiItem))) (y1:(List (BitVec 64))) (y2:(List (Int))) (y3:Int):Option (((List (List ApiItem)) × (List (BitVec 64)) × (List (Int)) × Int × Unit) ⊕ (((List (ApiItem)) × Int × Unit) ⊕ ((List (List ApiItem)) × (List (BitVec 64)) × (List (Int)) × Unit))):=
 (bif (decide (y3 < ((y2).length:Int))) then (bif (decide ((0:Int) ≤ (IntKind.wrap .i64 (y3 - (1:Int)))) && decide ((IntKind.wrap .i64 (y3 - (1:Int))) < ((y2).length:Int))) then (((y2)[((IntKind.wrap .i64 (y3 - (1:Int)))).toNat]?).bind fun x5=>((getI y1 x5).bind fun x6=>(bif (decide ((0:Int) ≤ y3) && decide (y3 < ((y2).length:Int))) then (((y2)[(y3).toNat]?).bind fun x7=>((getI y1 x7).bind fun x8=>(bif (decide (x6=x8)) then (some (Sum.inr (Sum.inl ([],(10:Int),()))))
 else (some (Sum.inl (y0,y1,y2,(IntKind.wrap .i64 (y3 + (1:Int))),()))))))
 else none)))
 else none)
 else (some (Sum.inr (Sum.inr (y0,y1,y2,())))))
def cbor_Map_L2 (y:((List (List ApiItem)) × (List (BitVec 64)) × (List (Int)) × Int × Unit)):Option (((List (ApiItem)) × Int × Unit) ⊕ ((List (List ApiItem)) × (List (BitVec 64)) × (List (Int)) × Unit)):=iter (fun (y:((List (List ApiItem)) × (List (BitVec 64)) × (List (Int)) × Int × Unit))=>cbor_Map_L2b y.1 y.2.1 y.2.2.1 y.2.2.2.1) rounds y
def cbor_Map_L4b (y0:(List (List ApiItem))) (y1:(List (BitVec 64))) (y2:(List (ApiItem))) (y3:(List (Int))) (y4:Int) (y5:Int):Option (((List (List ApiItem)) × (List (BitVec 64)) × (List (ApiItem)) × (List (Int)) × Int × Int × Unit) ⊕ ((List (ApiItem)) × Unit)):=
 (bif (decide (y5 < y4)) then (bif (decide ((0:Int) ≤ y5) && decide (y5 < ((y3).length:Int))) then (((y3)[(y5).toNat]?).bind fun x13=>(bif (decide ((512:Int) < ((y2).length:Int))) then (some (Sum.inr (y2,())))
 else ((getI y1 x13).bind fun x14=>((Zeh x14).bind fun r15=>(bif small ((y2).length + (r15.2.1:List (ApiItem)).length) 32 then ((getI y0 x13).bind fun x16=>(bif small (((y2 ++ r15.2.1)).length + (x16:List (ApiItem)).length) 32 then (some (Sum.inl (y0,y1,((y2 ++ r15.2.1) ++ x16),y3,y4,(IntKind.wrap .i64 (y5 + (1:Int))),())))
 else none))
 else none)))))
 else none)
 else (some (Sum.inr (y2,()))))
def cbor_Map_L4 (y:((List (List ApiItem)) × (List (BitVec 64)) × (List (ApiItem)) × (List (Int)) × Int × Int × Unit)):Option ((List (ApiItem)) × Unit):=iter (fun (y:((List (List ApiItem)) × (List (BitVec 64)) × (List (ApiItem)) × (List (Int)) × Int × Int × Unit))=>cbor_Map_L4b y.1 y.2.1 y.2.2.1 y.2.2.2.1 y.2.2.2.2.1 y.2.2.2.2.2.1) rounds y
def cbor_Map (a0:(List (BitVec 64))) (a1:(List (List ApiItem))):Option ((Unit) × ((List (ApiItem)) × Int × Unit)):=
 (bif (!decide (((a0).length:Int)=((a1).length:Int))) then (some ((),([],(4:Int),())))
 else (bif (decide ((0:Int) ≤ ((a0).length:Int)) && (decide (((a0).length:Int) ≤ ((a0).length:Int)) && decide ((8:Int) * ((a0).length:Int) ≤ 281474976710656 ∧ ((a0).length:Int) ≤ 9223372036854775807))) then (let v1:List (Int):=(List.replicate (((a0).length:Int)).toNat (0:Int))
 ((cbor_Map_L0 (a1,a0,v1,((((a0).length:Int)).toNat:Int),(0:Int),())).bind (fun (z3:((List (List ApiItem)) × (List (BitVec 64)) × (List (Int)) × Unit))=>((Zal z3.2.2.1 (z3.2.1,())).bind fun r4=>((cbor_Map_L2 (z3.1,z3.2.1,r4.1.1,(1:Int),())).bind (Sum.elim (fun (z9:((List (ApiItem)) × Int × Unit))=>(some ((),(z9.1,z9.2.1,())))) (fun (z10:((List (List ApiItem)) × (List (BitVec 64)) × (List (Int)) × Unit))=>((Zdv z10.1).bind fun r11=>(bif (!decide (r11.2.1=(0:Int))) then (some ((),([],r11.2.1,())))
 else (let v12:List (ApiItem):=([(⟨(6:Int),(BitVec.ofInt 64 ((z10.2.1).length:Int)),([]:List UInt8)⟩:ApiItem)]:List (ApiItem))
 ((cbor_Map_L4 (z10.1,z10.2.1,v12,z10.2.2.1,((z10.2.2.1).length:Int),(0:Int),())).bind (fun (z17:((List (ApiItem)) × Unit))=>((Zdn z17.1).bind fun r18=>(some ((),(r18.2.1,r18.2.2.1,()))))))))))))))))
 else none))
def S_cbor_Map:FSpec T:=⟨[.f (.v (.rs 3)),.f (.v (.rs 4))],[(.v (.rs 1)),(.v (.int .i64))],fun x=>cbor_Map x.1 x.2.1⟩
def E_cbor_Map:Env T:=⟨tab.find,cd,globs,flc,fun f ds=>match f with
    | 40=>some S_Zeh
    | 73=>match fnAt ds 1 with
      | some 74=>some S_Zal
      | _=>none
    | 76=>some S_Zdv
    | 77=>some S_Zdn
    | _=>none,fun f=>match f with
    | 76=>true
    | _=>false⟩
def A_cbor_Map:Loc2 T:=⟨fun id=>match id with
    | 0=>some ⟨[(1,.f (.v (.rs 4))),(2,.f (.v (.ref (.rs 3)))),(6,.f (.own 5)),(22,.f (.v (.int .i64))),(23,.f (.v (.int .i64)))],[(.exit 0,[(1,.f (.v (.rs 4))),(2,.f (.v (.ref (.rs 3)))),(6,.f (.own 5))])],cbor_Map_L0,[]⟩
    | 2=>some ⟨[(1,.f (.v (.rs 4))),(2,.f (.v (.ref (.rs 3)))),(6,.f (.own 5)),(8,.f (.v (.int .i64)))],[(.ret,[(4,.f (.own 1)),(5,.f (.v (.int .i64)))]),(.exit 2,[(1,.f (.v (.rs 4))),(2,.f (.v (.ref (.rs 3)))),(6,.f (.own 5))])],cbor_Map_L2,[]⟩
    | 4=>some ⟨[(1,.f (.v (.rs 4))),(2,.f (.v (.ref (.rs 3)))),(10,.f (.own 1)),(66,.f (.own 5)),(67,.f (.v (.int .i64))),(68,.f (.v (.int .i64)))],[(.exit 4,[(10,.f (.own 1))])],cbor_Map_L4,[]⟩
    | _=>none,fun r=>match r with
    | _=>none,fun r=>match r with
    | _=>false⟩
theorem cbor_Map_L0_eq (y0:(List (List ApiItem))) (y1:(List (BitVec 64))) (y2:(List (Int))) (y3:Int) (y4:Int):run E_cbor_Map A_cbor_Map (loopAt 0 (Tryz.f37.body.getD .skip)) (layC cd [(1,.f (.v (.rs 4))),(2,.f (.v (.ref (.rs 3)))),(6,.f (.own 5)),(22,.f (.v (.int .i64))),(23,.f (.v (.int .i64)))] [] (y0,y1,y2,y3,y4,())) (roundK cd [(1,.f (.v (.rs 4))),(2,.f (.v (.ref (.rs 3)))),(6,.f (.own 5)),(22,.f (.v (.int .i64))),(23,.f (.v (.int .i64)))] [] [(.exit 0,[(1,.f (.v (.rs 4))),(2,.f (.v (.ref (.rs 3)))),(6,.f (.own 5))])])=cbor_Map_L0b y0 y1 y2 y3 y4:=by kernel_rfl
theorem cbor_Map_L2_eq (y0:(List (List ApiItem))) (y1:(List (BitVec 64))) (y2:(List (Int))) (y3:Int):run E_cbor_Map A_cbor_Map (loopAt 2 (Tryz.f37.body.getD .skip)) (layC cd [(1,.f (.v (.rs 4))),(2,.f (.v (.ref (.rs 3)))),(6,.f (.own 5)),(8,.f (.v (.int .i64)))] [] (y0,y1,y2,y3,())) (roundK cd [(1,.f (.v (.rs 4))),(2,.f (.v (.ref (.rs 3)))),(6,.f (.own 5)),(8,.f (.v (.int .i64)))] [] [(.ret,[(4,.f (.own 1)),(5,.f (.v (.int .i64)))]),(.exit 2,[(1,.f (.v (.rs 4))),(2,.f (.v (.ref (.rs 3)))),(6,.f (.own 5))])])=cbor_Map_L2b y0 y1 y2 y3:=by kernel_rfl
theorem cbor_Map_L4_eq (y0:(List (List ApiItem))) (y1:(List (BitVec 64))) (y2:(List (ApiItem))) (y3:(List (Int))) (y4:Int) (y5:Int):run E_cbor_Map A_cbor_Map (loopAt 4 (Tryz.f37.body.getD .skip)) (layC cd [(1,.f (.v (.rs 4))),(2,.f (.v (.ref (.rs 3)))),(10,.f (.own 1)),(66,.f (.own 5)),(67,.f (.v (.int .i64))),(68,.f (.v (.int .i64)))] [] (y0,y1,y2,y3,y4,y5,())) (roundK cd [(1,.f (.v (.rs 4))),(2,.f (.v (.ref (.rs 3)))),(10,.f (.own 1)),(66,.f (.own 5)),(67,.f (.v (.int .i64))),(68,.f (.v (.int .i64)))] [] [(.exit 4,[(10,.f (.own 1))])])=cbor_Map_L4b y0 y1 y2 y3 y4 y5:=by kernel_rfl
theorem cbor_Map_eq (x:tySs T S_cbor_Map.ps):run E_cbor_Map A_cbor_Map (Tryz.f37.body.getD .skip) (enterT E_cbor_Map.C S_cbor_Map.ps x) (retK E_cbor_Map Tryz.f37.results.toList S_cbor_Map.ps S_cbor_Map.rs)=S_cbor_Map.fn x:=by kernel_rfl
theorem cbor_Map_env:EnvOk Tryz.prog E_cbor_Map:=envOk (E:=E_cbor_Map) cd_ok tys fl_ok fun f ds S h=>by
    dsimp only [E_cbor_Map] at h
    split at h
    · cases h; exact Zeh_ok
    · split at h
      · cases h; exact Zal_ok
      · cases h
    · cases h; exact Zdv_ok
    · cases h; exact Zdn_ok
    · cases h
theorem cbor_Map_L0_ok:LoopOk Tryz.prog E_cbor_Map Tryz.f37.ntmps (kqOf S_cbor_Map.ps 0) (loopAt 0 (Tryz.f37.body.getD .skip)) ⟨[(1,.f (.v (.rs 4))),(2,.f (.v (.ref (.rs 3)))),(6,.f (.own 5)),(22,.f (.v (.int .i64))),(23,.f (.v (.int .i64)))],[(.exit 0,[(1,.f (.v (.rs 4))),(2,.f (.v (.ref (.rs 3)))),(6,.f (.own 5))])],cbor_Map_L0,[]⟩:=
  loop_ok (A:=A_cbor_Map) (done:=[]) (c0:=(Tryz.f37.body.getD .skip)) hmix cbor_Map_env done_nil rounds (by kernel_rfl) (by kernel_rfl) (fun x=>cbor_Map_L0_eq x.1 x.2.1 x.2.2.1 x.2.2.2.1 x.2.2.2.2.1) (fun _=>rfl)
theorem cbor_Map_L2_ok:LoopOk Tryz.prog E_cbor_Map Tryz.f37.ntmps (kqOf S_cbor_Map.ps 0) (loopAt 2 (Tryz.f37.body.getD .skip)) ⟨[(1,.f (.v (.rs 4))),(2,.f (.v (.ref (.rs 3)))),(6,.f (.own 5)),(8,.f (.v (.int .i64)))],[(.ret,[(4,.f (.own 1)),(5,.f (.v (.int .i64)))]),(.exit 2,[(1,.f (.v (.rs 4))),(2,.f (.v (.ref (.rs 3)))),(6,.f (.own 5))])],cbor_Map_L2,[]⟩:=
  loop_ok (A:=A_cbor_Map) (done:=[0]) (c0:=(Tryz.f37.body.getD .skip)) hmix cbor_Map_env (done_cons rfl cbor_Map_L0_ok done_nil) rounds (by kernel_rfl) (by kernel_rfl) (fun x=>cbor_Map_L2_eq x.1 x.2.1 x.2.2.1 x.2.2.2.1) (fun _=>rfl)
theorem cbor_Map_L4_ok:LoopOk Tryz.prog E_cbor_Map Tryz.f37.ntmps (kqOf S_cbor_Map.ps 0) (loopAt 4 (Tryz.f37.body.getD .skip)) ⟨[(1,.f (.v (.rs 4))),(2,.f (.v (.ref (.rs 3)))),(10,.f (.own 1)),(66,.f (.own 5)),(67,.f (.v (.int .i64))),(68,.f (.v (.int .i64)))],[(.exit 4,[(10,.f (.own 1))])],cbor_Map_L4,[]⟩:=
  loop_ok (A:=A_cbor_Map) (done:=[0,2]) (c0:=(Tryz.f37.body.getD .skip)) hmix cbor_Map_env (done_cons rfl cbor_Map_L0_ok (done_cons rfl cbor_Map_L2_ok done_nil)) rounds (by kernel_rfl) (by kernel_rfl) (fun x=>cbor_Map_L4_eq x.1 x.2.1 x.2.2.1 x.2.2.2.1 x.2.2.2.2.1 x.2.2.2.2.2.1) (fun _=>rfl)
theorem cbor_Map_ok:SoundT Tryz.prog cd gdn 37 S_cbor_Map:=
  sound_fn (E:=E_cbor_Map) (A:=A_cbor_Map) (done:=[0,2,4]) (c:=(Tryz.f37.body.getD .skip)) (S:=S_cbor_Map) (fn:=Tryz.f37) hmix cbor_Map_env Tryz.func37 rfl (by kernel_rfl) (by kernel_rfl) (done_cons rfl cbor_Map_L0_ok (done_cons rfl cbor_Map_L2_ok (done_cons rfl cbor_Map_L4_ok done_nil))) (by kernel_rfl) (by kernel_rfl) cbor_Map_eq
def Zdt_L0b (y0:(List (UInt8))) (y1:(List (ApiItem))) (y2:Int) (y3:Int):Option (((List (UInt8)) × (List (ApiItem)) × Int × Int × Unit) ⊕ ((List (UInt8)) × Unit)):=
 (bif (decide (y3 < y2)) then ((getI y1 y3).bind fun x2=>((Zcu y0 x2).bind fun r3=>(some (Sum.inl (r3.2.1,y1,y2,(IntKind.wrap .i64 (y3 + (1:Int))),())))))
 else (some (Sum.inr (y0,()))))
def Zdt_L0 (y:((List (UInt8)) × (List (ApiItem)) × Int × Int × Unit)):Option ((List (UInt8)) × Unit):=iter (fun (y:((List (UInt8)) × (List (ApiItem)) × Int × Int × Unit))=>Zdt_L0b y.1 y.2.1 y.2.2.1 y.2.2.2.1) rounds y
def Zdt (a0:(List (ApiItem))):Option ((Unit) × ((List (UInt8)) × Int × Unit)):=
 ((Zdi a0).bind fun r1=>(bif (!decide (r1.2.1=(0:Int))) then (some ((),([],r1.2.1,())))
 else ((Zdt_L0 ([],a0,((a0).length:Int),(0:Int),())).bind (fun (z4:((List (UInt8)) × Unit))=>(some ((),(z4.1,(0:Int),())))))))
def S_Zdt:FSpec T:=⟨[.f (.v (.rs 1))],[(.own 0),(.v (.int .i64))],fun x=>Zdt x.1⟩
def E_Zdt:Env T:=⟨tab.find,cd,globs,flc,fun f ds=>match f with
    | 78=>some S_Zdi
    | 79=>some S_Zcu
    | _=>none,fun f=>match f with
    | 78=>true
    | _=>false⟩
def A_Zdt:Loc2 T:=⟨fun id=>match id with
    | 0=>some ⟨[(5,.f (.own 0)),(13,.f (.v (.rs 1))),(14,.f (.v (.int .i64))),(15,.f (.v (.int .i64)))],[(.exit 0,[(5,.f (.own 0))])],Zdt_L0,[]⟩
    | _=>none,fun r=>match r with
    | _=>none,fun r=>match r with
    | _=>false⟩
theorem Zdt_L0_eq (y0:(List (UInt8))) (y1:(List (ApiItem))) (y2:Int) (y3:Int):run E_Zdt A_Zdt (loopAt 0 (Tryz.f42.body.getD .skip)) (layC cd [(5,.f (.own 0)),(13,.f (.v (.rs 1))),(14,.f (.v (.int .i64))),(15,.f (.v (.int .i64)))] [] (y0,y1,y2,y3,())) (roundK cd [(5,.f (.own 0)),(13,.f (.v (.rs 1))),(14,.f (.v (.int .i64))),(15,.f (.v (.int .i64)))] [] [(.exit 0,[(5,.f (.own 0))])])=Zdt_L0b y0 y1 y2 y3:=by kernel_rfl
theorem Zdt_eq (x:tySs T S_Zdt.ps):run E_Zdt A_Zdt (Tryz.f42.body.getD .skip) (enterT E_Zdt.C S_Zdt.ps x) (retK E_Zdt Tryz.f42.results.toList S_Zdt.ps S_Zdt.rs)=S_Zdt.fn x:=by kernel_rfl
theorem Zdt_env:EnvOk Tryz.prog E_Zdt:=envOk (E:=E_Zdt) cd_ok tys fl_ok fun f ds S h=>by
    dsimp only [E_Zdt] at h
    split at h
    · cases h; exact Zdi_ok
    · cases h; exact Zcu_ok
    · cases h
theorem Zdt_L0_ok:LoopOk Tryz.prog E_Zdt Tryz.f42.ntmps (kqOf S_Zdt.ps 0) (loopAt 0 (Tryz.f42.body.getD .skip)) ⟨[(5,.f (.own 0)),(13,.f (.v (.rs 1))),(14,.f (.v (.int .i64))),(15,.f (.v (.int .i64)))],[(.exit 0,[(5,.f (.own 0))])],Zdt_L0,[]⟩:=
  loop_ok (A:=A_Zdt) (done:=[]) (c0:=(Tryz.f42.body.getD .skip)) hmix Zdt_env done_nil rounds (by kernel_rfl) (by kernel_rfl) (fun x=>Zdt_L0_eq x.1 x.2.1 x.2.2.1 x.2.2.2.1) (fun _=>rfl)
theorem Zdt_ok:SoundT Tryz.prog cd gdn 42 S_Zdt:=
  sound_fn (E:=E_Zdt) (A:=A_Zdt) (done:=[0]) (c:=(Tryz.f42.body.getD .skip)) (S:=S_Zdt) (fn:=Tryz.f42) hmix Zdt_env Tryz.func42 rfl (by kernel_rfl) (by kernel_rfl) (done_cons rfl Zdt_L0_ok done_nil) (by kernel_rfl) (by kernel_rfl) Zdt_eq
def Zbq (a0:ApiCredential):Option ((Unit) × ((List (UInt8)) × Int × Unit)):=
 ((Zav a0).bind fun r1=>(bif (!decide (r1.2.1=(0:Int))) then (some ((),([],r1.2.1,())))
 else (let v2:List (BitVec 64):=([1#64,2#64,3#64,4#64,5#64,6#64,7#64,8#64,9#64]:List (BitVec 64))
 ((Zeg a0.rP).bind fun r3=>((Zea a0.user).bind fun r4=>((Zeg a0.name).bind fun r5=>((Zeh a0.seed).bind fun r6=>((Zeh (BitVec.ofInt 64 a0.height)).bind fun r7=>((Zef a0.resident).bind fun r8=>((Zeh (BitVec.ofInt 64 a0.protect)).bind fun r9=>((Zef a0.shared).bind fun r10=>((Zef a0.backed).bind fun r11=>(let v12:List (List ApiItem):=([r3.2.1,r4.2.1,r5.2.1,r6.2.1,r7.2.1,r8.2.1,r9.2.1,r10.2.1,r11.2.1]:List (List ApiItem))
 ((cbor_Map v2 v12).bind fun r13=>(bif (!decide (r13.2.2.1=(0:Int))) then (some ((),([],r13.2.2.1,())))
 else ((Zdt r13.2.1).bind fun r14=>(some ((),(r14.2.1,r14.2.2.1,())))))))))))))))))))
def S_Zbq:FSpec T:=⟨[.f (.v (.agg 2))],[(.own 0),(.v (.int .i64))],fun x=>Zbq x.1⟩
def E_Zbq:Env T:=⟨tab.find,cd,globs,flc,fun f ds=>match f with
    | 14=>some S_Zav
    | 37=>some S_cbor_Map
    | 38=>some S_Zeg
    | 39=>some S_Zea
    | 40=>some S_Zeh
    | 41=>some S_Zef
    | 42=>some S_Zdt
    | _=>none,fun f=>match f with
    | 14=>true
    | _=>false⟩
def A_Zbq:Loc2 T:=⟨fun id=>match id with
    | _=>none,fun r=>match r with
    | _=>none,fun r=>match r with
    | 5=>true
    | _=>false⟩
theorem Zbq_eq (x:tySs T S_Zbq.ps):run E_Zbq A_Zbq (Tryz.f12.body.getD .skip) (enterT E_Zbq.C S_Zbq.ps x) (retK E_Zbq Tryz.f12.results.toList S_Zbq.ps S_Zbq.rs)=S_Zbq.fn x:=by kernel_rfl
theorem Zbq_env:EnvOk Tryz.prog E_Zbq:=envOk (E:=E_Zbq) cd_ok tys fl_ok fun f ds S h=>by
    dsimp only [E_Zbq] at h
    split at h
    · cases h; exact Zav_ok
    · cases h; exact cbor_Map_ok
    · cases h; exact Zeg_ok
    · cases h; exact Zea_ok
    · cases h; exact Zeh_ok
    · cases h; exact Zef_ok
    · cases h; exact Zdt_ok
    · cases h
theorem Zbq_ok:SoundT Tryz.prog cd gdn 12 S_Zbq:=
  sound_fn (E:=E_Zbq) (A:=A_Zbq) (done:=[]) (c:=(Tryz.f12.body.getD .skip)) (S:=S_Zbq) (fn:=Tryz.f12) hmix Zbq_env Tryz.func12 rfl (by kernel_rfl) (by kernel_rfl) done_nil (by kernel_rfl) (by kernel_rfl) Zbq_eq
def Zdp_L2b (y0:(List (UInt8))) (y1:(BitVec 64)) (y2:(List (BitVec 64))) (y3:Int) (y4:Int) (y5:Int):Option (((List (UInt8)) × (BitVec 64) × (List (BitVec 64)) × Int × Int × Int × Unit) ⊕ ((List (UInt8)) × (List (BitVec 64)) × Int × Int × Unit)):=
 (bif (decide (y5 < (8:Int))) then (let v2:Int:=(IntKind.wrap .i64 ((56:Int) - (IntKind.wrap .i64 ((8:Int) * y5))))
 (bif decide ((0:Int) ≤ v2) then (let v3:List (UInt8):=([(UInt8.ofBitVec (BitVec.setWidth 8 (y1 >>> (v2).toNat)))]:List (UInt8))
 (bif small ((y0).length + (v3:List (UInt8)).length) 1 then (some (Sum.inl ((y0 ++ v3),y1,y2,y3,y4,(IntKind.wrap .i64 (y5 + (1:Int))),())))
 else none))
 else none))
 else (some (Sum.inr (y0,y2,y3,y4,()))))
def Zdp_L2 (y:((List (UInt8)) × (BitVec 64) × (List (BitVec 64)) × Int × Int × Int × Unit)):Option ((List (UInt8)) × (List (BitVec 64)) × Int × Int × Unit):=iter (fun (y:((List (UInt8)) × (BitVec 64) × (List (BitVec 64)) × Int × Int × Int × Unit))=>Zdp_L2b y.1 y.2.1 y.2.2.1 y.2.2.2.1 y.2.2.2.2.1 y.2.2.2.2.2.1) rounds y
def Zdp_L0b (y0:(List (UInt8))) (y1:(List (BitVec 64))) (y2:Int) (y3:Int):Option (((List (UInt8)) × (List (BitVec 64)) × Int × Int × Unit) ⊕ ((List (UInt8)) × Unit)):=
 (bif (decide (y3 < y2)) then ((getI y1 y3).bind fun x1=>((Zdp_L2 (y0,x1,y1,y2,y3,(0:Int),())).bind (fun (z2:((List (UInt8)) × (List (BitVec 64)) × Int × Int × Unit))=>(some (Sum.inl (z2.1,z2.2.1,z2.2.2.1,(IntKind.wrap .i64 (z2.2.2.2.1 + (1:Int))),()))))))
 else (some (Sum.inr (y0,()))))
def Zdp_L0 (y:((List (UInt8)) × (List (BitVec 64)) × Int × Int × Unit)):Option ((List (UInt8)) × Unit):=iter (fun (y:((List (UInt8)) × (List (BitVec 64)) × Int × Int × Unit))=>Zdp_L0b y.1 y.2.1 y.2.2.1 y.2.2.2.1) rounds y
def Zdp (a0:(List (BitVec 64))):Option ((Unit) × ((List (UInt8)) × Unit)):=
 (bif (decide ((0:Int) ≤ (0:Int)) && (decide ((0:Int) ≤ (IntKind.wrap .i64 ((8:Int) * ((a0).length:Int)))) && decide ((1:Int) * (IntKind.wrap .i64 ((8:Int) * ((a0).length:Int))) ≤ 281474976710656 ∧ (IntKind.wrap .i64 ((8:Int) * ((a0).length:Int))) ≤ 9223372036854775807))) then ((Zdp_L0 ((List.replicate 0 (0:UInt8)),a0,((a0).length:Int),(0:Int),())).bind (fun (z3:((List (UInt8)) × Unit))=>(some ((),(z3.1,())))))
 else none)
def S_Zdp:FSpec T:=⟨[.f (.v (.rs 3))],[(.own 0)],fun x=>Zdp x.1⟩
def E_Zdp:Env T:=⟨tab.find,cd,globs,flc,fun f ds=>match f with
    | _=>none,fun f=>match f with
    | _=>false⟩
def A_Zdp:Loc2 T:=⟨fun id=>match id with
    | 2=>some ⟨[(3,.f (.own 0)),(5,.f (.v .u64)),(11,.f (.v (.rs 3))),(12,.f (.v (.int .i64))),(13,.f (.v (.int .i64))),(17,.f (.v (.int .i64)))],[(.exit 2,[(3,.f (.own 0)),(11,.f (.v (.rs 3))),(12,.f (.v (.int .i64))),(13,.f (.v (.int .i64)))])],Zdp_L2,[]⟩
    | 0=>some ⟨[(3,.f (.own 0)),(11,.f (.v (.rs 3))),(12,.f (.v (.int .i64))),(13,.f (.v (.int .i64)))],[(.exit 0,[(3,.f (.own 0))])],Zdp_L0,[]⟩
    | _=>none,fun r=>match r with
    | _=>none,fun r=>match r with
    | _=>false⟩
theorem Zdp_L2_eq (y0:(List (UInt8))) (y1:(BitVec 64)) (y2:(List (BitVec 64))) (y3:Int) (y4:Int) (y5:Int):run E_Zdp A_Zdp (loopAt 2 (Tryz.f90.body.getD .skip)) (layC cd [(3,.f (.own 0)),(5,.f (.v .u64)),(11,.f (.v (.rs 3))),(12,.f (.v (.int .i64))),(13,.f (.v (.int .i64))),(17,.f (.v (.int .i64)))] [] (y0,y1,y2,y3,y4,y5,())) (roundK cd [(3,.f (.own 0)),(5,.f (.v .u64)),(11,.f (.v (.rs 3))),(12,.f (.v (.int .i64))),(13,.f (.v (.int .i64))),(17,.f (.v (.int .i64)))] [] [(.exit 2,[(3,.f (.own 0)),(11,.f (.v (.rs 3))),(12,.f (.v (.int .i64))),(13,.f (.v (.int .i64)))])])=Zdp_L2b y0 y1 y2 y3 y4 y5:=by kernel_rfl
theorem Zdp_L0_eq (y0:(List (UInt8))) (y1:(List (BitVec 64))) (y2:Int) (y3:Int):run E_Zdp A_Zdp (loopAt 0 (Tryz.f90.body.getD .skip)) (layC cd [(3,.f (.own 0)),(11,.f (.v (.rs 3))),(12,.f (.v (.int .i64))),(13,.f (.v (.int .i64)))] [] (y0,y1,y2,y3,())) (roundK cd [(3,.f (.own 0)),(11,.f (.v (.rs 3))),(12,.f (.v (.int .i64))),(13,.f (.v (.int .i64)))] [] [(.exit 0,[(3,.f (.own 0))])])=Zdp_L0b y0 y1 y2 y3:=by kernel_rfl
theorem Zdp_eq (x:tySs T S_Zdp.ps):run E_Zdp A_Zdp (Tryz.f90.body.getD .skip) (enterT E_Zdp.C S_Zdp.ps x) (retK E_Zdp Tryz.f90.results.toList S_Zdp.ps S_Zdp.rs)=S_Zdp.fn x:=by kernel_rfl
theorem Zdp_env:EnvOk Tryz.prog E_Zdp:=envOk (E:=E_Zdp) cd_ok tys fl_ok fun f ds S h=>by cases h
theorem Zdp_L2_ok:LoopOk Tryz.prog E_Zdp Tryz.f90.ntmps (kqOf S_Zdp.ps 0) (loopAt 2 (Tryz.f90.body.getD .skip)) ⟨[(3,.f (.own 0)),(5,.f (.v .u64)),(11,.f (.v (.rs 3))),(12,.f (.v (.int .i64))),(13,.f (.v (.int .i64))),(17,.f (.v (.int .i64)))],[(.exit 2,[(3,.f (.own 0)),(11,.f (.v (.rs 3))),(12,.f (.v (.int .i64))),(13,.f (.v (.int .i64)))])],Zdp_L2,[]⟩:=
  loop_ok (A:=A_Zdp) (done:=[]) (c0:=(Tryz.f90.body.getD .skip)) hmix Zdp_env done_nil rounds (by kernel_rfl) (by kernel_rfl) (fun x=>Zdp_L2_eq x.1 x.2.1 x.2.2.1 x.2.2.2.1 x.2.2.2.2.1 x.2.2.2.2.2.1) (fun _=>rfl)
theorem Zdp_L0_ok:LoopOk Tryz.prog E_Zdp Tryz.f90.ntmps (kqOf S_Zdp.ps 0) (loopAt 0 (Tryz.f90.body.getD .skip)) ⟨[(3,.f (.own 0)),(11,.f (.v (.rs 3))),(12,.f (.v (.int .i64))),(13,.f (.v (.int .i64)))],[(.exit 0,[(3,.f (.own 0))])],Zdp_L0,[]⟩:=
  loop_ok (A:=A_Zdp) (done:=[2]) (c0:=(Tryz.f90.body.getD .skip)) hmix Zdp_env (done_cons rfl Zdp_L2_ok done_nil) rounds (by kernel_rfl) (by kernel_rfl) (fun x=>Zdp_L0_eq x.1 x.2.1 x.2.2.1 x.2.2.2.1) (fun _=>rfl)
theorem Zdp_ok:SoundT Tryz.prog cd gdn 90 S_Zdp:=
  sound_fn (E:=E_Zdp) (A:=A_Zdp) (done:=[2,0]) (c:=(Tryz.f90.body.getD .skip)) (S:=S_Zdp) (fn:=Tryz.f90) hmix Zdp_env Tryz.func90 rfl (by kernel_rfl) (by kernel_rfl) (done_cons rfl Zdp_L2_ok (done_cons rfl Zdp_L0_ok done_nil)) (by kernel_rfl) (by kernel_rfl) Zdp_eq
def Zdl_L0b (y0:(BitVec 64)) (y1:(List (UInt8))) (y2:Int) (y3:Int):Option (((BitVec 64) × (List (UInt8)) × Int × Int × Unit) ⊕ ((BitVec 64) × Unit)):=
 (bif (decide (y3 < y2)) then ((getI y1 y3).bind fun x1=>(bif decide ((0:Int) ≤ (IntKind.wrap .i64 ((8:Int) * y3))) then (let v2:BitVec 64:=((BitVec.setWidth 64 x1.toBitVec) <<< ((IntKind.wrap .i64 ((8:Int) * y3))).toNat)
 (some (Sum.inl ((y0 ||| v2),y1,y2,(IntKind.wrap .i64 (y3 + (1:Int))),()))))
 else none))
 else (some (Sum.inr (y0,()))))
def Zdl_L0 (y:((BitVec 64) × (List (UInt8)) × Int × Int × Unit)):Option ((BitVec 64) × Unit):=iter (fun (y:((BitVec 64) × (List (UInt8)) × Int × Int × Unit))=>Zdl_L0b y.1 y.2.1 y.2.2.1 y.2.2.2.1) rounds y
def Zdl (a0:(List (UInt8))):Option ((Unit) × ((BitVec 64) × Unit)):=
 ((Zdl_L0 (0#64,a0,((a0).length:Int),(0:Int),())).bind (fun (z3:((BitVec 64) × Unit))=>(some ((),(z3.1,())))))
def S_Zdl:FSpec T:=⟨[.f (.v (.rs 0))],[(.v .u64)],fun x=>Zdl x.1⟩
def E_Zdl:Env T:=⟨tab.find,cd,globs,flc,fun f ds=>match f with
    | _=>none,fun f=>match f with
    | _=>false⟩
def A_Zdl:Loc2 T:=⟨fun id=>match id with
    | 0=>some ⟨[(3,.f (.v .u64)),(6,.f (.v (.rs 0))),(7,.f (.v (.int .i64))),(8,.f (.v (.int .i64)))],[(.exit 0,[(3,.f (.v .u64))])],Zdl_L0,[]⟩
    | _=>none,fun r=>match r with
    | _=>none,fun r=>match r with
    | _=>false⟩
theorem Zdl_L0_eq (y0:(BitVec 64)) (y1:(List (UInt8))) (y2:Int) (y3:Int):run E_Zdl A_Zdl (loopAt 0 (Tryz.f125.body.getD .skip)) (layC cd [(3,.f (.v .u64)),(6,.f (.v (.rs 0))),(7,.f (.v (.int .i64))),(8,.f (.v (.int .i64)))] [] (y0,y1,y2,y3,())) (roundK cd [(3,.f (.v .u64)),(6,.f (.v (.rs 0))),(7,.f (.v (.int .i64))),(8,.f (.v (.int .i64)))] [] [(.exit 0,[(3,.f (.v .u64))])])=Zdl_L0b y0 y1 y2 y3:=by kernel_rfl
theorem Zdl_eq (x:tySs T S_Zdl.ps):run E_Zdl A_Zdl (Tryz.f125.body.getD .skip) (enterT E_Zdl.C S_Zdl.ps x) (retK E_Zdl Tryz.f125.results.toList S_Zdl.ps S_Zdl.rs)=S_Zdl.fn x:=by kernel_rfl
theorem Zdl_env:EnvOk Tryz.prog E_Zdl:=envOk (E:=E_Zdl) cd_ok tys fl_ok fun f ds S h=>by cases h
theorem Zdl_L0_ok:LoopOk Tryz.prog E_Zdl Tryz.f125.ntmps (kqOf S_Zdl.ps 0) (loopAt 0 (Tryz.f125.body.getD .skip)) ⟨[(3,.f (.v .u64)),(6,.f (.v (.rs 0))),(7,.f (.v (.int .i64))),(8,.f (.v (.int .i64)))],[(.exit 0,[(3,.f (.v .u64))])],Zdl_L0,[]⟩:=
  loop_ok (A:=A_Zdl) (done:=[]) (c0:=(Tryz.f125.body.getD .skip)) hmix Zdl_env done_nil rounds (by kernel_rfl) (by kernel_rfl) (fun x=>Zdl_L0_eq x.1 x.2.1 x.2.2.1 x.2.2.2.1) (fun _=>rfl)
theorem Zdl_ok:SoundT Tryz.prog cd gdn 125 S_Zdl:=
  sound_fn (E:=E_Zdl) (A:=A_Zdl) (done:=[0]) (c:=(Tryz.f125.body.getD .skip)) (S:=S_Zdl) (fn:=Tryz.f125) hmix Zdl_env Tryz.func125 rfl (by kernel_rfl) (by kernel_rfl) (done_cons rfl Zdl_L0_ok done_nil) (by kernel_rfl) (by kernel_rfl) Zdl_eq
def Zam (a0:(BitVec 64)) (a1:Int):Option ((Unit) × ((BitVec 64) × Unit)):=
 (let v1:BitVec 64:=((a0 <<< ((BitVec.ofInt 64 a1) &&& 63#64).toNat) ||| (a0 >>> (64#64 - ((BitVec.ofInt 64 a1) &&& 63#64)).toNat))
 (some ((),(v1,()))))
def S_Zam:FSpec T:=⟨[.f (.v .u64),.f (.v (.int .i64))],[(.v .u64)],fun x=>Zam x.1 x.2.1⟩
def E_Zam:Env T:=⟨tab.find,cd,globs,flc,fun f ds=>match f with
    | _=>none,fun f=>match f with
    | _=>false⟩
def A_Zam:Loc2 T:=⟨fun id=>match id with
    | _=>none,fun r=>match r with
    | _=>none,fun r=>match r with
    | _=>false⟩
theorem Zam_eq (x:tySs T S_Zam.ps):run E_Zam A_Zam (Tryz.f154.body.getD .skip) (enterT E_Zam.C S_Zam.ps x) (retK E_Zam Tryz.f154.results.toList S_Zam.ps S_Zam.rs)=S_Zam.fn x:=by kernel_rfl
theorem Zam_env:EnvOk Tryz.prog E_Zam:=envOk (E:=E_Zam) cd_ok tys fl_ok fun f ds S h=>by cases h
theorem Zam_ok:SoundT Tryz.prog cd gdn 154 S_Zam:=
  sound_fn (E:=E_Zam) (A:=A_Zam) (done:=[]) (c:=(Tryz.f154.body.getD .skip)) (S:=S_Zam) (fn:=Tryz.f154) hmix Zam_env Tryz.func154 rfl (by kernel_rfl) (by kernel_rfl) done_nil (by kernel_rfl) (by kernel_rfl) Zam_eq
def Zax_L0b (y0:(DigestState × Unit)) (y1:Int) (y2:Int):Option (((DigestState × Unit) × Int × Int × Unit) ⊕ ((DigestState × Unit) × Unit)):=
 (bif (decide (y2 < y1)) then ((Zam y0.1.v1 (13:Int)).bind fun r1=>((Zam (y0.1.v0 + y0.1.v1) (32:Int)).bind fun r2=>((Zam y0.1.v3 (16:Int)).bind fun r3=>((Zam (r3.2.1 ^^^ (y0.1.v2 + y0.1.v3)) (21:Int)).bind fun r4=>((Zam (r1.2.1 ^^^ (y0.1.v0 + y0.1.v1)) (17:Int)).bind fun r5=>(let v6:BitVec 64:=(r5.2.1 ^^^ ((y0.1.v2 + y0.1.v3) + (r1.2.1 ^^^ (y0.1.v0 + y0.1.v1))))
 ((Zam ((y0.1.v2 + y0.1.v3) + (r1.2.1 ^^^ (y0.1.v0 + y0.1.v1))) (32:Int)).bind fun r7=>(some (Sum.inl (((⟨(r2.2.1 + (r3.2.1 ^^^ (y0.1.v2 + y0.1.v3))),v6,r7.2.1,(r4.2.1 ^^^ (r2.2.1 + (r3.2.1 ^^^ (y0.1.v2 + y0.1.v3))))⟩:DigestState),()),y1,(IntKind.wrap .i64 (y2 + (1:Int))),()))))))))))
 else (some (Sum.inr ((y0.1,()),()))))
def Zax_L0 (y:((DigestState × Unit) × Int × Int × Unit)):Option ((DigestState × Unit) × Unit):=iter (fun (y:((DigestState × Unit) × Int × Int × Unit))=>Zax_L0b y.1 y.2.1 y.2.2.1) rounds y
def Zax (a0:(DigestState × Unit)) (a1:Int):Option (((DigestState × Unit) × Unit) × (Unit)):=
 ((Zax_L0 ((a0.1,()),a1,(0:Int),())).bind (fun (z8:((DigestState × Unit) × Unit))=>(some (((z8.1.1,()),()),()))))
def S_Zax:FSpec T:=⟨[.ptr [(.v (.agg 9))],.f (.v (.int .i64))],[],fun x=>Zax x.1 x.2.1⟩
def E_Zax:Env T:=⟨tab.find,cd,globs,flc,fun f ds=>match f with
    | 154=>some S_Zam
    | _=>none,fun f=>match f with
    | 154=>true
    | _=>false⟩
def A_Zax:Loc2 T:=⟨fun id=>match id with
    | 0=>some ⟨[(0,.ptr [(.v (.agg 9))]),(4,.f (.v (.int .i64))),(5,.f (.v (.int .i64)))],[(.exit 0,[(0,.ptr [(.v (.agg 9))])])],Zax_L0,[]⟩
    | _=>none,fun r=>match r with
    | _=>none,fun r=>match r with
    | _=>false⟩
theorem Zax_L0_eq (y0:(DigestState × Unit)) (y1:Int) (y2:Int):run E_Zax A_Zax (loopAt 0 (Tryz.f126.body.getD .skip)) (layC cd [(0,.ptr [(.v (.agg 9))]),(4,.f (.v (.int .i64))),(5,.f (.v (.int .i64)))] [] (y0,y1,y2,())) (roundK cd [(0,.ptr [(.v (.agg 9))]),(4,.f (.v (.int .i64))),(5,.f (.v (.int .i64)))] [] [(.exit 0,[(0,.ptr [(.v (.agg 9))])])])=Zax_L0b y0 y1 y2:=by kernel_rfl
theorem Zax_eq (x:tySs T S_Zax.ps):run E_Zax A_Zax (Tryz.f126.body.getD .skip) (enterT E_Zax.C S_Zax.ps x) (retK E_Zax Tryz.f126.results.toList S_Zax.ps S_Zax.rs)=S_Zax.fn x:=by kernel_rfl
theorem Zax_env:EnvOk Tryz.prog E_Zax:=envOk (E:=E_Zax) cd_ok tys fl_ok fun f ds S h=>by
    dsimp only [E_Zax] at h
    split at h
    · cases h; exact Zam_ok
    · cases h
theorem Zax_L0_ok:LoopOk Tryz.prog E_Zax Tryz.f126.ntmps (kqOf S_Zax.ps 0) (loopAt 0 (Tryz.f126.body.getD .skip)) ⟨[(0,.ptr [(.v (.agg 9))]),(4,.f (.v (.int .i64))),(5,.f (.v (.int .i64)))],[(.exit 0,[(0,.ptr [(.v (.agg 9))])])],Zax_L0,[]⟩:=
  loop_ok (A:=A_Zax) (done:=[]) (c0:=(Tryz.f126.body.getD .skip)) hmix Zax_env done_nil rounds (by kernel_rfl) (by kernel_rfl) (fun x=>Zax_L0_eq x.1 x.2.1 x.2.2.1) (fun _=>rfl)
theorem Zax_ok:SoundT Tryz.prog cd gdn 126 S_Zax:=
  sound_fn (E:=E_Zax) (A:=A_Zax) (done:=[0]) (c:=(Tryz.f126.body.getD .skip)) (S:=S_Zax) (fn:=Tryz.f126) hmix Zax_env Tryz.func126 rfl (by kernel_rfl) (by kernel_rfl) (done_cons rfl Zax_L0_ok done_nil) (by kernel_rfl) (by kernel_rfl) Zax_eq
def Zaw (a0:(DigestState × Unit)) (a1:(BitVec 64)):Option (((DigestState × Unit) × Unit) × (Unit)):=
 ((Zax ((⟨a0.1.v0,a0.1.v1,a0.1.v2,(a0.1.v3 ^^^ a1)⟩:DigestState),()) (2:Int)).bind fun r1=>(some ((((⟨(r1.1.1.1.v0 ^^^ a1),r1.1.1.1.v1,r1.1.1.1.v2,r1.1.1.1.v3⟩:DigestState),()),()),())))
def S_Zaw:FSpec T:=⟨[.ptr [(.v (.agg 9))],.f (.v .u64)],[],fun x=>Zaw x.1 x.2.1⟩
def E_Zaw:Env T:=⟨tab.find,cd,globs,flc,fun f ds=>match f with
    | 126=>some S_Zax
    | _=>none,fun f=>match f with
    | _=>false⟩
def A_Zaw:Loc2 T:=⟨fun id=>match id with
    | _=>none,fun r=>match r with
    | _=>none,fun r=>match r with
    | _=>false⟩
theorem Zaw_eq (x:tySs T S_Zaw.ps):run E_Zaw A_Zaw (Tryz.f124.body.getD .skip) (enterT E_Zaw.C S_Zaw.ps x) (retK E_Zaw Tryz.f124.results.toList S_Zaw.ps S_Zaw.rs)=S_Zaw.fn x:=by kernel_rfl
theorem Zaw_env:EnvOk Tryz.prog E_Zaw:=envOk (E:=E_Zaw) cd_ok tys fl_ok fun f ds S h=>by
    dsimp only [E_Zaw] at h
    split at h
    · cases h; exact Zax_ok
    · cases h
theorem Zaw_ok:SoundT Tryz.prog cd gdn 124 S_Zaw:=
  sound_fn (E:=E_Zaw) (A:=A_Zaw) (done:=[]) (c:=(Tryz.f124.body.getD .skip)) (S:=S_Zaw) (fn:=Tryz.f124) hmix Zaw_env Tryz.func124 rfl (by kernel_rfl) (by kernel_rfl) done_nil (by kernel_rfl) (by kernel_rfl) Zaw_eq
def Zee_L0b (y0:(List (UInt8))) (y1:(DigestState × Unit)) (y2:Int) (y3:Int) (y4:Int):Option (((List (UInt8)) × (DigestState × Unit) × Int × Int × Int × Unit) ⊕ ((List (UInt8)) × (DigestState × Unit) × Int × Unit)):=
 (bif (decide (y4 < y3)) then (let v1:Int:=(IntKind.wrap .i64 ((IntKind.wrap .i64 ((8:Int) * y4)) + (8:Int)))
 (bif (decide ((0:Int) ≤ v1) && decide (v1 ≤ ((y0).length:Int))) then (bif (decide ((0:Int) ≤ (IntKind.wrap .i64 ((8:Int) * y4))) && decide ((IntKind.wrap .i64 ((8:Int) * y4)) ≤ ((v1).toNat:Int))) then (let v2:List (UInt8):=(List.drop ((IntKind.wrap .i64 ((8:Int) * y4))).toNat (List.take (v1).toNat y0))
 ((Zdl v2).bind fun r3=>((Zaw (y1.1,()) r3.2.1).bind fun r4=>(some (Sum.inl (y0,(r4.1.1.1,()),y2,y3,(IntKind.wrap .i64 (y4 + (1:Int))),()))))))
 else none)
 else none))
 else (some (Sum.inr (y0,(y1.1,()),y2,()))))
def Zee_L0 (y:((List (UInt8)) × (DigestState × Unit) × Int × Int × Int × Unit)):Option ((List (UInt8)) × (DigestState × Unit) × Int × Unit):=iter (fun (y:((List (UInt8)) × (DigestState × Unit) × Int × Int × Int × Unit))=>Zee_L0b y.1 y.2.1 y.2.2.1 y.2.2.2.1 y.2.2.2.2.1) rounds y
def Zee (a0:(BitVec 64)) (a1:(BitVec 64)) (a2:(List (UInt8))):Option ((Unit) × ((BitVec 64) × Unit)):=
 ((Zee_L0 (a2,((⟨(a0 ^^^ 8317987319222330741#64),(a1 ^^^ 7237128888997146477#64),(a0 ^^^ 7816392313619706465#64),(a1 ^^^ 8387220255154660723#64)⟩:DigestState),()),(IntKind.wrap .i64 (Int.tdiv ((a2).length:Int) (8:Int))),(IntKind.wrap .i64 (Int.tdiv ((a2).length:Int) (8:Int))),(0:Int),())).bind (fun (z5:((List (UInt8)) × (DigestState × Unit) × Int × Unit))=>(bif (decide ((0:Int) ≤ (IntKind.wrap .i64 ((8:Int) * z5.2.2.1))) && decide ((IntKind.wrap .i64 ((8:Int) * z5.2.2.1)) ≤ ((z5.1).length:Int))) then (let v6:List (UInt8):=(List.drop ((IntKind.wrap .i64 ((8:Int) * z5.2.2.1))).toNat z5.1)
 ((Zdl v6).bind fun r7=>(let v8:BitVec 64:=(r7.2.1 ||| ((BitVec.ofInt 64 ((z5.1).length:Int)) <<< 56))
 ((Zaw (z5.2.1.1,()) v8).bind fun r9=>((Zax ((⟨r9.1.1.1.v0,r9.1.1.1.v1,(r9.1.1.1.v2 ^^^ 255#64),r9.1.1.1.v3⟩:DigestState),()) (4:Int)).bind fun r10=>(let v11:BitVec 64:=(((r10.1.1.1.v0 ^^^ r10.1.1.1.v1) ^^^ r10.1.1.1.v2) ^^^ r10.1.1.1.v3)
 (some ((),(v11,())))))))))
 else none)))
def S_Zee:FSpec T:=⟨[.f (.v .u64),.f (.v .u64),.f (.v (.rs 0))],[(.v .u64)],fun x=>Zee x.1 x.2.1 x.2.2.1⟩
def E_Zee:Env T:=⟨tab.find,cd,globs,flc,fun f ds=>match f with
    | 124=>some S_Zaw
    | 125=>some S_Zdl
    | 126=>some S_Zax
    | _=>none,fun f=>match f with
    | 125=>true
    | _=>false⟩
def A_Zee:Loc2 T:=⟨fun id=>match id with
    | 0=>some ⟨[(2,.f (.v (.rs 0))),(7,.ptr [(.v (.agg 9))]),(8,.f (.v (.int .i64))),(22,.f (.v (.int .i64))),(23,.f (.v (.int .i64)))],[(.exit 0,[(2,.f (.v (.rs 0))),(7,.ptr [(.v (.agg 9))]),(8,.f (.v (.int .i64)))])],Zee_L0,[]⟩
    | _=>none,fun r=>match r with
    | _=>none,fun r=>match r with
    | _=>false⟩
theorem Zee_L0_eq (y0:(List (UInt8))) (y1:(DigestState × Unit)) (y2:Int) (y3:Int) (y4:Int):run E_Zee A_Zee (loopAt 0 (Tryz.f95.body.getD .skip)) (layC cd [(2,.f (.v (.rs 0))),(7,.ptr [(.v (.agg 9))]),(8,.f (.v (.int .i64))),(22,.f (.v (.int .i64))),(23,.f (.v (.int .i64)))] [] (y0,y1,y2,y3,y4,())) (roundK cd [(2,.f (.v (.rs 0))),(7,.ptr [(.v (.agg 9))]),(8,.f (.v (.int .i64))),(22,.f (.v (.int .i64))),(23,.f (.v (.int .i64)))] [] [(.exit 0,[(2,.f (.v (.rs 0))),(7,.ptr [(.v (.agg 9))]),(8,.f (.v (.int .i64)))])])=Zee_L0b y0 y1 y2 y3 y4:=by kernel_rfl
theorem Zee_eq (x:tySs T S_Zee.ps):run E_Zee A_Zee (Tryz.f95.body.getD .skip) (enterT E_Zee.C S_Zee.ps x) (retK E_Zee Tryz.f95.results.toList S_Zee.ps S_Zee.rs)=S_Zee.fn x:=by kernel_rfl
theorem Zee_env:EnvOk Tryz.prog E_Zee:=envOk (E:=E_Zee) cd_ok tys fl_ok fun f ds S h=>by
    dsimp only [E_Zee] at h
    split at h
    · cases h; exact Zaw_ok
    · cases h; exact Zdl_ok
    · cases h; exact Zax_ok
    · cases h
theorem Zee_L0_ok:LoopOk Tryz.prog E_Zee Tryz.f95.ntmps (kqOf S_Zee.ps 0) (loopAt 0 (Tryz.f95.body.getD .skip)) ⟨[(2,.f (.v (.rs 0))),(7,.ptr [(.v (.agg 9))]),(8,.f (.v (.int .i64))),(22,.f (.v (.int .i64))),(23,.f (.v (.int .i64)))],[(.exit 0,[(2,.f (.v (.rs 0))),(7,.ptr [(.v (.agg 9))]),(8,.f (.v (.int .i64)))])],Zee_L0,[]⟩:=
  loop_ok (A:=A_Zee) (done:=[]) (c0:=(Tryz.f95.body.getD .skip)) hmix Zee_env done_nil rounds (by kernel_rfl) (by kernel_rfl) (fun x=>Zee_L0_eq x.1 x.2.1 x.2.2.1 x.2.2.2.1 x.2.2.2.2.1) (fun _=>rfl)
theorem Zee_ok:SoundT Tryz.prog cd gdn 95 S_Zee:=
  sound_fn (E:=E_Zee) (A:=A_Zee) (done:=[0]) (c:=(Tryz.f95.body.getD .skip)) (S:=S_Zee) (fn:=Tryz.f95) hmix Zee_env Tryz.func95 rfl (by kernel_rfl) (by kernel_rfl) (done_cons rfl Zee_L0_ok done_nil) (by kernel_rfl) (by kernel_rfl) Zee_eq
def Zed (a0:(BitVec 64)) (a1:Int) (a2:(List (UInt8))):Option ((Unit) × ((BitVec 64) × Unit)):=
 ((Zee a0 (1#64 + (BitVec.ofInt 64 a1)) a2).bind fun r1=>(some ((),(r1.2.1,()))))
def S_Zed:FSpec T:=⟨[.f (.v .u64),.f (.v (.int .i64)),.f (.v (.rs 0))],[(.v .u64)],fun x=>Zed x.1 x.2.1 x.2.2.1⟩
def E_Zed:Env T:=⟨tab.find,cd,globs,flc,fun f ds=>match f with
    | 95=>some S_Zee
    | _=>none,fun f=>match f with
    | 95=>true
    | _=>false⟩
def A_Zed:Loc2 T:=⟨fun id=>match id with
    | _=>none,fun r=>match r with
    | _=>none,fun r=>match r with
    | _=>false⟩
theorem Zed_eq (x:tySs T S_Zed.ps):run E_Zed A_Zed (Tryz.f89.body.getD .skip) (enterT E_Zed.C S_Zed.ps x) (retK E_Zed Tryz.f89.results.toList S_Zed.ps S_Zed.rs)=S_Zed.fn x:=by kernel_rfl
theorem Zed_env:EnvOk Tryz.prog E_Zed:=envOk (E:=E_Zed) cd_ok tys fl_ok fun f ds S h=>by
    dsimp only [E_Zed] at h
    split at h
    · cases h; exact Zee_ok
    · cases h
theorem Zed_ok:SoundT Tryz.prog cd gdn 89 S_Zed:=
  sound_fn (E:=E_Zed) (A:=A_Zed) (done:=[]) (c:=(Tryz.f89.body.getD .skip)) (S:=S_Zed) (fn:=Tryz.f89) hmix Zed_env Tryz.func89 rfl (by kernel_rfl) (by kernel_rfl) done_nil (by kernel_rfl) (by kernel_rfl) Zed_eq
def Zdk (a0:(BitVec 64)) (a1:(List UInt8)) (a2:Int):Option ((Unit) × ((BitVec 64) × Unit)):=
 (bif small ((a1).length + (([(0:UInt8)]:List (UInt8)):List (UInt8)).length) 1 then ((Zdp ([(BitVec.ofInt 64 a2)]:List (BitVec 64))).bind fun r1=>(bif small (((a1 ++ ([(0:UInt8)]:List (UInt8)))).length + (r1.2.1:List (UInt8)).length) 1 then (let v2:List (UInt8):=((a1 ++ ([(0:UInt8)]:List (UInt8))) ++ r1.2.1)
 ((Zed a0 (4:Int) v2).bind fun r3=>(some ((),(r3.2.1,())))))
 else none))
 else none)
def S_Zdk:FSpec T:=⟨[.f (.v .u64),.f (.v .str),.f (.v (.int .i64))],[(.v .u64)],fun x=>Zdk x.1 x.2.1 x.2.2.1⟩
def E_Zdk:Env T:=⟨tab.find,cd,globs,flc,fun f ds=>match f with
    | 89=>some S_Zed
    | 90=>some S_Zdp
    | _=>none,fun f=>match f with
    | 89=>true
    | _=>false⟩
def A_Zdk:Loc2 T:=⟨fun id=>match id with
    | _=>none,fun r=>match r with
    | _=>none,fun r=>match r with
    | _=>false⟩
theorem Zdk_eq (x:tySs T S_Zdk.ps):run E_Zdk A_Zdk (Tryz.f63.body.getD .skip) (enterT E_Zdk.C S_Zdk.ps x) (retK E_Zdk Tryz.f63.results.toList S_Zdk.ps S_Zdk.rs)=S_Zdk.fn x:=by kernel_rfl
theorem Zdk_env:EnvOk Tryz.prog E_Zdk:=envOk (E:=E_Zdk) cd_ok tys fl_ok fun f ds S h=>by
    dsimp only [E_Zdk] at h
    split at h
    · cases h; exact Zed_ok
    · cases h; exact Zdp_ok
    · cases h
theorem Zdk_ok:SoundT Tryz.prog cd gdn 63 S_Zdk:=
  sound_fn (E:=E_Zdk) (A:=A_Zdk) (done:=[]) (c:=(Tryz.f63.body.getD .skip)) (S:=S_Zdk) (fn:=Tryz.f63) hmix Zdk_env Tryz.func63 rfl (by kernel_rfl) (by kernel_rfl) done_nil (by kernel_rfl) (by kernel_rfl) Zdk_eq
def Zdy_L0b (y0:(BitVec 64)) (y1:(BitVec 64)) (y2:Int) (y3:(List (UInt8))) (y4:(BitVec 64)):Option (((BitVec 64) × (BitVec 64) × Int × (List (UInt8)) × (BitVec 64) × Unit) ⊕ (Int × (List (UInt8)) × Unit)):=
 (bif (decide (((y3).length:Int) < y2)) then ((Zdp ([y1,y4]:List (BitVec 64))).bind fun r2=>((Zed y0 (5:Int) r2.2.1).bind fun r3=>((Zdp ([r3.2.1]:List (BitVec 64))).bind fun r4=>(bif small ((y3).length + (r4.2.1:List (UInt8)).length) 1 then (some (Sum.inl (y0,y1,y2,(y3 ++ r4.2.1),(y4 + 1#64),())))
 else none))))
 else (some (Sum.inr (y2,y3,()))))
def Zdy_L0 (y:((BitVec 64) × (BitVec 64) × Int × (List (UInt8)) × (BitVec 64) × Unit)):Option (Int × (List (UInt8)) × Unit):=iter (fun (y:((BitVec 64) × (BitVec 64) × Int × (List (UInt8)) × (BitVec 64) × Unit))=>Zdy_L0b y.1 y.2.1 y.2.2.1 y.2.2.2.1 y.2.2.2.2.1) rounds y
def Zdy (a0:(BitVec 64)) (a1:(BitVec 64)) (a2:Int):Option ((Unit) × ((List (UInt8)) × Unit)):=
 (let v1:Int:=(bif decide ((1024:Int) < (bif decide (a2 < (0:Int)) then (0:Int) else a2)) then (1024:Int) else (bif decide (a2 < (0:Int)) then (0:Int) else a2))
 (bif (decide ((0:Int) ≤ (0:Int)) && (decide ((0:Int) ≤ (IntKind.wrap .i64 (v1 + (8:Int)))) && decide ((1:Int) * (IntKind.wrap .i64 (v1 + (8:Int))) ≤ 281474976710656 ∧ (IntKind.wrap .i64 (v1 + (8:Int))) ≤ 9223372036854775807))) then ((Zdy_L0 (a0,a1,v1,(List.replicate 0 (0:UInt8)),0#64,())).bind (fun (z5:(Int × (List (UInt8)) × Unit))=>(bif (decide ((0:Int) ≤ z5.1) && decide (z5.1 ≤ ((z5.2.1).length:Int))) then (bif decide ((z5.1).toNat ≤ (z5.2.1).length) then (some ((),((List.take (z5.1).toNat z5.2.1),())))
 else none)
 else none)))
 else none))
def S_Zdy:FSpec T:=⟨[.f (.v .u64),.f (.v .u64),.f (.v (.int .i64))],[(.own 0)],fun x=>Zdy x.1 x.2.1 x.2.2.1⟩
def E_Zdy:Env T:=⟨tab.find,cd,globs,flc,fun f ds=>match f with
    | 89=>some S_Zed
    | 90=>some S_Zdp
    | _=>none,fun f=>match f with
    | 89=>true
    | _=>false⟩
def A_Zdy:Loc2 T:=⟨fun id=>match id with
    | 0=>some ⟨[(0,.f (.v .u64)),(1,.f (.v .u64)),(2,.f (.v (.int .i64))),(7,.f (.own 0)),(8,.f (.v .u64))],[(.exit 0,[(2,.f (.v (.int .i64))),(7,.f (.own 0))])],Zdy_L0,[]⟩
    | _=>none,fun r=>match r with
    | _=>none,fun r=>match r with
    | _=>false⟩
theorem Zdy_L0_eq (y0:(BitVec 64)) (y1:(BitVec 64)) (y2:Int) (y3:(List (UInt8))) (y4:(BitVec 64)):run E_Zdy A_Zdy (loopAt 0 (Tryz.f62.body.getD .skip)) (layC cd [(0,.f (.v .u64)),(1,.f (.v .u64)),(2,.f (.v (.int .i64))),(7,.f (.own 0)),(8,.f (.v .u64))] [] (y0,y1,y2,y3,y4,())) (roundK cd [(0,.f (.v .u64)),(1,.f (.v .u64)),(2,.f (.v (.int .i64))),(7,.f (.own 0)),(8,.f (.v .u64))] [] [(.exit 0,[(2,.f (.v (.int .i64))),(7,.f (.own 0))])])=Zdy_L0b y0 y1 y2 y3 y4:=by kernel_rfl
theorem Zdy_eq (x:tySs T S_Zdy.ps):run E_Zdy A_Zdy (Tryz.f62.body.getD .skip) (enterT E_Zdy.C S_Zdy.ps x) (retK E_Zdy Tryz.f62.results.toList S_Zdy.ps S_Zdy.rs)=S_Zdy.fn x:=by kernel_rfl
theorem Zdy_env:EnvOk Tryz.prog E_Zdy:=envOk (E:=E_Zdy) cd_ok tys fl_ok fun f ds S h=>by
    dsimp only [E_Zdy] at h
    split at h
    · cases h; exact Zed_ok
    · cases h; exact Zdp_ok
    · cases h
theorem Zdy_L0_ok:LoopOk Tryz.prog E_Zdy Tryz.f62.ntmps (kqOf S_Zdy.ps 0) (loopAt 0 (Tryz.f62.body.getD .skip)) ⟨[(0,.f (.v .u64)),(1,.f (.v .u64)),(2,.f (.v (.int .i64))),(7,.f (.own 0)),(8,.f (.v .u64))],[(.exit 0,[(2,.f (.v (.int .i64))),(7,.f (.own 0))])],Zdy_L0,[]⟩:=
  loop_ok (A:=A_Zdy) (done:=[]) (c0:=(Tryz.f62.body.getD .skip)) hmix Zdy_env done_nil rounds (by kernel_rfl) (by kernel_rfl) (fun x=>Zdy_L0_eq x.1 x.2.1 x.2.2.1 x.2.2.2.1 x.2.2.2.2.1) (fun _=>rfl)
theorem Zdy_ok:SoundT Tryz.prog cd gdn 62 S_Zdy:=
  sound_fn (E:=E_Zdy) (A:=A_Zdy) (done:=[0]) (c:=(Tryz.f62.body.getD .skip)) (S:=S_Zdy) (fn:=Tryz.f62) hmix Zdy_env Tryz.func62 rfl (by kernel_rfl) (by kernel_rfl) (done_cons rfl Zdy_L0_ok done_nil) (by kernel_rfl) (by kernel_rfl) Zdy_eq
def Zbf (a0:(BitVec 64)):Option ((Unit) × ((BitVec 64) × Unit)):=
 ((Zdk a0 ([119,114,97,112]:List UInt8) (0:Int)).bind fun r1=>(some ((),(r1.2.1,()))))
def S_Zbf:FSpec T:=⟨[.f (.v .u64)],[(.v .u64)],fun x=>Zbf x.1⟩
def E_Zbf:Env T:=⟨tab.find,cd,globs,flc,fun f ds=>match f with
    | 63=>some S_Zdk
    | _=>none,fun f=>match f with
    | 63=>true
    | _=>false⟩
def A_Zbf:Loc2 T:=⟨fun id=>match id with
    | _=>none,fun r=>match r with
    | _=>none,fun r=>match r with
    | _=>false⟩
theorem Zbf_eq (x:tySs T S_Zbf.ps):run E_Zbf A_Zbf (Tryz.f65.body.getD .skip) (enterT E_Zbf.C S_Zbf.ps x) (retK E_Zbf Tryz.f65.results.toList S_Zbf.ps S_Zbf.rs)=S_Zbf.fn x:=by kernel_rfl
theorem Zbf_env:EnvOk Tryz.prog E_Zbf:=envOk (E:=E_Zbf) cd_ok tys fl_ok fun f ds S h=>by
    dsimp only [E_Zbf] at h
    split at h
    · cases h; exact Zdk_ok
    · cases h
theorem Zbf_ok:SoundT Tryz.prog cd gdn 65 S_Zbf:=
  sound_fn (E:=E_Zbf) (A:=A_Zbf) (done:=[]) (c:=(Tryz.f65.body.getD .skip)) (S:=S_Zbf) (fn:=Tryz.f65) hmix Zbf_env Tryz.func65 rfl (by kernel_rfl) (by kernel_rfl) done_nil (by kernel_rfl) (by kernel_rfl) Zbf_eq
def Zdx (a0:Int) (a1:(List (UInt8))):Option ((Unit) × ((BitVec 64) × Unit)):=
 ((Zee (BitVec.ofInt 64 a0) (0#64) a1).bind fun r1=>(some ((),(r1.2.1,()))))
def S_Zdx:FSpec T:=⟨[.f (.v (.int .i64)),.f (.v (.rs 0))],[(.v .u64)],fun x=>Zdx x.1 x.2.1⟩
def E_Zdx:Env T:=⟨tab.find,cd,globs,flc,fun f ds=>match f with
    | 95=>some S_Zee
    | _=>none,fun f=>match f with
    | 95=>true
    | _=>false⟩
def A_Zdx:Loc2 T:=⟨fun id=>match id with
    | _=>none,fun r=>match r with
    | _=>none,fun r=>match r with
    | _=>false⟩
theorem Zdx_eq (x:tySs T S_Zdx.ps):run E_Zdx A_Zdx (Tryz.f67.body.getD .skip) (enterT E_Zdx.C S_Zdx.ps x) (retK E_Zdx Tryz.f67.results.toList S_Zdx.ps S_Zdx.rs)=S_Zdx.fn x:=by kernel_rfl
theorem Zdx_env:EnvOk Tryz.prog E_Zdx:=envOk (E:=E_Zdx) cd_ok tys fl_ok fun f ds S h=>by
    dsimp only [E_Zdx] at h
    split at h
    · cases h; exact Zee_ok
    · cases h
theorem Zdx_ok:SoundT Tryz.prog cd gdn 67 S_Zdx:=
  sound_fn (E:=E_Zdx) (A:=A_Zdx) (done:=[]) (c:=(Tryz.f67.body.getD .skip)) (S:=S_Zdx) (fn:=Tryz.f67) hmix Zdx_env Tryz.func67 rfl (by kernel_rfl) (by kernel_rfl) done_nil (by kernel_rfl) (by kernel_rfl) Zdx_eq
def Zcs (a0:(List UInt8)):Option ((Unit) × ((BitVec 64) × Unit)):=
 ((Zdx (9:Int) a0).bind fun r1=>(some ((),(r1.2.1,()))))
def S_Zcs:FSpec T:=⟨[.f (.v .str)],[(.v .u64)],fun x=>Zcs x.1⟩
def E_Zcs:Env T:=⟨tab.find,cd,globs,flc,fun f ds=>match f with
    | 67=>some S_Zdx
    | _=>none,fun f=>match f with
    | 67=>true
    | _=>false⟩
def A_Zcs:Loc2 T:=⟨fun id=>match id with
    | _=>none,fun r=>match r with
    | _=>none,fun r=>match r with
    | _=>false⟩
theorem Zcs_eq (x:tySs T S_Zcs.ps):run E_Zcs A_Zcs (Tryz.f94.body.getD .skip) (enterT E_Zcs.C S_Zcs.ps x) (retK E_Zcs Tryz.f94.results.toList S_Zcs.ps S_Zcs.rs)=S_Zcs.fn x:=by kernel_rfl
theorem Zcs_env:EnvOk Tryz.prog E_Zcs:=envOk (E:=E_Zcs) cd_ok tys fl_ok fun f ds S h=>by
    dsimp only [E_Zcs] at h
    split at h
    · cases h; exact Zdx_ok
    · cases h
theorem Zcs_ok:SoundT Tryz.prog cd gdn 94 S_Zcs:=
  sound_fn (E:=E_Zcs) (A:=A_Zcs) (done:=[]) (c:=(Tryz.f94.body.getD .skip)) (S:=S_Zcs) (fn:=Tryz.f94) hmix Zcs_env Tryz.func94 rfl (by kernel_rfl) (by kernel_rfl) done_nil (by kernel_rfl) (by kernel_rfl) Zcs_eq
def Zcf (a0:(List UInt8)):Option ((Unit) × ((List (UInt8)) × Unit)):=
 ((Zcs a0).bind fun r1=>((Zdp ([r1.2.1]:List (BitVec 64))).bind fun r2=>(some ((),(r2.2.1,())))))
def S_Zcf:FSpec T:=⟨[.f (.v .str)],[(.own 0)],fun x=>Zcf x.1⟩
def E_Zcf:Env T:=⟨tab.find,cd,globs,flc,fun f ds=>match f with
    | 90=>some S_Zdp
    | 94=>some S_Zcs
    | _=>none,fun f=>match f with
    | 94=>true
    | _=>false⟩
def A_Zcf:Loc2 T:=⟨fun id=>match id with
    | _=>none,fun r=>match r with
    | _=>none,fun r=>match r with
    | _=>false⟩
theorem Zcf_eq (x:tySs T S_Zcf.ps):run E_Zcf A_Zcf (Tryz.f66.body.getD .skip) (enterT E_Zcf.C S_Zcf.ps x) (retK E_Zcf Tryz.f66.results.toList S_Zcf.ps S_Zcf.rs)=S_Zcf.fn x:=by kernel_rfl
theorem Zcf_env:EnvOk Tryz.prog E_Zcf:=envOk (E:=E_Zcf) cd_ok tys fl_ok fun f ds S h=>by
    dsimp only [E_Zcf] at h
    split at h
    · cases h; exact Zdp_ok
    · cases h; exact Zcs_ok
    · cases h
theorem Zcf_ok:SoundT Tryz.prog cd gdn 66 S_Zcf:=
  sound_fn (E:=E_Zcf) (A:=A_Zcf) (done:=[]) (c:=(Tryz.f66.body.getD .skip)) (S:=S_Zcf) (fn:=Tryz.f66) hmix Zcf_env Tryz.func66 rfl (by kernel_rfl) (by kernel_rfl) done_nil (by kernel_rfl) (by kernel_rfl) Zcf_eq
def Zek_L0b (y0:(List (UInt8))) (y1:(List (UInt8))) (y2:Int) (y3:Int):Option (((List (UInt8)) × (List (UInt8)) × Int × Int × Unit) ⊕ ((List (UInt8)) × Unit)):=
 (bif (decide (y3 < y2)) then (bif (decide ((0:Int) ≤ y3) && decide (y3 < ((y1).length:Int))) then (((y1)[(y3).toNat]?).bind fun x2=>((getI y0 y3).bind fun x3=>(bif (decide ((0:Int) ≤ y3) && decide (y3 < ((y1).length:Int))) then (((y1)[(y3).toNat]?).bind fun x4=>(let v5:List (UInt8):=(List.set y1 (y3).toNat (UInt8.ofBitVec (x2.toBitVec ^^^ x3.toBitVec)))
 (some (Sum.inl (y0,v5,y2,(IntKind.wrap .i64 (y3 + (1:Int))),())))))
 else none)))
 else none)
 else (some (Sum.inr (y1,()))))
def Zek_L0 (y:((List (UInt8)) × (List (UInt8)) × Int × Int × Unit)):Option ((List (UInt8)) × Unit):=iter (fun (y:((List (UInt8)) × (List (UInt8)) × Int × Int × Unit))=>Zek_L0b y.1 y.2.1 y.2.2.1 y.2.2.2.1) rounds y
def Zek (a0:(BitVec 64)) (a1:(BitVec 64)) (a2:(List (UInt8))):Option ((Unit) × ((List (UInt8)) × Unit)):=
 ((Zdy a0 a1 ((a2).length:Int)).bind fun r1=>((Zek_L0 (a2,r1.2.1,((r1.2.1).length:Int),(0:Int),())).bind (fun (z6:((List (UInt8)) × Unit))=>(some ((),(z6.1,()))))))
def S_Zek:FSpec T:=⟨[.f (.v .u64),.f (.v .u64),.f (.v (.rs 0))],[(.own 0)],fun x=>Zek x.1 x.2.1 x.2.2.1⟩
def E_Zek:Env T:=⟨tab.find,cd,globs,flc,fun f ds=>match f with
    | 62=>some S_Zdy
    | _=>none,fun f=>match f with
    | _=>false⟩
def A_Zek:Loc2 T:=⟨fun id=>match id with
    | 0=>some ⟨[(2,.f (.v (.rs 0))),(7,.f (.own 0)),(15,.f (.v (.int .i64))),(16,.f (.v (.int .i64)))],[(.exit 0,[(7,.f (.own 0))])],Zek_L0,[]⟩
    | _=>none,fun r=>match r with
    | _=>none,fun r=>match r with
    | _=>false⟩
theorem Zek_L0_eq (y0:(List (UInt8))) (y1:(List (UInt8))) (y2:Int) (y3:Int):run E_Zek A_Zek (loopAt 0 (Tryz.f91.body.getD .skip)) (layC cd [(2,.f (.v (.rs 0))),(7,.f (.own 0)),(15,.f (.v (.int .i64))),(16,.f (.v (.int .i64)))] [] (y0,y1,y2,y3,())) (roundK cd [(2,.f (.v (.rs 0))),(7,.f (.own 0)),(15,.f (.v (.int .i64))),(16,.f (.v (.int .i64)))] [] [(.exit 0,[(7,.f (.own 0))])])=Zek_L0b y0 y1 y2 y3:=by kernel_rfl
theorem Zek_eq (x:tySs T S_Zek.ps):run E_Zek A_Zek (Tryz.f91.body.getD .skip) (enterT E_Zek.C S_Zek.ps x) (retK E_Zek Tryz.f91.results.toList S_Zek.ps S_Zek.rs)=S_Zek.fn x:=by kernel_rfl
theorem Zek_env:EnvOk Tryz.prog E_Zek:=envOk (E:=E_Zek) cd_ok tys fl_ok fun f ds S h=>by
    dsimp only [E_Zek] at h
    split at h
    · cases h; exact Zdy_ok
    · cases h
theorem Zek_L0_ok:LoopOk Tryz.prog E_Zek Tryz.f91.ntmps (kqOf S_Zek.ps 0) (loopAt 0 (Tryz.f91.body.getD .skip)) ⟨[(2,.f (.v (.rs 0))),(7,.f (.own 0)),(15,.f (.v (.int .i64))),(16,.f (.v (.int .i64)))],[(.exit 0,[(7,.f (.own 0))])],Zek_L0,[]⟩:=
  loop_ok (A:=A_Zek) (done:=[]) (c0:=(Tryz.f91.body.getD .skip)) hmix Zek_env done_nil rounds (by kernel_rfl) (by kernel_rfl) (fun x=>Zek_L0_eq x.1 x.2.1 x.2.2.1 x.2.2.2.1) (fun _=>rfl)
theorem Zek_ok:SoundT Tryz.prog cd gdn 91 S_Zek:=
  sound_fn (E:=E_Zek) (A:=A_Zek) (done:=[0]) (c:=(Tryz.f91.body.getD .skip)) (S:=S_Zek) (fn:=Tryz.f91) hmix Zek_env Tryz.func91 rfl (by kernel_rfl) (by kernel_rfl) (done_cons rfl Zek_L0_ok done_nil) (by kernel_rfl) (by kernel_rfl) Zek_eq
def Zao (a0:Unit) (a1:Int):Option ((Unit) × ((List (UInt8)) × Unit)):=
 (bif (decide (a1 < (0:Int))) then none
 else (bif (decide ((0:Int) < (IntKind.wrap .i64 (a1 - (0:Int))))) then (bif (decide ((0:Int) < (IntKind.wrap .i64 (a1 - (0:Int)))) && (decide ((IntKind.wrap .i64 (a1 - (0:Int))) ≤ 9223372036854775807) && small ((IntKind.wrap .i64 (a1 - (0:Int)))).toNat 1)) then (bif decide ((0:Int) ≤ (((IntKind.wrap .i64 (a1 - (0:Int)))).toNat:Int)) then (bif decide (0 ≤ ((List.replicate ((IntKind.wrap .i64 (a1 - (0:Int)))).toNat (0:UInt8))).length) then (some ((),((List.take 0 (List.replicate ((IntKind.wrap .i64 (a1 - (0:Int)))).toNat (0:UInt8))),())))
 else none)
 else none)
 else none)
 else (some ((),([],())))))
def S_Zao:FSpec T:=⟨[.f (.v .kn),.f (.v (.int .i64))],[(.own 0)],fun x=>Zao x.1 x.2.1⟩
def E_Zao:Env T:=⟨tab.find,cd,globs,flc,fun f ds=>match f with
    | _=>none,fun f=>match f with
    | _=>false⟩
def A_Zao:Loc2 T:=⟨fun id=>match id with
    | _=>none,fun r=>match r with
    | _=>none,fun r=>match r with
    | _=>false⟩
theorem Zao_eq (x:tySs T S_Zao.ps):run E_Zao A_Zao (Tryz.f123.body.getD .skip) (enterT E_Zao.C S_Zao.ps x) (retK E_Zao Tryz.f123.results.toList S_Zao.ps S_Zao.rs)=S_Zao.fn x:=by kernel_rfl
theorem Zao_env:EnvOk Tryz.prog E_Zao:=envOk (E:=E_Zao) cd_ok tys fl_ok fun f ds S h=>by cases h
theorem Zao_ok:SoundT Tryz.prog cd gdn 123 S_Zao:=
  sound_fn (E:=E_Zao) (A:=A_Zao) (done:=[]) (c:=(Tryz.f123.body.getD .skip)) (S:=S_Zao) (fn:=Tryz.f123) hmix Zao_env Tryz.func123 rfl (by kernel_rfl) (by kernel_rfl) done_nil (by kernel_rfl) (by kernel_rfl) Zao_eq
def Zak_L0b (y0:(List (List UInt8))) (y1:Int) (y2:(List (List UInt8))) (y3:Int) (y4:Int):Option (((List (List UInt8)) × Int × (List (List UInt8)) × Int × Int × Unit) ⊕ ((List (List UInt8)) × Int × Unit)):=
 (bif (decide (y4 < y3)) then ((getI y2 y4).bind fun x1=>(bif (decide ((IntKind.wrap .i64 (y1 + ((x1).length:Int))) < (0:Int))) then none
 else (some (Sum.inl (y0,(IntKind.wrap .i64 (y1 + ((x1).length:Int))),y2,y3,(IntKind.wrap .i64 (y4 + (1:Int))),())))))
 else (some (Sum.inr (y0,y1,()))))
def Zak_L0 (y:((List (List UInt8)) × Int × (List (List UInt8)) × Int × Int × Unit)):Option ((List (List UInt8)) × Int × Unit):=iter (fun (y:((List (List UInt8)) × Int × (List (List UInt8)) × Int × Int × Unit))=>Zak_L0b y.1 y.2.1 y.2.2.1 y.2.2.2.1 y.2.2.2.2.1) rounds y
def Zak_L2b (y0:(List (UInt8))) (y1:(List (List UInt8))) (y2:Int) (y3:Int):Option (((List (UInt8)) × (List (List UInt8)) × Int × Int × Unit) ⊕ ((List (UInt8)) × Unit)):=
 (bif (decide (y3 < y2)) then ((getI y1 y3).bind fun x4=>(bif small ((y0).length + (x4:List (UInt8)).length) 1 then (some (Sum.inl ((y0 ++ x4),y1,y2,(IntKind.wrap .i64 (y3 + (1:Int))),())))
 else none))
 else (some (Sum.inr (y0,()))))
def Zak_L2 (y:((List (UInt8)) × (List (List UInt8)) × Int × Int × Unit)):Option ((List (UInt8)) × Unit):=iter (fun (y:((List (UInt8)) × (List (List UInt8)) × Int × Int × Unit))=>Zak_L2b y.1 y.2.1 y.2.2.1 y.2.2.2.1) rounds y
def Zak (a0:(List (List UInt8))):Option ((Unit) × ((List (UInt8)) × Unit)):=
 ((Zak_L0 (a0,(0:Int),a0,((a0).length:Int),(0:Int),())).bind (fun (z2:((List (List UInt8)) × Int × Unit))=>((Zao () z2.2.1).bind fun r3=>((Zak_L2 (r3.2.1,z2.1,((z2.1).length:Int),(0:Int),())).bind (fun (z5:((List (UInt8)) × Unit))=>(some ((),(z5.1,()))))))))
def S_Zak:FSpec T:=⟨[.f (.v (.rs 10))],[(.own 0)],fun x=>Zak x.1⟩
def E_Zak:Env T:=⟨tab.find,cd,globs,flc,fun f ds=>match f with
    | 123=>some S_Zao
    | _=>none,fun f=>match f with
    | _=>false⟩
def A_Zak:Loc2 T:=⟨fun id=>match id with
    | 0=>some ⟨[(0,.f (.v (.rs 10))),(3,.f (.v (.int .i64))),(9,.f (.v (.rs 10))),(10,.f (.v (.int .i64))),(11,.f (.v (.int .i64)))],[(.exit 0,[(0,.f (.v (.rs 10))),(3,.f (.v (.int .i64)))])],Zak_L0,[]⟩
    | 2=>some ⟨[(6,.f (.own 0)),(25,.f (.v (.rs 10))),(26,.f (.v (.int .i64))),(27,.f (.v (.int .i64)))],[(.exit 2,[(6,.f (.own 0))])],Zak_L2,[]⟩
    | _=>none,fun r=>match r with
    | _=>none,fun r=>match r with
    | _=>false⟩
theorem Zak_L0_eq (y0:(List (List UInt8))) (y1:Int) (y2:(List (List UInt8))) (y3:Int) (y4:Int):run E_Zak A_Zak (loopAt 0 (Tryz.f93.body.getD .skip)) (layC cd [(0,.f (.v (.rs 10))),(3,.f (.v (.int .i64))),(9,.f (.v (.rs 10))),(10,.f (.v (.int .i64))),(11,.f (.v (.int .i64)))] [] (y0,y1,y2,y3,y4,())) (roundK cd [(0,.f (.v (.rs 10))),(3,.f (.v (.int .i64))),(9,.f (.v (.rs 10))),(10,.f (.v (.int .i64))),(11,.f (.v (.int .i64)))] [] [(.exit 0,[(0,.f (.v (.rs 10))),(3,.f (.v (.int .i64)))])])=Zak_L0b y0 y1 y2 y3 y4:=by kernel_rfl
theorem Zak_L2_eq (y0:(List (UInt8))) (y1:(List (List UInt8))) (y2:Int) (y3:Int):run E_Zak A_Zak (loopAt 2 (Tryz.f93.body.getD .skip)) (layC cd [(6,.f (.own 0)),(25,.f (.v (.rs 10))),(26,.f (.v (.int .i64))),(27,.f (.v (.int .i64)))] [] (y0,y1,y2,y3,())) (roundK cd [(6,.f (.own 0)),(25,.f (.v (.rs 10))),(26,.f (.v (.int .i64))),(27,.f (.v (.int .i64)))] [] [(.exit 2,[(6,.f (.own 0))])])=Zak_L2b y0 y1 y2 y3:=by kernel_rfl
theorem Zak_eq (x:tySs T S_Zak.ps):run E_Zak A_Zak (Tryz.f93.body.getD .skip) (enterT E_Zak.C S_Zak.ps x) (retK E_Zak Tryz.f93.results.toList S_Zak.ps S_Zak.rs)=S_Zak.fn x:=by kernel_rfl
theorem Zak_env:EnvOk Tryz.prog E_Zak:=envOk (E:=E_Zak) cd_ok tys fl_ok fun f ds S h=>by
    dsimp only [E_Zak] at h
    split at h
    · cases h; exact Zao_ok
    · cases h
theorem Zak_L0_ok:LoopOk Tryz.prog E_Zak Tryz.f93.ntmps (kqOf S_Zak.ps 0) (loopAt 0 (Tryz.f93.body.getD .skip)) ⟨[(0,.f (.v (.rs 10))),(3,.f (.v (.int .i64))),(9,.f (.v (.rs 10))),(10,.f (.v (.int .i64))),(11,.f (.v (.int .i64)))],[(.exit 0,[(0,.f (.v (.rs 10))),(3,.f (.v (.int .i64)))])],Zak_L0,[]⟩:=
  loop_ok (A:=A_Zak) (done:=[]) (c0:=(Tryz.f93.body.getD .skip)) hmix Zak_env done_nil rounds (by kernel_rfl) (by kernel_rfl) (fun x=>Zak_L0_eq x.1 x.2.1 x.2.2.1 x.2.2.2.1 x.2.2.2.2.1) (fun _=>rfl)
theorem Zak_L2_ok:LoopOk Tryz.prog E_Zak Tryz.f93.ntmps (kqOf S_Zak.ps 0) (loopAt 2 (Tryz.f93.body.getD .skip)) ⟨[(6,.f (.own 0)),(25,.f (.v (.rs 10))),(26,.f (.v (.int .i64))),(27,.f (.v (.int .i64)))],[(.exit 2,[(6,.f (.own 0))])],Zak_L2,[]⟩:=
  loop_ok (A:=A_Zak) (done:=[0]) (c0:=(Tryz.f93.body.getD .skip)) hmix Zak_env (done_cons rfl Zak_L0_ok done_nil) rounds (by kernel_rfl) (by kernel_rfl) (fun x=>Zak_L2_eq x.1 x.2.1 x.2.2.1 x.2.2.2.1) (fun _=>rfl)
theorem Zak_ok:SoundT Tryz.prog cd gdn 93 S_Zak:=
  sound_fn (E:=E_Zak) (A:=A_Zak) (done:=[0,2]) (c:=(Tryz.f93.body.getD .skip)) (S:=S_Zak) (fn:=Tryz.f93) hmix Zak_env Tryz.func93 rfl (by kernel_rfl) (by kernel_rfl) (done_cons rfl Zak_L0_ok (done_cons rfl Zak_L2_ok done_nil)) (by kernel_rfl) (by kernel_rfl) Zak_eq
def Zel (a0:(BitVec 64)) (a1:(BitVec 64)) (a2:(List (UInt8))) (a3:(List (UInt8))):Option ((Unit) × (Arr8_UInt8 × Unit)):=
 (let v1:List (BitVec 64):=([a1,(BitVec.ofInt 64 ((a2).length:Int))]:List (BitVec 64))
 ((Zdp v1).bind fun r2=>((Zak ([r2.2.1,a2,a3]:List (List UInt8))).bind fun r3=>((Zed a0 (6:Int) r3.2.1).bind fun r4=>((Zdp ([r4.2.1]:List (BitVec 64))).bind fun r5=>(bif decide (8 ≤ (r5.2.1).length) then (((r5.2.1)[0]?).bind fun x6=>(((r5.2.1)[1]?).bind fun x7=>(((r5.2.1)[2]?).bind fun x8=>(((r5.2.1)[3]?).bind fun x9=>(((r5.2.1)[4]?).bind fun x10=>(((r5.2.1)[5]?).bind fun x11=>(((r5.2.1)[6]?).bind fun x12=>(((r5.2.1)[7]?).bind fun x13=>(((([x6,x7,x8,x9,x10,x11,x12,x13]:List (UInt8)))[0]?).bind fun x14=>(((([x6,x7,x8,x9,x10,x11,x12,x13]:List (UInt8)))[1]?).bind fun x15=>(((([x6,x7,x8,x9,x10,x11,x12,x13]:List (UInt8)))[2]?).bind fun x16=>(((([x6,x7,x8,x9,x10,x11,x12,x13]:List (UInt8)))[3]?).bind fun x17=>(((([x6,x7,x8,x9,x10,x11,x12,x13]:List (UInt8)))[4]?).bind fun x18=>(((([x6,x7,x8,x9,x10,x11,x12,x13]:List (UInt8)))[5]?).bind fun x19=>(((([x6,x7,x8,x9,x10,x11,x12,x13]:List (UInt8)))[6]?).bind fun x20=>(((([x6,x7,x8,x9,x10,x11,x12,x13]:List (UInt8)))[7]?).bind fun x21=>(some ((),((⟨x14,x15,x16,x17,x18,x19,x20,x21⟩:Arr8_UInt8),())))))))))))))))))))
 else none))))))
def S_Zel:FSpec T:=⟨[.f (.v .u64),.f (.v .u64),.f (.v (.rs 0)),.f (.v (.rs 0))],[(.v (.agg 11))],fun x=>Zel x.1 x.2.1 x.2.2.1 x.2.2.2.1⟩
def E_Zel:Env T:=⟨tab.find,cd,globs,flc,fun f ds=>match f with
    | 89=>some S_Zed
    | 90=>some S_Zdp
    | 93=>some S_Zak
    | _=>none,fun f=>match f with
    | 89=>true
    | _=>false⟩
def A_Zel:Loc2 T:=⟨fun id=>match id with
    | _=>none,fun r=>match r with
    | _=>none,fun r=>match r with
    | _=>false⟩
theorem Zel_eq (x:tySs T S_Zel.ps):run E_Zel A_Zel (Tryz.f92.body.getD .skip) (enterT E_Zel.C S_Zel.ps x) (retK E_Zel Tryz.f92.results.toList S_Zel.ps S_Zel.rs)=S_Zel.fn x:=by kernel_rfl
theorem Zel_env:EnvOk Tryz.prog E_Zel:=envOk (E:=E_Zel) cd_ok tys fl_ok fun f ds S h=>by
    dsimp only [E_Zel] at h
    split at h
    · cases h; exact Zed_ok
    · cases h; exact Zdp_ok
    · cases h; exact Zak_ok
    · cases h
theorem Zel_ok:SoundT Tryz.prog cd gdn 92 S_Zel:=
  sound_fn (E:=E_Zel) (A:=A_Zel) (done:=[]) (c:=(Tryz.f92.body.getD .skip)) (S:=S_Zel) (fn:=Tryz.f92) hmix Zel_env Tryz.func92 rfl (by kernel_rfl) (by kernel_rfl) done_nil (by kernel_rfl) (by kernel_rfl) Zel_eq
def Zej (a0:(BitVec 64)) (a1:(BitVec 64)) (a2:(List (UInt8))) (a3:(List (UInt8))):Option ((Unit) × ((List (UInt8)) × Int × Unit)):=
 (bif (decide ((1024:Int) < ((a3).length:Int))) then (some ((),([],(8:Int),())))
 else (bif (decide ((1024:Int) < ((a2).length:Int))) then (some ((),([],(8:Int),())))
 else ((Zek a0 a1 a3).bind fun r1=>((Zel a0 a1 a2 r1.2.1).bind fun r2=>((Zdp ([a1]:List (BitVec 64))).bind fun r3=>(let v4:List (List UInt8):=([r3.2.1,r1.2.1,([r2.2.1.a0,r2.2.1.a1,r2.2.1.a2,r2.2.1.a3,r2.2.1.a4,r2.2.1.a5,r2.2.1.a6,r2.2.1.a7]:List (UInt8))]:List (List UInt8))
 ((Zak v4).bind fun r5=>(some ((),(r5.2.1,(0:Int),()))))))))))
def S_Zej:FSpec T:=⟨[.f (.v .u64),.f (.v .u64),.f (.v (.rs 0)),.f (.v (.rs 0))],[(.own 0),(.v (.int .i64))],fun x=>Zej x.1 x.2.1 x.2.2.1 x.2.2.2.1⟩
def E_Zej:Env T:=⟨tab.find,cd,globs,flc,fun f ds=>match f with
    | 90=>some S_Zdp
    | 91=>some S_Zek
    | 92=>some S_Zel
    | 93=>some S_Zak
    | _=>none,fun f=>match f with
    | 92=>true
    | _=>false⟩
def A_Zej:Loc2 T:=⟨fun id=>match id with
    | _=>none,fun r=>match r with
    | _=>none,fun r=>match r with
    | 5=>true
    | _=>false⟩
theorem Zej_eq (x:tySs T S_Zej.ps):run E_Zej A_Zej (Tryz.f64.body.getD .skip) (enterT E_Zej.C S_Zej.ps x) (retK E_Zej Tryz.f64.results.toList S_Zej.ps S_Zej.rs)=S_Zej.fn x:=by kernel_rfl
theorem Zej_env:EnvOk Tryz.prog E_Zej:=envOk (E:=E_Zej) cd_ok tys fl_ok fun f ds S h=>by
    dsimp only [E_Zej] at h
    split at h
    · cases h; exact Zdp_ok
    · cases h; exact Zek_ok
    · cases h; exact Zel_ok
    · cases h; exact Zak_ok
    · cases h
theorem Zej_ok:SoundT Tryz.prog cd gdn 64 S_Zej:=
  sound_fn (E:=E_Zej) (A:=A_Zej) (done:=[]) (c:=(Tryz.f64.body.getD .skip)) (S:=S_Zej) (fn:=Tryz.f64) hmix Zej_env Tryz.func64 rfl (by kernel_rfl) (by kernel_rfl) done_nil (by kernel_rfl) (by kernel_rfl) Zej_eq
def Zdj (a0:(BitVec 64)) (a1:(BitVec 64)) (a2:ApiCredential):Option ((Unit) × ((List (UInt8)) × Int × Unit)):=
 ((Zbq a2).bind fun r1=>(bif (!decide (r1.2.2.1=(0:Int))) then (some ((),([],r1.2.2.1,())))
 else (bif a2.resident then ((Zdk a2.seed ([105,100]:List UInt8) (0:Int)).bind fun r2=>((Zdy r2.2.1 (0#64) (176:Int)).bind fun r3=>(some ((),(r3.2.1,(0:Int),())))))
 else (let v4:List (UInt8):=(List.replicate 160 (0:UInt8))
 (bif decide ((r1.2.1:List (UInt8)).length ≤ (v4).length) then (let v5:List (UInt8):=(r1.2.1 ++ List.drop (r1.2.1:List (UInt8)).length v4)
 ((Zbf a0).bind fun r6=>((Zcf a2.rP).bind fun r7=>((Zej r6.2.1 a1 r7.2.1 v5).bind fun r8=>(some ((),(r8.2.1,r8.2.2.1,())))))))
 else none)))))
def S_Zdj:FSpec T:=⟨[.f (.v .u64),.f (.v .u64),.f (.v (.agg 2))],[(.own 0),(.v (.int .i64))],fun x=>Zdj x.1 x.2.1 x.2.2.1⟩
def E_Zdj:Env T:=⟨tab.find,cd,globs,flc,fun f ds=>match f with
    | 12=>some S_Zbq
    | 62=>some S_Zdy
    | 63=>some S_Zdk
    | 64=>some S_Zej
    | 65=>some S_Zbf
    | 66=>some S_Zcf
    | _=>none,fun f=>match f with
    | 63=>true
    | 65=>true
    | _=>false⟩
def A_Zdj:Loc2 T:=⟨fun id=>match id with
    | _=>none,fun r=>match r with
    | _=>none,fun r=>match r with
    | _=>false⟩
theorem Zdj_eq (x:tySs T S_Zdj.ps):run E_Zdj A_Zdj (Tryz.f25.body.getD .skip) (enterT E_Zdj.C S_Zdj.ps x) (retK E_Zdj Tryz.f25.results.toList S_Zdj.ps S_Zdj.rs)=S_Zdj.fn x:=by kernel_rfl
theorem Zdj_env:EnvOk Tryz.prog E_Zdj:=envOk (E:=E_Zdj) cd_ok tys fl_ok fun f ds S h=>by
    dsimp only [E_Zdj] at h
    split at h
    · cases h; exact Zbq_ok
    · cases h; exact Zdy_ok
    · cases h; exact Zdk_ok
    · cases h; exact Zej_ok
    · cases h; exact Zbf_ok
    · cases h; exact Zcf_ok
    · cases h
theorem Zdj_ok:SoundT Tryz.prog cd gdn 25 S_Zdj:=
  sound_fn (E:=E_Zdj) (A:=A_Zdj) (done:=[]) (c:=(Tryz.f25.body.getD .skip)) (S:=S_Zdj) (fn:=Tryz.f25) hmix Zdj_env Tryz.func25 rfl (by kernel_rfl) (by kernel_rfl) done_nil (by kernel_rfl) (by kernel_rfl) Zdj_eq
def Zei_L0b (y0:(BitVec 64)) (y1:(List (UInt8))) (y2:(List (UInt8))) (y3:(BitVec 64)) (y4:(List (UInt8))) (y5:Int) (y6:Int):Option (((BitVec 64) × (List (UInt8)) × (List (UInt8)) × (BitVec 64) × (List (UInt8)) × Int × Int × Unit) ⊕ ((BitVec 64) × (List (UInt8)) × (List (UInt8)) × (BitVec 64) × Unit)):=
 (bif (decide (y6 < y5)) then ((getI y4 y6).bind fun x1=>(some (Sum.inl (y0,y1,y2,((y3 <<< 8) ||| (BitVec.setWidth 64 x1.toBitVec)),y4,y5,(IntKind.wrap .i64 (y6 + (1:Int))),()))))
 else (some (Sum.inr (y0,y1,y2,y3,()))))
def Zei_L0 (y:((BitVec 64) × (List (UInt8)) × (List (UInt8)) × (BitVec 64) × (List (UInt8)) × Int × Int × Unit)):Option ((BitVec 64) × (List (UInt8)) × (List (UInt8)) × (BitVec 64) × Unit):=iter (fun (y:((BitVec 64) × (List (UInt8)) × (List (UInt8)) × (BitVec 64) × (List (UInt8)) × Int × Int × Unit))=>Zei_L0b y.1 y.2.1 y.2.2.1 y.2.2.2.1 y.2.2.2.2.1 y.2.2.2.2.2.1 y.2.2.2.2.2.2.1) rounds y
def Zei (a0:(BitVec 64)) (a1:(List (UInt8))) (a2:(List (UInt8))):Option ((Unit) × ((List (UInt8)) × Int × Unit)):=
 (bif (decide (((a2).length:Int) < (16:Int))) then (some ((),([],(1:Int),())))
 else (bif (decide ((1040:Int) < ((a2).length:Int))) then (some ((),([],(8:Int),())))
 else (bif (decide ((1024:Int) < ((a1).length:Int))) then (some ((),([],(8:Int),())))
 else (bif decide ((8:Int) ≤ ((a2).length:Int)) then ((Zei_L0 (a0,a1,a2,0#64,(List.take 8 a2),(((List.take 8 a2)).length:Int),(0:Int),())).bind (fun (z2:((BitVec 64) × (List (UInt8)) × (List (UInt8)) × (BitVec 64) × Unit))=>(bif (decide ((0:Int) ≤ (IntKind.wrap .i64 (((z2.2.2.1).length:Int) - (8:Int)))) && decide ((IntKind.wrap .i64 (((z2.2.2.1).length:Int) - (8:Int))) ≤ ((z2.2.2.1).length:Int))) then (let v3:List (UInt8):=(List.drop ((IntKind.wrap .i64 (((z2.2.2.1).length:Int) - (8:Int)))).toNat z2.2.2.1)
 (((v3)[0]?).bind fun x4=>(((v3)[1]?).bind fun x5=>(((v3)[2]?).bind fun x6=>(((v3)[3]?).bind fun x7=>(((v3)[4]?).bind fun x8=>(((v3)[5]?).bind fun x9=>(((v3)[6]?).bind fun x10=>(((v3)[7]?).bind fun x11=>(bif (decide ((0:Int) ≤ (IntKind.wrap .i64 (((z2.2.2.1).length:Int) - (8:Int)))) && decide ((IntKind.wrap .i64 (((z2.2.2.1).length:Int) - (8:Int))) ≤ ((z2.2.2.1).length:Int))) then (bif decide ((8:Int) ≤ (((IntKind.wrap .i64 (((z2.2.2.1).length:Int) - (8:Int)))).toNat:Int)) then (let v12:List (UInt8):=(List.drop 8 (List.take ((IntKind.wrap .i64 (((z2.2.2.1).length:Int) - (8:Int)))).toNat z2.2.2.1))
 ((Zel z2.1 z2.2.2.2.1 z2.2.1 v12).bind fun r13=>(let v14:Bool:=(!(decide (x4=r13.2.1.a0) && (decide (x5=r13.2.1.a1) && (decide (x6=r13.2.1.a2) && (decide (x7=r13.2.1.a3) && (decide (x8=r13.2.1.a4) && (decide (x9=r13.2.1.a5) && (decide (x10=r13.2.1.a6) && (decide (x11=r13.2.1.a7) && true)))))))))
 (bif v14 then (some ((),([],(14:Int),())))
 else (bif (decide ((0:Int) ≤ (IntKind.wrap .i64 (((z2.2.2.1).length:Int) - (8:Int)))) && decide ((IntKind.wrap .i64 (((z2.2.2.1).length:Int) - (8:Int))) ≤ ((z2.2.2.1).length:Int))) then (bif decide ((8:Int) ≤ (((IntKind.wrap .i64 (((z2.2.2.1).length:Int) - (8:Int)))).toNat:Int)) then (let v15:List (UInt8):=(List.drop 8 (List.take ((IntKind.wrap .i64 (((z2.2.2.1).length:Int) - (8:Int)))).toNat z2.2.2.1))
 ((Zek z2.1 z2.2.2.2.1 v15).bind fun r16=>(some ((),(r16.2.1,(0:Int),())))))
 else none)
 else none)))))
 else none)
 else none))))))))))
 else none)))
 else none))))
def S_Zei:FSpec T:=⟨[.f (.v .u64),.f (.v (.rs 0)),.f (.v (.rs 0))],[(.own 0),(.v (.int .i64))],fun x=>Zei x.1 x.2.1 x.2.2.1⟩
def E_Zei:Env T:=⟨tab.find,cd,globs,flc,fun f ds=>match f with
    | 91=>some S_Zek
    | 92=>some S_Zel
    | _=>none,fun f=>match f with
    | 92=>true
    | _=>false⟩
def A_Zei:Loc2 T:=⟨fun id=>match id with
    | 0=>some ⟨[(0,.f (.v .u64)),(1,.f (.v (.rs 0))),(2,.f (.v (.rs 0))),(8,.f (.v .u64)),(24,.f (.v (.rs 0))),(25,.f (.v (.int .i64))),(26,.f (.v (.int .i64)))],[(.exit 0,[(0,.f (.v .u64)),(1,.f (.v (.rs 0))),(2,.f (.v (.rs 0))),(8,.f (.v .u64))])],Zei_L0,[]⟩
    | _=>none,fun r=>match r with
    | _=>none,fun r=>match r with
    | _=>false⟩
theorem Zei_L0_eq (y0:(BitVec 64)) (y1:(List (UInt8))) (y2:(List (UInt8))) (y3:(BitVec 64)) (y4:(List (UInt8))) (y5:Int) (y6:Int):run E_Zei A_Zei (loopAt 0 (Tryz.f71.body.getD .skip)) (layC cd [(0,.f (.v .u64)),(1,.f (.v (.rs 0))),(2,.f (.v (.rs 0))),(8,.f (.v .u64)),(24,.f (.v (.rs 0))),(25,.f (.v (.int .i64))),(26,.f (.v (.int .i64)))] [] (y0,y1,y2,y3,y4,y5,y6,())) (roundK cd [(0,.f (.v .u64)),(1,.f (.v (.rs 0))),(2,.f (.v (.rs 0))),(8,.f (.v .u64)),(24,.f (.v (.rs 0))),(25,.f (.v (.int .i64))),(26,.f (.v (.int .i64)))] [] [(.exit 0,[(0,.f (.v .u64)),(1,.f (.v (.rs 0))),(2,.f (.v (.rs 0))),(8,.f (.v .u64))])])=Zei_L0b y0 y1 y2 y3 y4 y5 y6:=by kernel_rfl
theorem Zei_eq (x:tySs T S_Zei.ps):run E_Zei A_Zei (Tryz.f71.body.getD .skip) (enterT E_Zei.C S_Zei.ps x) (retK E_Zei Tryz.f71.results.toList S_Zei.ps S_Zei.rs)=S_Zei.fn x:=by kernel_rfl
theorem Zei_env:EnvOk Tryz.prog E_Zei:=envOk (E:=E_Zei) cd_ok tys fl_ok fun f ds S h=>by
    dsimp only [E_Zei] at h
    split at h
    · cases h; exact Zek_ok
    · cases h; exact Zel_ok
    · cases h
theorem Zei_L0_ok:LoopOk Tryz.prog E_Zei Tryz.f71.ntmps (kqOf S_Zei.ps 0) (loopAt 0 (Tryz.f71.body.getD .skip)) ⟨[(0,.f (.v .u64)),(1,.f (.v (.rs 0))),(2,.f (.v (.rs 0))),(8,.f (.v .u64)),(24,.f (.v (.rs 0))),(25,.f (.v (.int .i64))),(26,.f (.v (.int .i64)))],[(.exit 0,[(0,.f (.v .u64)),(1,.f (.v (.rs 0))),(2,.f (.v (.rs 0))),(8,.f (.v .u64))])],Zei_L0,[]⟩:=
  loop_ok (A:=A_Zei) (done:=[]) (c0:=(Tryz.f71.body.getD .skip)) hmix Zei_env done_nil rounds (by kernel_rfl) (by kernel_rfl) (fun x=>Zei_L0_eq x.1 x.2.1 x.2.2.1 x.2.2.2.1 x.2.2.2.2.1 x.2.2.2.2.2.1 x.2.2.2.2.2.2.1) (fun _=>rfl)
theorem Zei_ok:SoundT Tryz.prog cd gdn 71 S_Zei:=
  sound_fn (E:=E_Zei) (A:=A_Zei) (done:=[0]) (c:=(Tryz.f71.body.getD .skip)) (S:=S_Zei) (fn:=Tryz.f71) hmix Zei_env Tryz.func71 rfl (by kernel_rfl) (by kernel_rfl) (done_cons rfl Zei_L0_ok done_nil) (by kernel_rfl) (by kernel_rfl) Zei_eq
def Zec (a0:(BitVec 64)):Option ((Unit) × (Int × Unit)):=
 (bif (decide (a0.toNat < (24#64).toNat)) then (some ((),((0:Int),())))
 else (bif (decide (a0.toNat < (256#64).toNat)) then (some ((),((1:Int),())))
 else (bif (decide (a0.toNat < (65536#64).toNat)) then (some ((),((2:Int),())))
 else (bif (decide (a0.toNat < (4294967296#64).toNat)) then (some ((),((4:Int),())))
 else (some ((),((8:Int),())))))))
def S_Zec:FSpec T:=⟨[.f (.v .u64)],[(.v (.int .i64))],fun x=>Zec x.1⟩
def E_Zec:Env T:=⟨tab.find,cd,globs,flc,fun f ds=>match f with
    | _=>none,fun f=>match f with
    | _=>false⟩
def A_Zec:Loc2 T:=⟨fun id=>match id with
    | _=>none,fun r=>match r with
    | _=>none,fun r=>match r with
    | _=>false⟩
theorem Zec_eq (x:tySs T S_Zec.ps):run E_Zec A_Zec (Tryz.f148.body.getD .skip) (enterT E_Zec.C S_Zec.ps x) (retK E_Zec Tryz.f148.results.toList S_Zec.ps S_Zec.rs)=S_Zec.fn x:=by kernel_rfl
theorem Zec_env:EnvOk Tryz.prog E_Zec:=envOk (E:=E_Zec) cd_ok tys fl_ok fun f ds S h=>by cases h
theorem Zec_ok:SoundT Tryz.prog cd gdn 148 S_Zec:=
  sound_fn (E:=E_Zec) (A:=A_Zec) (done:=[]) (c:=(Tryz.f148.body.getD .skip)) (S:=S_Zec) (fn:=Tryz.f148) hmix Zec_env Tryz.func148 rfl (by kernel_rfl) (by kernel_rfl) done_nil (by kernel_rfl) (by kernel_rfl) Zec_eq
def Zca_L1b (y0:((List (CborFrame)) × Int × (List (UInt8)) × Int × Unit)) (y1:Int) (y2:(BitVec 64)) (y3:Int) (y4:(List (UInt8))) (y5:Int) (y6:Int):Option ((((List (CborFrame)) × Int × (List (UInt8)) × Int × Unit) × Int × (BitVec 64) × Int × (List (UInt8)) × Int × Int × Unit) ⊕ (((List (CborFrame)) × Int × (List (UInt8)) × Int × Unit) × Int × (BitVec 64) × Int × Unit)):=
 (bif (decide (y6 < y5)) then ((getI y4 y6).bind fun x10=>(some (Sum.inl ((y0.1,y0.2.1,y0.2.2.1,y0.2.2.2.1,()),y1,((y2 <<< 8) ||| (BitVec.setWidth 64 x10.toBitVec)),y3,y4,y5,(IntKind.wrap .i64 (y6 + (1:Int))),()))))
 else (some (Sum.inr ((y0.1,y0.2.1,y0.2.2.1,y0.2.2.2.1,()),y1,y2,y3,()))))
def Zca_L1 (y:(((List (CborFrame)) × Int × (List (UInt8)) × Int × Unit) × Int × (BitVec 64) × Int × (List (UInt8)) × Int × Int × Unit)):Option (((List (CborFrame)) × Int × (List (UInt8)) × Int × Unit) × Int × (BitVec 64) × Int × Unit):=iter (fun (y:(((List (CborFrame)) × Int × (List (UInt8)) × Int × Unit) × Int × (BitVec 64) × Int × (List (UInt8)) × Int × Int × Unit))=>Zca_L1b y.1 y.2.1 y.2.2.1 y.2.2.2.1 y.2.2.2.2.1 y.2.2.2.2.2.1 y.2.2.2.2.2.2.1) rounds y
def Zca (a0:((List (CborFrame)) × Int × (List (UInt8)) × Int × Unit)):Option ((((List (CborFrame)) × Int × (List (UInt8)) × Int × Unit) × Unit) × (Int × (BitVec 64) × Int × Unit)):=
 (bif (decide (((a0.2.2.1).length:Int) ≤ a0.2.2.2.1)) then (some (((a0.1,a0.2.1,a0.2.2.1,a0.2.2.2.1,()),()),((0:Int),0#64,(1:Int),())))
 else ((getI a0.2.2.1 a0.2.2.2.1).bind fun x1=>((bif (decide (x1.toBitVec=(244:UInt8).toBitVec)) then (bif (decide (x1.toBitVec=(244:UInt8).toBitVec)) then (let v2:BitVec 64:=(BitVec.setWidth 64 (UInt8.ofBitVec (x1.toBitVec - (244:UInt8).toBitVec)).toBitVec)
 (((some (((a0.1,a0.2.1,a0.2.2.1,(IntKind.wrap .i64 (a0.2.2.2.1 + (1:Int))),()),()),((7:Int),v2,(0:Int),())))).bind fun q=>some (Sum.inr q)))
 else (bif (decide (x1.toBitVec=(246:UInt8).toBitVec)) then (((some (((a0.1,a0.2.1,a0.2.2.1,(IntKind.wrap .i64 (a0.2.2.2.1 + (1:Int))),()),()),((8:Int),0#64,(0:Int),())))).bind fun q=>some (Sum.inr q))
 else (some (Sum.inl ((a0.1,a0.2.1,a0.2.2.1,(IntKind.wrap .i64 (a0.2.2.2.1 + (1:Int))),()),0#64,x1,())))))
 else (bif (decide (x1.toBitVec=(245:UInt8).toBitVec)) then (let v3:BitVec 64:=(BitVec.setWidth 64 (UInt8.ofBitVec (x1.toBitVec - (244:UInt8).toBitVec)).toBitVec)
 (((some (((a0.1,a0.2.1,a0.2.2.1,(IntKind.wrap .i64 (a0.2.2.2.1 + (1:Int))),()),()),((7:Int),v3,(0:Int),())))).bind fun q=>some (Sum.inr q)))
 else (bif (decide (x1.toBitVec=(246:UInt8).toBitVec)) then (((some (((a0.1,a0.2.1,a0.2.2.1,(IntKind.wrap .i64 (a0.2.2.2.1 + (1:Int))),()),()),((8:Int),0#64,(0:Int),())))).bind fun q=>some (Sum.inr q))
 else (some (Sum.inl ((a0.1,a0.2.1,a0.2.2.1,(IntKind.wrap .i64 (a0.2.2.2.1 + (1:Int))),()),0#64,x1,())))))).bind (Sum.elim (fun (j4:(((List (CborFrame)) × Int × (List (UInt8)) × Int × Unit) × (BitVec 64) × UInt8 × Unit))=>(let v5:UInt8:=(UInt8.ofBitVec (j4.2.2.1.toBitVec &&& (31:UInt8).toBitVec))
 (bif (decide ((5:UInt8).toBitVec.toNat < (UInt8.ofBitVec (j4.2.2.1.toBitVec >>> 5)).toBitVec.toNat)) then (some (((j4.1.1,j4.1.2.1,j4.1.2.2.1,j4.1.2.2.2.1,()),()),((0:Int),0#64,(2:Int),())))
 else (bif (decide ((27:UInt8).toBitVec.toNat < v5.toBitVec.toNat)) then (some (((j4.1.1,j4.1.2.1,j4.1.2.2.1,j4.1.2.2.2.1,()),()),((0:Int),0#64,(2:Int),())))
 else (let v6:Int:=((UInt8.ofBitVec (j4.2.2.1.toBitVec >>> 5)).toBitVec.toNat:Int)
 (bif (decide (v5.toBitVec.toNat < (24:UInt8).toBitVec.toNat)) then (some (((j4.1.1,j4.1.2.1,j4.1.2.2.1,j4.1.2.2.2.1,()),()),((IntKind.wrap .i64 ((1:Int) + v6)),(BitVec.setWidth 64 v5.toBitVec),(0:Int),())))
 else (let v7:Int:=(IntKind.wrap .i64 ((1:Int) * 2 ^ (min (UInt8.ofBitVec (v5.toBitVec - (24:UInt8).toBitVec)).toNat (IntKind.bits .i64))))
 (let v8:Int:=(IntKind.wrap .i64 (((j4.1.2.2.1).length:Int) - j4.1.2.2.2.1))
 (bif (decide (v8 < v7)) then (some (((j4.1.1,j4.1.2.1,j4.1.2.2.1,j4.1.2.2.2.1,()),()),((0:Int),0#64,(1:Int),())))
 else (bif (decide ((0:Int) ≤ (IntKind.wrap .i64 (j4.1.2.2.2.1 + v7))) && decide ((IntKind.wrap .i64 (j4.1.2.2.2.1 + v7)) ≤ ((j4.1.2.2.1).length:Int))) then (bif (decide ((0:Int) ≤ j4.1.2.2.2.1) && decide (j4.1.2.2.2.1 ≤ (((IntKind.wrap .i64 (j4.1.2.2.2.1 + v7))).toNat:Int))) then (let v9:List (UInt8):=(List.drop (j4.1.2.2.2.1).toNat (List.take ((IntKind.wrap .i64 (j4.1.2.2.2.1 + v7))).toNat j4.1.2.2.1))
 ((Zca_L1 ((j4.1.1,j4.1.2.1,j4.1.2.2.1,j4.1.2.2.2.1,()),(IntKind.wrap .i64 ((1:Int) + v6)),j4.2.1,v7,v9,((v9).length:Int),(0:Int),())).bind (fun (z11:(((List (CborFrame)) × Int × (List (UInt8)) × Int × Unit) × Int × (BitVec 64) × Int × Unit))=>((Zec z11.2.2.1).bind fun r12=>(bif (decide (r12.2.1 < z11.2.2.2.1)) then (some (((z11.1.1,z11.1.2.1,z11.1.2.2.1,(IntKind.wrap .i64 (z11.1.2.2.2.1 + z11.2.2.2.1)),()),()),((0:Int),0#64,(2:Int),())))
 else (some (((z11.1.1,z11.1.2.1,z11.1.2.2.1,(IntKind.wrap .i64 (z11.1.2.2.2.1 + z11.2.2.2.1)),()),()),(z11.2.1,z11.2.2.1,(0:Int),()))))))))
 else none)
 else none)))))))))) some))))
def S_Zca:FSpec T:=⟨[.ptr [(.own 6),(.v (.int .i64)),(.v (.rs 0)),(.v (.int .i64))]],[(.v (.int .i64)),(.v .u64),(.v (.int .i64))],fun x=>Zca x.1⟩
def E_Zca:Env T:=⟨tab.find,cd,globs,flc,fun f ds=>match f with
    | 148=>some S_Zec
    | _=>none,fun f=>match f with
    | 148=>true
    | _=>false⟩
def A_Zca:Loc2 T:=⟨fun id=>match id with
    | 1=>some ⟨[(0,.ptr [(.own 6),(.v (.int .i64)),(.v (.rs 0)),(.v (.int .i64))]),(2,.f (.v (.int .i64))),(3,.f (.v .u64)),(8,.f (.v (.int .i64))),(94,.f (.v (.rs 0))),(95,.f (.v (.int .i64))),(96,.f (.v (.int .i64)))],[(.exit 1,[(0,.ptr [(.own 6),(.v (.int .i64)),(.v (.rs 0)),(.v (.int .i64))]),(2,.f (.v (.int .i64))),(3,.f (.v .u64)),(8,.f (.v (.int .i64)))])],Zca_L1,[]⟩
    | _=>none,fun r=>match r with
    | 11=>some ([(0,.ptr [(.own 6),(.v (.int .i64)),(.v (.rs 0)),(.v (.int .i64))]),(3,.f (.v .u64)),(5,.f (.v .u8))],false)
    | _=>none,fun r=>match r with
    | _=>false⟩
theorem Zca_L1_eq (y0:((List (CborFrame)) × Int × (List (UInt8)) × Int × Unit)) (y1:Int) (y2:(BitVec 64)) (y3:Int) (y4:(List (UInt8))) (y5:Int) (y6:Int):run E_Zca A_Zca (loopAt 1 (Tryz.f114.body.getD .skip)) (layC cd [(0,.ptr [(.own 6),(.v (.int .i64)),(.v (.rs 0)),(.v (.int .i64))]),(2,.f (.v (.int .i64))),(3,.f (.v .u64)),(8,.f (.v (.int .i64))),(94,.f (.v (.rs 0))),(95,.f (.v (.int .i64))),(96,.f (.v (.int .i64)))] [] (y0,y1,y2,y3,y4,y5,y6,())) (roundK cd [(0,.ptr [(.own 6),(.v (.int .i64)),(.v (.rs 0)),(.v (.int .i64))]),(2,.f (.v (.int .i64))),(3,.f (.v .u64)),(8,.f (.v (.int .i64))),(94,.f (.v (.rs 0))),(95,.f (.v (.int .i64))),(96,.f (.v (.int .i64)))] [] [(.exit 1,[(0,.ptr [(.own 6),(.v (.int .i64)),(.v (.rs 0)),(.v (.int .i64))]),(2,.f (.v (.int .i64))),(3,.f (.v .u64)),(8,.f (.v (.int .i64)))])])=Zca_L1b y0 y1 y2 y3 y4 y5 y6:=by kernel_rfl
theorem Zca_eq (x:tySs T S_Zca.ps):run E_Zca A_Zca (Tryz.f114.body.getD .skip) (enterT E_Zca.C S_Zca.ps x) (retK E_Zca Tryz.f114.results.toList S_Zca.ps S_Zca.rs)=S_Zca.fn x:=by kernel_rfl
theorem Zca_env:EnvOk Tryz.prog E_Zca:=envOk (E:=E_Zca) cd_ok tys fl_ok fun f ds S h=>by
    dsimp only [E_Zca] at h
    split at h
    · cases h; exact Zec_ok
    · cases h
theorem Zca_L1_ok:LoopOk Tryz.prog E_Zca Tryz.f114.ntmps (kqOf S_Zca.ps 0) (loopAt 1 (Tryz.f114.body.getD .skip)) ⟨[(0,.ptr [(.own 6),(.v (.int .i64)),(.v (.rs 0)),(.v (.int .i64))]),(2,.f (.v (.int .i64))),(3,.f (.v .u64)),(8,.f (.v (.int .i64))),(94,.f (.v (.rs 0))),(95,.f (.v (.int .i64))),(96,.f (.v (.int .i64)))],[(.exit 1,[(0,.ptr [(.own 6),(.v (.int .i64)),(.v (.rs 0)),(.v (.int .i64))]),(2,.f (.v (.int .i64))),(3,.f (.v .u64)),(8,.f (.v (.int .i64)))])],Zca_L1,[]⟩:=
  loop_ok (A:=A_Zca) (done:=[]) (c0:=(Tryz.f114.body.getD .skip)) hmix Zca_env done_nil rounds (by kernel_rfl) (by kernel_rfl) (fun x=>Zca_L1_eq x.1 x.2.1 x.2.2.1 x.2.2.2.1 x.2.2.2.2.1 x.2.2.2.2.2.1 x.2.2.2.2.2.2.1) (fun _=>rfl)
theorem Zca_ok:SoundT Tryz.prog cd gdn 114 S_Zca:=
  sound_fn (E:=E_Zca) (A:=A_Zca) (done:=[1]) (c:=(Tryz.f114.body.getD .skip)) (S:=S_Zca) (fn:=Tryz.f114) hmix Zca_env Tryz.func114 rfl (by kernel_rfl) (by kernel_rfl) (done_cons rfl Zca_L1_ok done_nil) (by kernel_rfl) (by kernel_rfl) Zca_eq
def Zcd_L0b (y0:((List (CborFrame)) × Int × (List (UInt8)) × Int × Unit)) (y1:Int):Option ((((List (CborFrame)) × Int × (List (UInt8)) × Int × Unit) × Int × Unit) ⊕ (((List (CborFrame)) × Int × (List (UInt8)) × Int × Unit) × Unit)):=
 (bif (decide ((0:Int) < y1)) then (bif (decide ((0:Int) ≤ (IntKind.wrap .i64 (y1 - (1:Int)))) && decide ((IntKind.wrap .i64 (y1 - (1:Int))) < ((y0.1).length:Int))) then (((y0.1)[((IntKind.wrap .i64 (y1 - (1:Int)))).toNat]?).bind fun x10=>(bif (decide (x10.left=(0:Int))) then (bif (decide ((0:Int) ≤ (IntKind.wrap .i64 (y1 - (1:Int)))) && decide ((IntKind.wrap .i64 (y1 - (1:Int))) ≤ ((y0.1).length:Int))) then (bif decide (((IntKind.wrap .i64 (y1 - (1:Int)))).toNat ≤ (y0.1).length) then (some (Sum.inl (((List.take ((IntKind.wrap .i64 (y1 - (1:Int)))).toNat y0.1),y0.2.1,y0.2.2.1,y0.2.2.2.1,()),(IntKind.wrap .i64 (y1 - (1:Int))),())))
 else none)
 else none)
 else (some (Sum.inr ((y0.1,y0.2.1,y0.2.2.1,y0.2.2.2.1,()),())))))
 else none)
 else (some (Sum.inr ((y0.1,y0.2.1,y0.2.2.1,y0.2.2.2.1,()),()))))
def Zcd_L0 (y:(((List (CborFrame)) × Int × (List (UInt8)) × Int × Unit) × Int × Unit)):Option (((List (CborFrame)) × Int × (List (UInt8)) × Int × Unit) × Unit):=iter (fun (y:(((List (CborFrame)) × Int × (List (UInt8)) × Int × Unit) × Int × Unit))=>Zcd_L0b y.1 y.2.1) rounds y
def Zcd (a0:((List (CborFrame)) × Int × (List (UInt8)) × Int × Unit)) (a1:ApiItem):Option ((((List (CborFrame)) × Int × (List (UInt8)) × Int × Unit) × Unit) × (Unit)):=
 ((bif (decide ((0:Int) < ((a0.1).length:Int))) then (bif (decide ((0:Int) ≤ (IntKind.wrap .i64 (((a0.1).length:Int) - (1:Int)))) && decide ((IntKind.wrap .i64 (((a0.1).length:Int) - (1:Int))) < ((a0.1).length:Int))) then (((a0.1)[((IntKind.wrap .i64 (((a0.1).length:Int) - (1:Int)))).toNat]?).bind fun x1=>(bif (decide ((0:Int) ≤ (IntKind.wrap .i64 (((a0.1).length:Int) - (1:Int)))) && decide ((IntKind.wrap .i64 (((a0.1).length:Int) - (1:Int))) < ((a0.1).length:Int))) then (((a0.1)[((IntKind.wrap .i64 (((a0.1).length:Int) - (1:Int)))).toNat]?).bind fun x2=>(let v3:List (CborFrame):=(List.set a0.1 ((IntKind.wrap .i64 (((a0.1).length:Int) - (1:Int)))).toNat (⟨x2.pairs,(IntKind.wrap .i64 (x1.left - (1:Int))),x2.last_⟩:CborFrame))
 (some ((v3,(IntKind.wrap .i64 (a0.2.1 + (1:Int))),a0.2.2.1,a0.2.2.2.1,()),(a1,()),()))))
 else none))
 else none)
 else (some ((a0.1,(IntKind.wrap .i64 (a0.2.1 + (1:Int))),a0.2.2.1,a0.2.2.2.1,()),(a1,()),()))).bind (fun (j4:(((List (CborFrame)) × Int × (List (UInt8)) × Int × Unit) × (ApiItem × Unit) × Unit))=>((bif (decide (j4.2.1.1.kind=(5:Int))) then (bif (decide ((0#64).toNat < j4.2.1.1.number.toNat)) then (let v5:List (CborFrame):=([(⟨false,(IntKind.wrap .i64 (j4.2.1.1.number.toNat:Int)),[]⟩:CborFrame)]:List (CborFrame))
 (bif small ((j4.1.1).length + (v5:List (CborFrame)).length) 40 then (some (((j4.1.1 ++ v5),j4.1.2.1,j4.1.2.2.1,j4.1.2.2.2.1,()),(j4.2.1.1,()),()))
 else none))
 else (some ((j4.1.1,j4.1.2.1,j4.1.2.2.1,j4.1.2.2.2.1,()),(j4.2.1.1,()),())))
 else (some ((j4.1.1,j4.1.2.1,j4.1.2.2.1,j4.1.2.2.2.1,()),(j4.2.1.1,()),()))).bind (fun (j6:(((List (CborFrame)) × Int × (List (UInt8)) × Int × Unit) × (ApiItem × Unit) × Unit))=>((bif (decide (j6.2.1.1.kind=(6:Int))) then (bif (decide ((0#64).toNat < j6.2.1.1.number.toNat)) then (let v7:Int:=(IntKind.wrap .i64 ((2:Int) * (IntKind.wrap .i64 (j6.2.1.1.number.toNat:Int))))
 (bif small ((j6.1.1).length + (([(⟨true,v7,[]⟩:CborFrame)]:List (CborFrame)):List (CborFrame)).length) 40 then (let v8:List (CborFrame):=(j6.1.1 ++ ([(⟨true,v7,[]⟩:CborFrame)]:List (CborFrame)))
 (some ((v8,j6.1.2.1,j6.1.2.2.1,j6.1.2.2.2.1,()),())))
 else none))
 else (some ((j6.1.1,j6.1.2.1,j6.1.2.2.1,j6.1.2.2.2.1,()),())))
 else (some ((j6.1.1,j6.1.2.1,j6.1.2.2.1,j6.1.2.2.2.1,()),()))).bind (fun (j9:(((List (CborFrame)) × Int × (List (UInt8)) × Int × Unit) × Unit))=>((Zcd_L0 ((j9.1.1,j9.1.2.1,j9.1.2.2.1,j9.1.2.2.2.1,()),((j9.1.1).length:Int),())).bind (fun (z11:(((List (CborFrame)) × Int × (List (UInt8)) × Int × Unit) × Unit))=>(some (((z11.1.1,z11.1.2.1,z11.1.2.2.1,z11.1.2.2.2.1,()),()),()))))))))))
def S_Zcd:FSpec T:=⟨[.ptr [(.own 6),(.v (.int .i64)),(.v (.rs 0)),(.v (.int .i64))],.f (.v (.agg 1))],[],fun x=>Zcd x.1 x.2.1⟩
def E_Zcd:Env T:=⟨tab.find,cd,globs,flc,fun f ds=>match f with
    | _=>none,fun f=>match f with
    | _=>false⟩
def A_Zcd:Loc2 T:=⟨fun id=>match id with
    | 0=>some ⟨[(0,.ptr [(.own 6),(.v (.int .i64)),(.v (.rs 0)),(.v (.int .i64))]),(5,.f (.v (.int .i64)))],[(.exit 0,[(0,.ptr [(.own 6),(.v (.int .i64)),(.v (.rs 0)),(.v (.int .i64))])])],Zcd_L0,[]⟩
    | _=>none,fun r=>match r with
    | 5=>some ([(0,.ptr [(.own 6),(.v (.int .i64)),(.v (.rs 0)),(.v (.int .i64))]),(3,.ptr [(.v (.agg 1))])],true)
    | 7=>some ([(0,.ptr [(.own 6),(.v (.int .i64)),(.v (.rs 0)),(.v (.int .i64))]),(3,.ptr [(.v (.agg 1))])],true)
    | 9=>some ([(0,.ptr [(.own 6),(.v (.int .i64)),(.v (.rs 0)),(.v (.int .i64))])],true)
    | _=>none,fun r=>match r with
    | 6=>true
    | 8=>true
    | _=>false⟩
theorem Zcd_L0_eq (y0:((List (CborFrame)) × Int × (List (UInt8)) × Int × Unit)) (y1:Int):run E_Zcd A_Zcd (loopAt 0 (Tryz.f151.body.getD .skip)) (layC cd [(0,.ptr [(.own 6),(.v (.int .i64)),(.v (.rs 0)),(.v (.int .i64))]),(5,.f (.v (.int .i64)))] [] (y0,y1,())) (roundK cd [(0,.ptr [(.own 6),(.v (.int .i64)),(.v (.rs 0)),(.v (.int .i64))]),(5,.f (.v (.int .i64)))] [] [(.exit 0,[(0,.ptr [(.own 6),(.v (.int .i64)),(.v (.rs 0)),(.v (.int .i64))])])])=Zcd_L0b y0 y1:=by kernel_rfl
theorem Zcd_eq (x:tySs T S_Zcd.ps):run E_Zcd A_Zcd (Tryz.f151.body.getD .skip) (enterT E_Zcd.C S_Zcd.ps x) (retK E_Zcd Tryz.f151.results.toList S_Zcd.ps S_Zcd.rs)=S_Zcd.fn x:=by kernel_rfl
theorem Zcd_env:EnvOk Tryz.prog E_Zcd:=envOk (E:=E_Zcd) cd_ok tys fl_ok fun f ds S h=>by cases h
theorem Zcd_L0_ok:LoopOk Tryz.prog E_Zcd Tryz.f151.ntmps (kqOf S_Zcd.ps 0) (loopAt 0 (Tryz.f151.body.getD .skip)) ⟨[(0,.ptr [(.own 6),(.v (.int .i64)),(.v (.rs 0)),(.v (.int .i64))]),(5,.f (.v (.int .i64)))],[(.exit 0,[(0,.ptr [(.own 6),(.v (.int .i64)),(.v (.rs 0)),(.v (.int .i64))])])],Zcd_L0,[]⟩:=
  loop_ok (A:=A_Zcd) (done:=[]) (c0:=(Tryz.f151.body.getD .skip)) hmix Zcd_env done_nil rounds (by kernel_rfl) (by kernel_rfl) (fun x=>Zcd_L0_eq x.1 x.2.1) (fun _=>rfl)
theorem Zcd_ok:SoundT Tryz.prog cd gdn 151 S_Zcd:=
  sound_fn (E:=E_Zcd) (A:=A_Zcd) (done:=[0]) (c:=(Tryz.f151.body.getD .skip)) (S:=S_Zcd) (fn:=Tryz.f151) hmix Zcd_env Tryz.func151 rfl (by kernel_rfl) (by kernel_rfl) (done_cons rfl Zcd_L0_ok done_nil) (by kernel_rfl) (by kernel_rfl) Zcd_eq
def Zbd (a0:((List (CborFrame)) × Int × (List (UInt8)) × Int × Unit)) (a1:ApiItem):Option ((((List (CborFrame)) × Int × (List (UInt8)) × Int × Unit) × Unit) × (Int × Unit)):=
 (bif (decide (a1.kind=(4:Int))) then ((Zcr a1.data).bind fun r1=>(bif (!r1.2.1) then (some (((a0.1,a0.2.1,a0.2.2.1,a0.2.2.2.1,()),()),((6:Int),())))
 else ((Zcw (⟨a0.1,a0.2.1⟩:CborWalk)).bind fun r2=>(bif r2.2.1 then (bif (decide ((0:Int) ≤ (IntKind.wrap .i64 (((a0.1).length:Int) - (1:Int)))) && decide ((IntKind.wrap .i64 (((a0.1).length:Int) - (1:Int))) < ((a0.1).length:Int))) then ((Zcu [] a1).bind fun r3=>(((a0.1)[((IntKind.wrap .i64 (((a0.1).length:Int) - (1:Int)))).toNat]?).bind fun x4=>(bif (!(x4.last_).isEmpty) then (((a0.1)[((IntKind.wrap .i64 (((a0.1).length:Int) - (1:Int)))).toNat]?).bind fun x5=>((Zdo x5.last_ r3.2.1).bind fun r6=>(bif (!r6.2.1) then (some (((a0.1,a0.2.1,a0.2.2.1,a0.2.2.2.1,()),()),((7:Int),())))
 else (((a0.1)[((IntKind.wrap .i64 (((a0.1).length:Int) - (1:Int)))).toNat]?).bind fun x7=>(bif (r3.2.1).isEmpty then none
 else (let v8:List (CborFrame):=(List.set a0.1 ((IntKind.wrap .i64 (((a0.1).length:Int) - (1:Int)))).toNat (⟨x7.pairs,x7.left,r3.2.1⟩:CborFrame))
 ((Zcd (v8,a0.2.1,a0.2.2.1,a0.2.2.2.1,()) a1).bind fun r9=>(some (((r9.1.1.1,r9.1.1.2.1,r9.1.1.2.2.1,r9.1.1.2.2.2.1,()),()),((0:Int),()))))))))))
 else (((a0.1)[((IntKind.wrap .i64 (((a0.1).length:Int) - (1:Int)))).toNat]?).bind fun x10=>(bif (r3.2.1).isEmpty then none
 else (let v11:List (CborFrame):=(List.set a0.1 ((IntKind.wrap .i64 (((a0.1).length:Int) - (1:Int)))).toNat (⟨x10.pairs,x10.left,r3.2.1⟩:CborFrame))
 ((Zcd (v11,a0.2.1,a0.2.2.1,a0.2.2.2.1,()) a1).bind fun r12=>(some (((r12.1.1.1,r12.1.1.2.1,r12.1.1.2.2.1,r12.1.1.2.2.2.1,()),()),((0:Int),()))))))))))
 else none)
 else ((Zcd (a0.1,a0.2.1,a0.2.2.1,a0.2.2.2.1,()) a1).bind fun r13=>(some (((r13.1.1.1,r13.1.1.2.1,r13.1.1.2.2.1,r13.1.1.2.2.2.1,()),()),((0:Int),()))))))))
 else ((Zcw (⟨a0.1,a0.2.1⟩:CborWalk)).bind fun r14=>(bif r14.2.1 then (bif (decide ((0:Int) ≤ (IntKind.wrap .i64 (((a0.1).length:Int) - (1:Int)))) && decide ((IntKind.wrap .i64 (((a0.1).length:Int) - (1:Int))) < ((a0.1).length:Int))) then ((Zcu [] a1).bind fun r15=>(((a0.1)[((IntKind.wrap .i64 (((a0.1).length:Int) - (1:Int)))).toNat]?).bind fun x16=>(bif (!(x16.last_).isEmpty) then (((a0.1)[((IntKind.wrap .i64 (((a0.1).length:Int) - (1:Int)))).toNat]?).bind fun x17=>((Zdo x17.last_ r15.2.1).bind fun r18=>(bif (!r18.2.1) then (some (((a0.1,a0.2.1,a0.2.2.1,a0.2.2.2.1,()),()),((7:Int),())))
 else (((a0.1)[((IntKind.wrap .i64 (((a0.1).length:Int) - (1:Int)))).toNat]?).bind fun x19=>(bif (r15.2.1).isEmpty then none
 else (let v20:List (CborFrame):=(List.set a0.1 ((IntKind.wrap .i64 (((a0.1).length:Int) - (1:Int)))).toNat (⟨x19.pairs,x19.left,r15.2.1⟩:CborFrame))
 ((Zcd (v20,a0.2.1,a0.2.2.1,a0.2.2.2.1,()) a1).bind fun r21=>(some (((r21.1.1.1,r21.1.1.2.1,r21.1.1.2.2.1,r21.1.1.2.2.2.1,()),()),((0:Int),()))))))))))
 else (((a0.1)[((IntKind.wrap .i64 (((a0.1).length:Int) - (1:Int)))).toNat]?).bind fun x22=>(bif (r15.2.1).isEmpty then none
 else (let v23:List (CborFrame):=(List.set a0.1 ((IntKind.wrap .i64 (((a0.1).length:Int) - (1:Int)))).toNat (⟨x22.pairs,x22.left,r15.2.1⟩:CborFrame))
 ((Zcd (v23,a0.2.1,a0.2.2.1,a0.2.2.2.1,()) a1).bind fun r24=>(some (((r24.1.1.1,r24.1.1.2.1,r24.1.1.2.2.1,r24.1.1.2.2.2.1,()),()),((0:Int),()))))))))))
 else none)
 else ((Zcd (a0.1,a0.2.1,a0.2.2.1,a0.2.2.2.1,()) a1).bind fun r25=>(some (((r25.1.1.1,r25.1.1.2.1,r25.1.1.2.2.1,r25.1.1.2.2.2.1,()),()),((0:Int),())))))))
def S_Zbd:FSpec T:=⟨[.ptr [(.own 6),(.v (.int .i64)),(.v (.rs 0)),(.v (.int .i64))],.f (.v (.agg 1))],[(.v (.int .i64))],fun x=>Zbd x.1 x.2.1⟩
def E_Zbd:Env T:=⟨tab.find,cd,globs,flc,fun f ds=>match f with
    | 49=>some S_Zcr
    | 79=>some S_Zcu
    | 149=>some S_Zcw
    | 150=>some S_Zdo
    | 151=>some S_Zcd
    | _=>none,fun f=>match f with
    | 49=>true
    | 149=>true
    | 150=>true
    | _=>false⟩
def A_Zbd:Loc2 T:=⟨fun id=>match id with
    | _=>none,fun r=>match r with
    | _=>none,fun r=>match r with
    | _=>false⟩
theorem Zbd_eq (x:tySs T S_Zbd.ps):run E_Zbd A_Zbd (Tryz.f116.body.getD .skip) (enterT E_Zbd.C S_Zbd.ps x) (retK E_Zbd Tryz.f116.results.toList S_Zbd.ps S_Zbd.rs)=S_Zbd.fn x:=by kernel_rfl
theorem Zbd_env:EnvOk Tryz.prog E_Zbd:=envOk (E:=E_Zbd) cd_ok tys fl_ok fun f ds S h=>by
    dsimp only [E_Zbd] at h
    split at h
    · cases h; exact Zcr_ok
    · cases h; exact Zcu_ok
    · cases h; exact Zcw_ok
    · cases h; exact Zdo_ok
    · cases h; exact Zcd_ok
    · cases h
theorem Zbd_ok:SoundT Tryz.prog cd gdn 116 S_Zbd:=
  sound_fn (E:=E_Zbd) (A:=A_Zbd) (done:=[]) (c:=(Tryz.f116.body.getD .skip)) (S:=S_Zbd) (fn:=Tryz.f116) hmix Zbd_env Tryz.func116 rfl (by kernel_rfl) (by kernel_rfl) done_nil (by kernel_rfl) (by kernel_rfl) Zbd_eq
def Zcb (a0:((List (CborFrame)) × Int × (List (UInt8)) × Int × Unit)):Option ((((List (CborFrame)) × Int × (List (UInt8)) × Int × Unit) × Unit) × (ApiItem × Int × Unit)):=
 ((Zca (a0.1,a0.2.1,a0.2.2.1,a0.2.2.2.1,())).bind fun r1=>(bif (!decide (r1.2.2.2.1=(0:Int))) then (some (((r1.1.1.1,r1.1.1.2.1,r1.1.1.2.2.1,r1.1.1.2.2.2.1,()),()),((⟨(0:Int),0#64,([]:List UInt8)⟩:ApiItem),r1.2.2.2.1,())))
 else ((Zcv (⟨r1.1.1.1,r1.1.1.2.1⟩:CborWalk) r1.2.1).bind fun r2=>(bif (!decide (r2.2.1=(0:Int))) then (some (((r1.1.1.1,r1.1.1.2.1,r1.1.1.2.2.1,r1.1.1.2.2.2.1,()),()),((⟨(0:Int),0#64,([]:List UInt8)⟩:ApiItem),r2.2.1,())))
 else ((bif (decide (r1.2.1=(5:Int))) then (bif (decide (r1.2.1=(5:Int))) then (bif (decide ((512#64).toNat < r1.2.2.1.toNat)) then (((some (((r1.1.1.1,r1.1.1.2.1,r1.1.1.2.2.1,r1.1.1.2.2.2.1,()),()),((⟨(0:Int),0#64,([]:List UInt8)⟩:ApiItem),(8:Int),())))).bind fun q=>some (Sum.inr q))
 else (some (Sum.inl ((r1.1.1.1,r1.1.1.2.1,r1.1.1.2.2.1,r1.1.1.2.2.2.1,()),((⟨(0:Int),0#64,([]:List UInt8)⟩:ApiItem),()),((⟨r1.2.1,r1.2.2.1,([]:List UInt8)⟩:ApiItem),()),()))))
 else (bif (decide (r1.2.1=(3:Int))) then (bif (decide (r1.2.1=(3:Int))) then (bif (decide ((1024#64).toNat < r1.2.2.1.toNat)) then (((some (((r1.1.1.1,r1.1.1.2.1,r1.1.1.2.2.1,r1.1.1.2.2.2.1,()),()),((⟨(0:Int),0#64,([]:List UInt8)⟩:ApiItem),(8:Int),())))).bind fun q=>some (Sum.inr q))
 else (let v3:Int:=(IntKind.wrap .i64 (((r1.1.1.2.2.1).length:Int) - r1.1.1.2.2.2.1))
 (bif (decide (v3 < (IntKind.wrap .i64 (r1.2.2.1.toNat:Int)))) then (((some (((r1.1.1.1,r1.1.1.2.1,r1.1.1.2.2.1,r1.1.1.2.2.2.1,()),()),((⟨(0:Int),0#64,([]:List UInt8)⟩:ApiItem),(1:Int),())))).bind fun q=>some (Sum.inr q))
 else (let v4:Int:=(IntKind.wrap .i64 (r1.1.1.2.2.2.1 + (IntKind.wrap .i64 (r1.2.2.1.toNat:Int))))
 (bif (decide ((0:Int) ≤ v4) && decide (v4 ≤ ((r1.1.1.2.2.1).length:Int))) then (bif (decide ((0:Int) ≤ r1.1.1.2.2.2.1) && decide (r1.1.1.2.2.2.1 ≤ ((v4).toNat:Int))) then (let v5:List (UInt8):=(List.drop (r1.1.1.2.2.2.1).toNat (List.take (v4).toNat r1.1.1.2.2.1))
 (let v6:Int:=(IntKind.wrap .i64 (r1.1.1.2.2.2.1 + (IntKind.wrap .i64 (r1.2.2.1.toNat:Int))))
 (some (Sum.inl ((r1.1.1.1,r1.1.1.2.1,r1.1.1.2.2.1,v6,()),((⟨(0:Int),0#64,([]:List UInt8)⟩:ApiItem),()),((⟨r1.2.1,0#64,v5⟩:ApiItem),()),())))))
 else none)
 else none)))))
 else (some (Sum.inl ((r1.1.1.1,r1.1.1.2.1,r1.1.1.2.2.1,r1.1.1.2.2.2.1,()),((⟨(0:Int),0#64,([]:List UInt8)⟩:ApiItem),()),((⟨r1.2.1,r1.2.2.1,([]:List UInt8)⟩:ApiItem),()),()))))
 else (bif (decide (r1.2.1=(4:Int))) then (bif (decide ((1024#64).toNat < r1.2.2.1.toNat)) then (((some (((r1.1.1.1,r1.1.1.2.1,r1.1.1.2.2.1,r1.1.1.2.2.2.1,()),()),((⟨(0:Int),0#64,([]:List UInt8)⟩:ApiItem),(8:Int),())))).bind fun q=>some (Sum.inr q))
 else (let v7:Int:=(IntKind.wrap .i64 (((r1.1.1.2.2.1).length:Int) - r1.1.1.2.2.2.1))
 (bif (decide (v7 < (IntKind.wrap .i64 (r1.2.2.1.toNat:Int)))) then (((some (((r1.1.1.1,r1.1.1.2.1,r1.1.1.2.2.1,r1.1.1.2.2.2.1,()),()),((⟨(0:Int),0#64,([]:List UInt8)⟩:ApiItem),(1:Int),())))).bind fun q=>some (Sum.inr q))
 else (let v8:Int:=(IntKind.wrap .i64 (r1.1.1.2.2.2.1 + (IntKind.wrap .i64 (r1.2.2.1.toNat:Int))))
 (bif (decide ((0:Int) ≤ v8) && decide (v8 ≤ ((r1.1.1.2.2.1).length:Int))) then (bif (decide ((0:Int) ≤ r1.1.1.2.2.2.1) && decide (r1.1.1.2.2.2.1 ≤ ((v8).toNat:Int))) then (let v9:List (UInt8):=(List.drop (r1.1.1.2.2.2.1).toNat (List.take (v8).toNat r1.1.1.2.2.1))
 (let v10:Int:=(IntKind.wrap .i64 (r1.1.1.2.2.2.1 + (IntKind.wrap .i64 (r1.2.2.1.toNat:Int))))
 (some (Sum.inl ((r1.1.1.1,r1.1.1.2.1,r1.1.1.2.2.1,v10,()),((⟨(0:Int),0#64,([]:List UInt8)⟩:ApiItem),()),((⟨r1.2.1,0#64,v9⟩:ApiItem),()),())))))
 else none)
 else none)))))
 else (some (Sum.inl ((r1.1.1.1,r1.1.1.2.1,r1.1.1.2.2.1,r1.1.1.2.2.2.1,()),((⟨(0:Int),0#64,([]:List UInt8)⟩:ApiItem),()),((⟨r1.2.1,r1.2.2.1,([]:List UInt8)⟩:ApiItem),()),()))))))
 else (bif (decide (r1.2.1=(6:Int))) then (bif (decide ((512#64).toNat < r1.2.2.1.toNat)) then (((some (((r1.1.1.1,r1.1.1.2.1,r1.1.1.2.2.1,r1.1.1.2.2.2.1,()),()),((⟨(0:Int),0#64,([]:List UInt8)⟩:ApiItem),(8:Int),())))).bind fun q=>some (Sum.inr q))
 else (some (Sum.inl ((r1.1.1.1,r1.1.1.2.1,r1.1.1.2.2.1,r1.1.1.2.2.2.1,()),((⟨(0:Int),0#64,([]:List UInt8)⟩:ApiItem),()),((⟨r1.2.1,r1.2.2.1,([]:List UInt8)⟩:ApiItem),()),()))))
 else (bif (decide (r1.2.1=(3:Int))) then (bif (decide (r1.2.1=(3:Int))) then (bif (decide ((1024#64).toNat < r1.2.2.1.toNat)) then (((some (((r1.1.1.1,r1.1.1.2.1,r1.1.1.2.2.1,r1.1.1.2.2.2.1,()),()),((⟨(0:Int),0#64,([]:List UInt8)⟩:ApiItem),(8:Int),())))).bind fun q=>some (Sum.inr q))
 else (let v11:Int:=(IntKind.wrap .i64 (((r1.1.1.2.2.1).length:Int) - r1.1.1.2.2.2.1))
 (bif (decide (v11 < (IntKind.wrap .i64 (r1.2.2.1.toNat:Int)))) then (((some (((r1.1.1.1,r1.1.1.2.1,r1.1.1.2.2.1,r1.1.1.2.2.2.1,()),()),((⟨(0:Int),0#64,([]:List UInt8)⟩:ApiItem),(1:Int),())))).bind fun q=>some (Sum.inr q))
 else (let v12:Int:=(IntKind.wrap .i64 (r1.1.1.2.2.2.1 + (IntKind.wrap .i64 (r1.2.2.1.toNat:Int))))
 (bif (decide ((0:Int) ≤ v12) && decide (v12 ≤ ((r1.1.1.2.2.1).length:Int))) then (bif (decide ((0:Int) ≤ r1.1.1.2.2.2.1) && decide (r1.1.1.2.2.2.1 ≤ ((v12).toNat:Int))) then (let v13:List (UInt8):=(List.drop (r1.1.1.2.2.2.1).toNat (List.take (v12).toNat r1.1.1.2.2.1))
 (let v14:Int:=(IntKind.wrap .i64 (r1.1.1.2.2.2.1 + (IntKind.wrap .i64 (r1.2.2.1.toNat:Int))))
 (some (Sum.inl ((r1.1.1.1,r1.1.1.2.1,r1.1.1.2.2.1,v14,()),((⟨(0:Int),0#64,([]:List UInt8)⟩:ApiItem),()),((⟨r1.2.1,0#64,v13⟩:ApiItem),()),())))))
 else none)
 else none)))))
 else (some (Sum.inl ((r1.1.1.1,r1.1.1.2.1,r1.1.1.2.2.1,r1.1.1.2.2.2.1,()),((⟨(0:Int),0#64,([]:List UInt8)⟩:ApiItem),()),((⟨r1.2.1,r1.2.2.1,([]:List UInt8)⟩:ApiItem),()),()))))
 else (bif (decide (r1.2.1=(4:Int))) then (bif (decide ((1024#64).toNat < r1.2.2.1.toNat)) then (((some (((r1.1.1.1,r1.1.1.2.1,r1.1.1.2.2.1,r1.1.1.2.2.2.1,()),()),((⟨(0:Int),0#64,([]:List UInt8)⟩:ApiItem),(8:Int),())))).bind fun q=>some (Sum.inr q))
 else (let v15:Int:=(IntKind.wrap .i64 (((r1.1.1.2.2.1).length:Int) - r1.1.1.2.2.2.1))
 (bif (decide (v15 < (IntKind.wrap .i64 (r1.2.2.1.toNat:Int)))) then (((some (((r1.1.1.1,r1.1.1.2.1,r1.1.1.2.2.1,r1.1.1.2.2.2.1,()),()),((⟨(0:Int),0#64,([]:List UInt8)⟩:ApiItem),(1:Int),())))).bind fun q=>some (Sum.inr q))
 else (let v16:Int:=(IntKind.wrap .i64 (r1.1.1.2.2.2.1 + (IntKind.wrap .i64 (r1.2.2.1.toNat:Int))))
 (bif (decide ((0:Int) ≤ v16) && decide (v16 ≤ ((r1.1.1.2.2.1).length:Int))) then (bif (decide ((0:Int) ≤ r1.1.1.2.2.2.1) && decide (r1.1.1.2.2.2.1 ≤ ((v16).toNat:Int))) then (let v17:List (UInt8):=(List.drop (r1.1.1.2.2.2.1).toNat (List.take (v16).toNat r1.1.1.2.2.1))
 (let v18:Int:=(IntKind.wrap .i64 (r1.1.1.2.2.2.1 + (IntKind.wrap .i64 (r1.2.2.1.toNat:Int))))
 (some (Sum.inl ((r1.1.1.1,r1.1.1.2.1,r1.1.1.2.2.1,v18,()),((⟨(0:Int),0#64,([]:List UInt8)⟩:ApiItem),()),((⟨r1.2.1,0#64,v17⟩:ApiItem),()),())))))
 else none)
 else none)))))
 else (some (Sum.inl ((r1.1.1.1,r1.1.1.2.1,r1.1.1.2.2.1,r1.1.1.2.2.2.1,()),((⟨(0:Int),0#64,([]:List UInt8)⟩:ApiItem),()),((⟨r1.2.1,r1.2.2.1,([]:List UInt8)⟩:ApiItem),()),()))))))).bind (Sum.elim (fun (j19:(((List (CborFrame)) × Int × (List (UInt8)) × Int × Unit) × (ApiItem × Unit) × (ApiItem × Unit) × Unit))=>((Zbd (j19.1.1,j19.1.2.1,j19.1.2.2.1,j19.1.2.2.2.1,()) j19.2.2.1.1).bind fun r20=>(bif (!decide (r20.2.1=(0:Int))) then (some (((r20.1.1.1,r20.1.1.2.1,r20.1.1.2.2.1,r20.1.1.2.2.2.1,()),()),((⟨(0:Int),0#64,([]:List UInt8)⟩:ApiItem),r20.2.1,())))
 else (some (((r20.1.1.1,r20.1.1.2.1,r20.1.1.2.2.1,r20.1.1.2.2.2.1,()),()),(j19.2.2.1.1,(0:Int),())))))) some))))))
def S_Zcb:FSpec T:=⟨[.ptr [(.own 6),(.v (.int .i64)),(.v (.rs 0)),(.v (.int .i64))]],[(.v (.agg 1)),(.v (.int .i64))],fun x=>Zcb x.1⟩
def E_Zcb:Env T:=⟨tab.find,cd,globs,flc,fun f ds=>match f with
    | 114=>some S_Zca
    | 115=>some S_Zcv
    | 116=>some S_Zbd
    | _=>none,fun f=>match f with
    | 115=>true
    | _=>false⟩
def A_Zcb:Loc2 T:=⟨fun id=>match id with
    | _=>none,fun r=>match r with
    | 21=>some ([(0,.ptr [(.own 6),(.v (.int .i64)),(.v (.rs 0)),(.v (.int .i64))]),(2,.ptr [(.v (.agg 1))]),(8,.ptr [(.v (.agg 1))])],false)
    | _=>none,fun r=>match r with
    | 19=>true
    | _=>false⟩
theorem Zcb_eq (x:tySs T S_Zcb.ps):run E_Zcb A_Zcb (Tryz.f84.body.getD .skip) (enterT E_Zcb.C S_Zcb.ps x) (retK E_Zcb Tryz.f84.results.toList S_Zcb.ps S_Zcb.rs)=S_Zcb.fn x:=by kernel_rfl
theorem Zcb_env:EnvOk Tryz.prog E_Zcb:=envOk (E:=E_Zcb) cd_ok tys fl_ok fun f ds S h=>by
    dsimp only [E_Zcb] at h
    split at h
    · cases h; exact Zca_ok
    · cases h; exact Zcv_ok
    · cases h; exact Zbd_ok
    · cases h
theorem Zcb_ok:SoundT Tryz.prog cd gdn 84 S_Zcb:=
  sound_fn (E:=E_Zcb) (A:=A_Zcb) (done:=[]) (c:=(Tryz.f84.body.getD .skip)) (S:=S_Zcb) (fn:=Tryz.f84) hmix Zcb_env Tryz.func84 rfl (by kernel_rfl) (by kernel_rfl) done_nil (by kernel_rfl) (by kernel_rfl) Zcb_eq
def Zds_L0b (y0:(List (ApiItem))) (y1:((List (CborFrame)) × Int × (List (UInt8)) × Int × Unit)):Option (((List (ApiItem)) × ((List (CborFrame)) × Int × (List (UInt8)) × Int × Unit) × Unit) ⊕ (((List (ApiItem)) × Int × Int × Unit) ⊕ ((List (ApiItem)) × ((List (CborFrame)) × Int × (List (UInt8)) × Int × Unit) × Unit))):=
 ((Zdd (⟨y1.1,y1.2.1⟩:CborWalk)).bind fun r1=>(bif (!r1.2.1) then ((Zcb (y1.1,y1.2.1,y1.2.2.1,y1.2.2.2.1,())).bind fun r2=>(bif (!decide (r2.2.2.1=(0:Int))) then (some (Sum.inr (Sum.inl ([],(0:Int),r2.2.2.1,()))))
 else (bif small ((y0).length + (([r2.2.1]:List (ApiItem)):List (ApiItem)).length) 32 then (some (Sum.inl ((y0 ++ ([r2.2.1]:List (ApiItem))),(r2.1.1.1,r2.1.1.2.1,r2.1.1.2.2.1,r2.1.1.2.2.2.1,()),())))
 else none)))
 else (some (Sum.inr (Sum.inr (y0,(y1.1,y1.2.1,y1.2.2.1,y1.2.2.2.1,()),()))))))
def Zds_L0 (y:((List (ApiItem)) × ((List (CborFrame)) × Int × (List (UInt8)) × Int × Unit) × Unit)):Option (((List (ApiItem)) × Int × Int × Unit) ⊕ ((List (ApiItem)) × ((List (CborFrame)) × Int × (List (UInt8)) × Int × Unit) × Unit)):=iter (fun (y:((List (ApiItem)) × ((List (CborFrame)) × Int × (List (UInt8)) × Int × Unit) × Unit))=>Zds_L0b y.1 y.2.1) rounds y
def Zds (a0:(List (UInt8))):Option ((Unit) × ((List (ApiItem)) × Int × Int × Unit)):=
 ((Zds_L0 ([],([],(0:Int),a0,(0:Int),()),())).bind (Sum.elim (fun (z3:((List (ApiItem)) × Int × Int × Unit))=>(some ((),(z3.1,z3.2.1,z3.2.2.1,())))) (fun (z4:((List (ApiItem)) × ((List (CborFrame)) × Int × (List (UInt8)) × Int × Unit) × Unit))=>(some ((),(z4.1,z4.2.1.2.2.2.1,(0:Int),()))))))
def S_Zds:FSpec T:=⟨[.f (.v (.rs 0))],[(.own 1),(.v (.int .i64)),(.v (.int .i64))],fun x=>Zds x.1⟩
def E_Zds:Env T:=⟨tab.find,cd,globs,flc,fun f ds=>match f with
    | 83=>some S_Zdd
    | 84=>some S_Zcb
    | _=>none,fun f=>match f with
    | 83=>true
    | _=>false⟩
def A_Zds:Loc2 T:=⟨fun id=>match id with
    | 0=>some ⟨[(2,.f (.own 1)),(5,.ptr [(.own 6),(.v (.int .i64)),(.v (.rs 0)),(.v (.int .i64))])],[(.ret,[(2,.f (.own 1)),(3,.f (.v (.int .i64))),(4,.f (.v (.int .i64)))]),(.exit 0,[(2,.f (.own 1)),(5,.ptr [(.own 6),(.v (.int .i64)),(.v (.rs 0)),(.v (.int .i64))])])],Zds_L0,[]⟩
    | _=>none,fun r=>match r with
    | _=>none,fun r=>match r with
    | _=>false⟩
theorem Zds_L0_eq (y0:(List (ApiItem))) (y1:((List (CborFrame)) × Int × (List (UInt8)) × Int × Unit)):run E_Zds A_Zds (loopAt 0 (Tryz.f51.body.getD .skip)) (layC cd [(2,.f (.own 1)),(5,.ptr [(.own 6),(.v (.int .i64)),(.v (.rs 0)),(.v (.int .i64))])] [] (y0,y1,())) (roundK cd [(2,.f (.own 1)),(5,.ptr [(.own 6),(.v (.int .i64)),(.v (.rs 0)),(.v (.int .i64))])] [] [(.ret,[(2,.f (.own 1)),(3,.f (.v (.int .i64))),(4,.f (.v (.int .i64)))]),(.exit 0,[(2,.f (.own 1)),(5,.ptr [(.own 6),(.v (.int .i64)),(.v (.rs 0)),(.v (.int .i64))])])])=Zds_L0b y0 y1:=by kernel_rfl
theorem Zds_eq (x:tySs T S_Zds.ps):run E_Zds A_Zds (Tryz.f51.body.getD .skip) (enterT E_Zds.C S_Zds.ps x) (retK E_Zds Tryz.f51.results.toList S_Zds.ps S_Zds.rs)=S_Zds.fn x:=by kernel_rfl
theorem Zds_env:EnvOk Tryz.prog E_Zds:=envOk (E:=E_Zds) cd_ok tys fl_ok fun f ds S h=>by
    dsimp only [E_Zds] at h
    split at h
    · cases h; exact Zdd_ok
    · cases h; exact Zcb_ok
    · cases h
theorem Zds_L0_ok:LoopOk Tryz.prog E_Zds Tryz.f51.ntmps (kqOf S_Zds.ps 0) (loopAt 0 (Tryz.f51.body.getD .skip)) ⟨[(2,.f (.own 1)),(5,.ptr [(.own 6),(.v (.int .i64)),(.v (.rs 0)),(.v (.int .i64))])],[(.ret,[(2,.f (.own 1)),(3,.f (.v (.int .i64))),(4,.f (.v (.int .i64)))]),(.exit 0,[(2,.f (.own 1)),(5,.ptr [(.own 6),(.v (.int .i64)),(.v (.rs 0)),(.v (.int .i64))])])],Zds_L0,[]⟩:=
  loop_ok (A:=A_Zds) (done:=[]) (c0:=(Tryz.f51.body.getD .skip)) hmix Zds_env done_nil rounds (by kernel_rfl) (by kernel_rfl) (fun x=>Zds_L0_eq x.1 x.2.1) (fun _=>rfl)
theorem Zds_ok:SoundT Tryz.prog cd gdn 51 S_Zds:=
  sound_fn (E:=E_Zds) (A:=A_Zds) (done:=[0]) (c:=(Tryz.f51.body.getD .skip)) (S:=S_Zds) (fn:=Tryz.f51) hmix Zds_env Tryz.func51 rfl (by kernel_rfl) (by kernel_rfl) (done_cons rfl Zds_L0_ok done_nil) (by kernel_rfl) (by kernel_rfl) Zds_eq
def cbor_Skip_L0b (y0:(List (ApiItem))) (y1:Int) (y2:Int):Option (((List (ApiItem)) × Int × Int × Unit) ⊕ ((Int × Bool × Unit) ⊕ (Int × Unit))):=
 (bif (decide ((0:Int) < y2)) then (bif (decide (((y0).length:Int) ≤ y1)) then (some (Sum.inr (Sum.inl ((0:Int),false,()))))
 else ((getI y0 y1).bind fun x1=>(bif (!decide (x1.kind=(5:Int))) then (bif (!decide (x1.kind=(6:Int))) then (some (Sum.inl (y0,(IntKind.wrap .i64 (y1 + (1:Int))),(IntKind.wrap .i64 (y2 - (1:Int))),())))
 else (bif (decide ((512#64).toNat < x1.number.toNat)) then (some (Sum.inr (Sum.inl ((0:Int),false,()))))
 else (let v2:Int:=(IntKind.wrap .i64 ((IntKind.wrap .i64 (y2 - (1:Int))) + (IntKind.wrap .i64 (x1.number.toNat:Int))))
 (bif (decide (x1.kind=(6:Int))) then (let v3:Int:=(IntKind.wrap .i64 (v2 + (IntKind.wrap .i64 (x1.number.toNat:Int))))
 (some (Sum.inl (y0,(IntKind.wrap .i64 (y1 + (1:Int))),v3,()))))
 else (some (Sum.inl (y0,(IntKind.wrap .i64 (y1 + (1:Int))),v2,())))))))
 else (bif (decide ((512#64).toNat < x1.number.toNat)) then (some (Sum.inr (Sum.inl ((0:Int),false,()))))
 else (let v4:Int:=(IntKind.wrap .i64 ((IntKind.wrap .i64 (y2 - (1:Int))) + (IntKind.wrap .i64 (x1.number.toNat:Int))))
 (bif (decide (x1.kind=(6:Int))) then (let v5:Int:=(IntKind.wrap .i64 (v4 + (IntKind.wrap .i64 (x1.number.toNat:Int))))
 (some (Sum.inl (y0,(IntKind.wrap .i64 (y1 + (1:Int))),v5,()))))
 else (some (Sum.inl (y0,(IntKind.wrap .i64 (y1 + (1:Int))),v4,())))))))))
 else (some (Sum.inr (Sum.inr (y1,())))))
def cbor_Skip_L0 (y:((List (ApiItem)) × Int × Int × Unit)):Option ((Int × Bool × Unit) ⊕ (Int × Unit)):=iter (fun (y:((List (ApiItem)) × Int × Int × Unit))=>cbor_Skip_L0b y.1 y.2.1 y.2.2.1) rounds y
def cbor_Skip (a0:(List (ApiItem))) (a1:Int):Option ((Unit) × (Int × Bool × Unit)):=
 (bif (decide (a1 < (0:Int))) then (some ((),((0:Int),false,())))
 else (bif (decide (((a0).length:Int) ≤ a1)) then (some ((),((0:Int),false,())))
 else ((cbor_Skip_L0 (a0,a1,(1:Int),())).bind (Sum.elim (fun (z6:(Int × Bool × Unit))=>(some ((),(z6.1,z6.2.1,())))) (fun (z7:(Int × Unit))=>(some ((),(z7.1,true,()))))))))
def S_cbor_Skip:FSpec T:=⟨[.f (.v (.rs 1)),.f (.v (.int .i64))],[(.v (.int .i64)),(.v .bool)],fun x=>cbor_Skip x.1 x.2.1⟩
def E_cbor_Skip:Env T:=⟨tab.find,cd,globs,flc,fun f ds=>match f with
    | _=>none,fun f=>match f with
    | _=>false⟩
def A_cbor_Skip:Loc2 T:=⟨fun id=>match id with
    | 0=>some ⟨[(0,.f (.v (.rs 1))),(4,.f (.v (.int .i64))),(6,.f (.v (.int .i64)))],[(.ret,[(4,.f (.v (.int .i64))),(5,.f (.v .bool))]),(.exit 0,[(4,.f (.v (.int .i64)))])],cbor_Skip_L0,[]⟩
    | _=>none,fun r=>match r with
    | _=>none,fun r=>match r with
    | _=>false⟩
theorem cbor_Skip_L0_eq (y0:(List (ApiItem))) (y1:Int) (y2:Int):run E_cbor_Skip A_cbor_Skip (loopAt 0 (Tryz.f117.body.getD .skip)) (layC cd [(0,.f (.v (.rs 1))),(4,.f (.v (.int .i64))),(6,.f (.v (.int .i64)))] [] (y0,y1,y2,())) (roundK cd [(0,.f (.v (.rs 1))),(4,.f (.v (.int .i64))),(6,.f (.v (.int .i64)))] [] [(.ret,[(4,.f (.v (.int .i64))),(5,.f (.v .bool))]),(.exit 0,[(4,.f (.v (.int .i64)))])])=cbor_Skip_L0b y0 y1 y2:=by kernel_rfl
theorem cbor_Skip_eq (x:tySs T S_cbor_Skip.ps):run E_cbor_Skip A_cbor_Skip (Tryz.f117.body.getD .skip) (enterT E_cbor_Skip.C S_cbor_Skip.ps x) (retK E_cbor_Skip Tryz.f117.results.toList S_cbor_Skip.ps S_cbor_Skip.rs)=S_cbor_Skip.fn x:=by kernel_rfl
theorem cbor_Skip_env:EnvOk Tryz.prog E_cbor_Skip:=envOk (E:=E_cbor_Skip) cd_ok tys fl_ok fun f ds S h=>by cases h
theorem cbor_Skip_L0_ok:LoopOk Tryz.prog E_cbor_Skip Tryz.f117.ntmps (kqOf S_cbor_Skip.ps 0) (loopAt 0 (Tryz.f117.body.getD .skip)) ⟨[(0,.f (.v (.rs 1))),(4,.f (.v (.int .i64))),(6,.f (.v (.int .i64)))],[(.ret,[(4,.f (.v (.int .i64))),(5,.f (.v .bool))]),(.exit 0,[(4,.f (.v (.int .i64)))])],cbor_Skip_L0,[]⟩:=
  loop_ok (A:=A_cbor_Skip) (done:=[]) (c0:=(Tryz.f117.body.getD .skip)) hmix cbor_Skip_env done_nil rounds (by kernel_rfl) (by kernel_rfl) (fun x=>cbor_Skip_L0_eq x.1 x.2.1 x.2.2.1) (fun _=>rfl)
theorem cbor_Skip_ok:SoundT Tryz.prog cd gdn 117 S_cbor_Skip:=
  sound_fn (E:=E_cbor_Skip) (A:=A_cbor_Skip) (done:=[0]) (c:=(Tryz.f117.body.getD .skip)) (S:=S_cbor_Skip) (fn:=Tryz.f117) hmix cbor_Skip_env Tryz.func117 rfl (by kernel_rfl) (by kernel_rfl) (done_cons rfl cbor_Skip_L0_ok done_nil) (by kernel_rfl) (by kernel_rfl) cbor_Skip_eq
def Zdu_L0b (y0:(List (ApiItem))) (y1:(BitVec 64)) (y2:Int) (y3:(BitVec 64)) (y4:(BitVec 64)):Option (((List (ApiItem)) × (BitVec 64) × Int × (BitVec 64) × (BitVec 64) × Unit) ⊕ (((List (ApiItem)) × Bool × Unit) ⊕ (Unit))):=
 (bif (decide (y4.toNat < y3.toNat)) then ((cbor_Skip y0 (IntKind.wrap .i64 (y2 + (1:Int)))).bind fun r4=>(bif (!r4.2.2.1) then (some (Sum.inr (Sum.inl ([],false,()))))
 else ((getI y0 y2).bind fun x5=>(bif (decide (x5.kind=(1:Int))) then ((getI y0 y2).bind fun x6=>(bif (decide (x6.number=y1)) then (bif (decide ((0:Int) ≤ r4.2.1) && decide (r4.2.1 ≤ ((y0).length:Int))) then (bif (decide ((0:Int) ≤ (IntKind.wrap .i64 (y2 + (1:Int)))) && decide ((IntKind.wrap .i64 (y2 + (1:Int))) ≤ ((r4.2.1).toNat:Int))) then (let v7:List (ApiItem):=(List.drop ((IntKind.wrap .i64 (y2 + (1:Int)))).toNat (List.take (r4.2.1).toNat y0))
 ((Zdq v7).bind fun r8=>(some (Sum.inr (Sum.inl (r8.2.1,true,()))))))
 else none)
 else none)
 else (some (Sum.inl (y0,y1,r4.2.1,y3,(y4 + 1#64),())))))
 else (some (Sum.inl (y0,y1,r4.2.1,y3,(y4 + 1#64),())))))))
 else (some (Sum.inr (Sum.inr ()))))
def Zdu_L0 (y:((List (ApiItem)) × (BitVec 64) × Int × (BitVec 64) × (BitVec 64) × Unit)):Option (((List (ApiItem)) × Bool × Unit) ⊕ (Unit)):=iter (fun (y:((List (ApiItem)) × (BitVec 64) × Int × (BitVec 64) × (BitVec 64) × Unit))=>Zdu_L0b y.1 y.2.1 y.2.2.1 y.2.2.2.1 y.2.2.2.2.1) rounds y
def Zdu (a0:(List (ApiItem))) (a1:(BitVec 64)):Option ((Unit) × ((List (ApiItem)) × Bool × Unit)):=
 ((Zdi a0).bind fun r1=>(bif (!decide (r1.2.1=(0:Int))) then (some ((),([],false,())))
 else ((getI a0 (0:Int)).bind fun x2=>(bif (!decide (x2.kind=(6:Int))) then (some ((),([],false,())))
 else ((getI a0 (0:Int)).bind fun x3=>((Zdu_L0 (a0,a1,(1:Int),x3.number,0#64,())).bind (Sum.elim (fun (z9:((List (ApiItem)) × Bool × Unit))=>(some ((),(z9.1,z9.2.1,())))) (fun (z10:(Unit))=>(some ((),([],false,())))))))))))
def S_Zdu:FSpec T:=⟨[.f (.v (.rs 1)),.f (.v .u64)],[(.own 1),(.v .bool)],fun x=>Zdu x.1 x.2.1⟩
def E_Zdu:Env T:=⟨tab.find,cd,globs,flc,fun f ds=>match f with
    | 78=>some S_Zdi
    | 117=>some S_cbor_Skip
    | 118=>some S_Zdq
    | _=>none,fun f=>match f with
    | 78=>true
    | 117=>true
    | _=>false⟩
def A_Zdu:Loc2 T:=⟨fun id=>match id with
    | 0=>some ⟨[(0,.f (.v (.rs 1))),(1,.f (.v .u64)),(6,.f (.v (.int .i64))),(22,.f (.v .u64)),(23,.f (.v .u64))],[(.ret,[(4,.f (.own 1)),(5,.f (.v .bool))]),(.exit 0,[])],Zdu_L0,[]⟩
    | _=>none,fun r=>match r with
    | _=>none,fun r=>match r with
    | _=>false⟩
theorem Zdu_L0_eq (y0:(List (ApiItem))) (y1:(BitVec 64)) (y2:Int) (y3:(BitVec 64)) (y4:(BitVec 64)):run E_Zdu A_Zdu (loopAt 0 (Tryz.f85.body.getD .skip)) (layC cd [(0,.f (.v (.rs 1))),(1,.f (.v .u64)),(6,.f (.v (.int .i64))),(22,.f (.v .u64)),(23,.f (.v .u64))] [] (y0,y1,y2,y3,y4,())) (roundK cd [(0,.f (.v (.rs 1))),(1,.f (.v .u64)),(6,.f (.v (.int .i64))),(22,.f (.v .u64)),(23,.f (.v .u64))] [] [(.ret,[(4,.f (.own 1)),(5,.f (.v .bool))]),(.exit 0,[])])=Zdu_L0b y0 y1 y2 y3 y4:=by kernel_rfl
theorem Zdu_eq (x:tySs T S_Zdu.ps):run E_Zdu A_Zdu (Tryz.f85.body.getD .skip) (enterT E_Zdu.C S_Zdu.ps x) (retK E_Zdu Tryz.f85.results.toList S_Zdu.ps S_Zdu.rs)=S_Zdu.fn x:=by kernel_rfl
theorem Zdu_env:EnvOk Tryz.prog E_Zdu:=envOk (E:=E_Zdu) cd_ok tys fl_ok fun f ds S h=>by
    dsimp only [E_Zdu] at h
    split at h
    · cases h; exact Zdi_ok
    · cases h; exact cbor_Skip_ok
    · cases h; exact Zdq_ok
    · cases h
theorem Zdu_L0_ok:LoopOk Tryz.prog E_Zdu Tryz.f85.ntmps (kqOf S_Zdu.ps 0) (loopAt 0 (Tryz.f85.body.getD .skip)) ⟨[(0,.f (.v (.rs 1))),(1,.f (.v .u64)),(6,.f (.v (.int .i64))),(22,.f (.v .u64)),(23,.f (.v .u64))],[(.ret,[(4,.f (.own 1)),(5,.f (.v .bool))]),(.exit 0,[])],Zdu_L0,[]⟩:=
  loop_ok (A:=A_Zdu) (done:=[]) (c0:=(Tryz.f85.body.getD .skip)) hmix Zdu_env done_nil rounds (by kernel_rfl) (by kernel_rfl) (fun x=>Zdu_L0_eq x.1 x.2.1 x.2.2.1 x.2.2.2.1 x.2.2.2.2.1) (fun _=>rfl)
theorem Zdu_ok:SoundT Tryz.prog cd gdn 85 S_Zdu:=
  sound_fn (E:=E_Zdu) (A:=A_Zdu) (done:=[0]) (c:=(Tryz.f85.body.getD .skip)) (S:=S_Zdu) (fn:=Tryz.f85) hmix Zdu_env Tryz.func85 rfl (by kernel_rfl) (by kernel_rfl) (done_cons rfl Zdu_L0_ok done_nil) (by kernel_rfl) (by kernel_rfl) Zdu_eq
def Zcg (a0:(List (ApiItem))) (a1:(BitVec 64)):Option ((Unit) × (ApiItem × Unit)):=
 ((Zdu a0 a1).bind fun r1=>(bif (!r1.2.2.1) then (some ((),((⟨(0:Int),0#64,([]:List UInt8)⟩:ApiItem),())))
 else (bif (decide (((r1.2.1).length:Int)=(0:Int))) then (some ((),((⟨(0:Int),0#64,([]:List UInt8)⟩:ApiItem),())))
 else (bif decide ((0:Int) < ((r1.2.1).length:Int)) then (((r1.2.1)[0]?).bind fun x2=>(some ((),(x2,()))))
 else none))))
def S_Zcg:FSpec T:=⟨[.f (.v (.rs 1)),.f (.v .u64)],[(.v (.agg 1))],fun x=>Zcg x.1 x.2.1⟩
def E_Zcg:Env T:=⟨tab.find,cd,globs,flc,fun f ds=>match f with
    | 85=>some S_Zdu
    | _=>none,fun f=>match f with
    | _=>false⟩
def A_Zcg:Loc2 T:=⟨fun id=>match id with
    | _=>none,fun r=>match r with
    | _=>none,fun r=>match r with
    | _=>false⟩
theorem Zcg_eq (x:tySs T S_Zcg.ps):run E_Zcg A_Zcg (Tryz.f52.body.getD .skip) (enterT E_Zcg.C S_Zcg.ps x) (retK E_Zcg Tryz.f52.results.toList S_Zcg.ps S_Zcg.rs)=S_Zcg.fn x:=by kernel_rfl
theorem Zcg_env:EnvOk Tryz.prog E_Zcg:=envOk (E:=E_Zcg) cd_ok tys fl_ok fun f ds S h=>by
    dsimp only [E_Zcg] at h
    split at h
    · cases h; exact Zdu_ok
    · cases h
theorem Zcg_ok:SoundT Tryz.prog cd gdn 52 S_Zcg:=
  sound_fn (E:=E_Zcg) (A:=A_Zcg) (done:=[]) (c:=(Tryz.f52.body.getD .skip)) (S:=S_Zcg) (fn:=Tryz.f52) hmix Zcg_env Tryz.func52 rfl (by kernel_rfl) (by kernel_rfl) done_nil (by kernel_rfl) (by kernel_rfl) Zcg_eq
def Zdr (a0:(List (UInt8))) (a1:(List (UInt8))):Option ((Unit) × (Bool × Unit)):=
 (some ((),((decide (a0=a1)),())))
def S_Zdr:FSpec T:=⟨[.f (.v (.rs 0)),.f (.v (.rs 0))],[(.v .bool)],fun x=>Zdr x.1 x.2.1⟩
def E_Zdr:Env T:=⟨tab.find,cd,globs,flc,fun f ds=>match f with
    | _=>none,fun f=>match f with
    | _=>false⟩
def A_Zdr:Loc2 T:=⟨fun id=>match id with
    | _=>none,fun r=>match r with
    | _=>none,fun r=>match r with
    | _=>false⟩
theorem Zdr_eq (x:tySs T S_Zdr.ps):run E_Zdr A_Zdr (Tryz.f53.body.getD .skip) (enterT E_Zdr.C S_Zdr.ps x) (retK E_Zdr Tryz.f53.results.toList S_Zdr.ps S_Zdr.rs)=S_Zdr.fn x:=by kernel_rfl
theorem Zdr_env:EnvOk Tryz.prog E_Zdr:=envOk (E:=E_Zdr) cd_ok tys fl_ok fun f ds S h=>by cases h
theorem Zdr_ok:SoundT Tryz.prog cd gdn 53 S_Zdr:=
  sound_fn (E:=E_Zdr) (A:=A_Zdr) (done:=[]) (c:=(Tryz.f53.body.getD .skip)) (S:=S_Zdr) (fn:=Tryz.f53) hmix Zdr_env Tryz.func53 rfl (by kernel_rfl) (by kernel_rfl) done_nil (by kernel_rfl) (by kernel_rfl) Zdr_eq
def Zbp (a0:(List (UInt8))):Option ((Unit) × (ApiCredential × Int × Unit)):=
 ((Zds a0).bind fun r1=>(bif (!decide (r1.2.2.2.1=(0:Int))) then (some ((),((⟨([]:List UInt8),([]:List UInt8),([]:List UInt8),0#64,(0:Int),false,(0:Int),false,false⟩:ApiCredential),(2:Int),())))
 else ((Zcg r1.2.1 (1#64)).bind fun r2=>((Zcg r1.2.1 (2#64)).bind fun r3=>((Zcg r1.2.1 (3#64)).bind fun r4=>((Zcg r1.2.1 (4#64)).bind fun r5=>((Zcg r1.2.1 (5#64)).bind fun r6=>((Zcg r1.2.1 (6#64)).bind fun r7=>((Zcg r1.2.1 (7#64)).bind fun r8=>((Zcg r1.2.1 (8#64)).bind fun r9=>((Zcg r1.2.1 (9#64)).bind fun r10=>((Zbq (⟨r2.2.1.data,r3.2.1.data,r4.2.1.data,r5.2.1.number,(IntKind.wrap .i64 (r6.2.1.number.toNat:Int)),(decide (r7.2.1.number=1#64)),(IntKind.wrap .i64 (r8.2.1.number.toNat:Int)),(decide (r9.2.1.number=1#64)),(decide (r10.2.1.number=1#64))⟩:ApiCredential)).bind fun r11=>(bif (!decide (r11.2.2.1=(0:Int))) then (some ((),((⟨([]:List UInt8),([]:List UInt8),([]:List UInt8),0#64,(0:Int),false,(0:Int),false,false⟩:ApiCredential),(2:Int),())))
 else ((Zdr r11.2.1 a0).bind fun r12=>(bif (!r12.2.1) then (some ((),((⟨([]:List UInt8),([]:List UInt8),([]:List UInt8),0#64,(0:Int),false,(0:Int),false,false⟩:ApiCredential),(2:Int),())))
 else (some ((),((⟨r2.2.1.data,r3.2.1.data,r4.2.1.data,r5.2.1.number,(IntKind.wrap .i64 (r6.2.1.number.toNat:Int)),(decide (r7.2.1.number=1#64)),(IntKind.wrap .i64 (r8.2.1.number.toNat:Int)),(decide (r9.2.1.number=1#64)),(decide (r10.2.1.number=1#64))⟩:ApiCredential),(0:Int),()))))))))))))))))))
def S_Zbp:FSpec T:=⟨[.f (.v (.rs 0))],[(.v (.agg 2)),(.v (.int .i64))],fun x=>Zbp x.1⟩
def E_Zbp:Env T:=⟨tab.find,cd,globs,flc,fun f ds=>match f with
    | 12=>some S_Zbq
    | 51=>some S_Zds
    | 52=>some S_Zcg
    | 53=>some S_Zdr
    | _=>none,fun f=>match f with
    | 52=>true
    | 53=>true
    | _=>false⟩
def A_Zbp:Loc2 T:=⟨fun id=>match id with
    | _=>none,fun r=>match r with
    | _=>none,fun r=>match r with
    | _=>false⟩
theorem Zbp_eq (x:tySs T S_Zbp.ps):run E_Zbp A_Zbp (Tryz.f16.body.getD .skip) (enterT E_Zbp.C S_Zbp.ps x) (retK E_Zbp Tryz.f16.results.toList S_Zbp.ps S_Zbp.rs)=S_Zbp.fn x:=by kernel_rfl
theorem Zbp_env:EnvOk Tryz.prog E_Zbp:=envOk (E:=E_Zbp) cd_ok tys fl_ok fun f ds S h=>by
    dsimp only [E_Zbp] at h
    split at h
    · cases h; exact Zbq_ok
    · cases h; exact Zds_ok
    · cases h; exact Zcg_ok
    · cases h; exact Zdr_ok
    · cases h
theorem Zbp_ok:SoundT Tryz.prog cd gdn 16 S_Zbp:=
  sound_fn (E:=E_Zbp) (A:=A_Zbp) (done:=[]) (c:=(Tryz.f16.body.getD .skip)) (S:=S_Zbp) (fn:=Tryz.f16) hmix Zbp_env Tryz.func16 rfl (by kernel_rfl) (by kernel_rfl) done_nil (by kernel_rfl) (by kernel_rfl) Zbp_eq
def Zau_L0b (y0:(List (UInt8))) (y1:UInt8):Option (((List (UInt8)) × UInt8 × Unit) ⊕ ((List (UInt8)) × Unit)):=
 (bif (decide ((0:Int) < ((y0).length:Int))) then ((getI y0 (IntKind.wrap .i64 (((y0).length:Int) - (1:Int)))).bind fun x1=>(bif (decide (x1.toBitVec=y1.toBitVec)) then (bif (decide ((0:Int) ≤ (IntKind.wrap .i64 (((y0).length:Int) - (1:Int)))) && decide ((IntKind.wrap .i64 (((y0).length:Int) - (1:Int))) ≤ ((y0).length:Int))) then (let v2:List (UInt8):=(List.take ((IntKind.wrap .i64 (((y0).length:Int) - (1:Int)))).toNat y0)
 (some (Sum.inl (v2,y1,()))))
 else none)
 else (some (Sum.inr (y0,())))))
 else (some (Sum.inr (y0,()))))
def Zau_L0 (y:((List (UInt8)) × UInt8 × Unit)):Option ((List (UInt8)) × Unit):=iter (fun (y:((List (UInt8)) × UInt8 × Unit))=>Zau_L0b y.1 y.2.1) rounds y
def Zau (a0:(List (UInt8))) (a1:UInt8):Option ((Unit) × ((List (UInt8)) × Unit)):=
 ((Zau_L0 (a0,a1,())).bind (fun (z3:((List (UInt8)) × Unit))=>(some ((),(z3.1,())))))
def S_Zau:FSpec T:=⟨[.f (.v (.rs 0)),.f (.v .u8)],[(.v (.rs 0))],fun x=>Zau x.1 x.2.1⟩
def E_Zau:Env T:=⟨tab.find,cd,globs,flc,fun f ds=>match f with
    | _=>none,fun f=>match f with
    | _=>false⟩
def A_Zau:Loc2 T:=⟨fun id=>match id with
    | 0=>some ⟨[(0,.f (.v (.rs 0))),(1,.f (.v .u8))],[(.exit 0,[(0,.f (.v (.rs 0)))])],Zau_L0,[]⟩
    | _=>none,fun r=>match r with
    | _=>none,fun r=>match r with
    | _=>false⟩
theorem Zau_L0_eq (y0:(List (UInt8))) (y1:UInt8):run E_Zau A_Zau (loopAt 0 (Tryz.f101.body.getD .skip)) (layC cd [(0,.f (.v (.rs 0))),(1,.f (.v .u8))] [] (y0,y1,())) (roundK cd [(0,.f (.v (.rs 0))),(1,.f (.v .u8))] [] [(.exit 0,[(0,.f (.v (.rs 0)))])])=Zau_L0b y0 y1:=by kernel_rfl
theorem Zau_eq (x:tySs T S_Zau.ps):run E_Zau A_Zau (Tryz.f101.body.getD .skip) (enterT E_Zau.C S_Zau.ps x) (retK E_Zau Tryz.f101.results.toList S_Zau.ps S_Zau.rs)=S_Zau.fn x:=by kernel_rfl
theorem Zau_env:EnvOk Tryz.prog E_Zau:=envOk (E:=E_Zau) cd_ok tys fl_ok fun f ds S h=>by cases h
theorem Zau_L0_ok:LoopOk Tryz.prog E_Zau Tryz.f101.ntmps (kqOf S_Zau.ps 0) (loopAt 0 (Tryz.f101.body.getD .skip)) ⟨[(0,.f (.v (.rs 0))),(1,.f (.v .u8))],[(.exit 0,[(0,.f (.v (.rs 0)))])],Zau_L0,[]⟩:=
  loop_ok (A:=A_Zau) (done:=[]) (c0:=(Tryz.f101.body.getD .skip)) hmix Zau_env done_nil rounds (by kernel_rfl) (by kernel_rfl) (fun x=>Zau_L0_eq x.1 x.2.1) (fun _=>rfl)
theorem Zau_ok:SoundT Tryz.prog cd gdn 101 S_Zau:=
  sound_fn (E:=E_Zau) (A:=A_Zau) (done:=[0]) (c:=(Tryz.f101.body.getD .skip)) (S:=S_Zau) (fn:=Tryz.f101) hmix Zau_env Tryz.func101 rfl (by kernel_rfl) (by kernel_rfl) (done_cons rfl Zau_L0_ok done_nil) (by kernel_rfl) (by kernel_rfl) Zau_eq
def Zbc_L0b (y0:(List (UInt8))) (y1:UInt8):Option (((List (UInt8)) × UInt8 × Unit) ⊕ ((List (UInt8)) × Unit)):=
 (bif (decide ((0:Int) < ((y0).length:Int))) then ((getI y0 (0:Int)).bind fun x1=>(bif (decide (x1.toBitVec=y1.toBitVec)) then (bif decide ((1:Int) ≤ ((y0).length:Int)) then (some (Sum.inl ((List.drop 1 y0),y1,())))
 else none)
 else (some (Sum.inr (y0,())))))
 else (some (Sum.inr (y0,()))))
def Zbc_L0 (y:((List (UInt8)) × UInt8 × Unit)):Option ((List (UInt8)) × Unit):=iter (fun (y:((List (UInt8)) × UInt8 × Unit))=>Zbc_L0b y.1 y.2.1) rounds y
def Zbc (a0:(List (UInt8))) (a1:UInt8):Option ((Unit) × ((List (UInt8)) × Unit)):=
 ((Zbc_L0 (a0,a1,())).bind (fun (z2:((List (UInt8)) × Unit))=>(bif (decide (((z2.1).length:Int)=(0:Int))) then (some ((),([],())))
 else (some ((),(z2.1,()))))))
def S_Zbc:FSpec T:=⟨[.f (.v (.rs 0)),.f (.v .u8)],[(.v (.rs 0))],fun x=>Zbc x.1 x.2.1⟩
def E_Zbc:Env T:=⟨tab.find,cd,globs,flc,fun f ds=>match f with
    | _=>none,fun f=>match f with
    | _=>false⟩
def A_Zbc:Loc2 T:=⟨fun id=>match id with
    | 0=>some ⟨[(0,.f (.v (.rs 0))),(1,.f (.v .u8))],[(.exit 0,[(0,.f (.v (.rs 0)))])],Zbc_L0,[]⟩
    | _=>none,fun r=>match r with
    | _=>none,fun r=>match r with
    | _=>false⟩
theorem Zbc_L0_eq (y0:(List (UInt8))) (y1:UInt8):run E_Zbc A_Zbc (loopAt 0 (Tryz.f100.body.getD .skip)) (layC cd [(0,.f (.v (.rs 0))),(1,.f (.v .u8))] [] (y0,y1,())) (roundK cd [(0,.f (.v (.rs 0))),(1,.f (.v .u8))] [] [(.exit 0,[(0,.f (.v (.rs 0)))])])=Zbc_L0b y0 y1:=by kernel_rfl
theorem Zbc_eq (x:tySs T S_Zbc.ps):run E_Zbc A_Zbc (Tryz.f100.body.getD .skip) (enterT E_Zbc.C S_Zbc.ps x) (retK E_Zbc Tryz.f100.results.toList S_Zbc.ps S_Zbc.rs)=S_Zbc.fn x:=by kernel_rfl
theorem Zbc_env:EnvOk Tryz.prog E_Zbc:=envOk (E:=E_Zbc) cd_ok tys fl_ok fun f ds S h=>by cases h
theorem Zbc_L0_ok:LoopOk Tryz.prog E_Zbc Tryz.f100.ntmps (kqOf S_Zbc.ps 0) (loopAt 0 (Tryz.f100.body.getD .skip)) ⟨[(0,.f (.v (.rs 0))),(1,.f (.v .u8))],[(.exit 0,[(0,.f (.v (.rs 0)))])],Zbc_L0,[]⟩:=
  loop_ok (A:=A_Zbc) (done:=[]) (c0:=(Tryz.f100.body.getD .skip)) hmix Zbc_env done_nil rounds (by kernel_rfl) (by kernel_rfl) (fun x=>Zbc_L0_eq x.1 x.2.1) (fun _=>rfl)
theorem Zbc_ok:SoundT Tryz.prog cd gdn 100 S_Zbc:=
  sound_fn (E:=E_Zbc) (A:=A_Zbc) (done:=[0]) (c:=(Tryz.f100.body.getD .skip)) (S:=S_Zbc) (fn:=Tryz.f100) hmix Zbc_env Tryz.func100 rfl (by kernel_rfl) (by kernel_rfl) (done_cons rfl Zbc_L0_ok done_nil) (by kernel_rfl) (by kernel_rfl) Zbc_eq
def Zdz (a0:(List (UInt8))) (a1:(List UInt8)):Option ((Unit) × ((List (UInt8)) × Unit)):=
 (bif (decide (((a0).length:Int)=(0:Int))) then (some ((),([],())))
 else (bif (decide (a1=([]:List UInt8))) then (some ((),(a0,())))
 else (bif (decide (((a1).length:Int)=(1:Int))) then ((getI a1 (0:Int)).bind fun x1=>(bif (decide (x1.toBitVec.toNat < (128:UInt8).toBitVec.toNat)) then ((getI a1 (0:Int)).bind fun x2=>((Zau a0 x2).bind fun r3=>((getI a1 (0:Int)).bind fun x4=>((Zbc r3.2.1 x4).bind fun r5=>(some ((),(r5.2.1,())))))))
 else none))
 else none)))
def S_Zdz:FSpec T:=⟨[.f (.v (.rs 0)),.f (.v .str)],[(.v (.rs 0))],fun x=>Zdz x.1 x.2.1⟩
def E_Zdz:Env T:=⟨tab.find,cd,globs,flc,fun f ds=>match f with
    | 100=>some S_Zbc
    | 101=>some S_Zau
    | _=>none,fun f=>match f with
    | _=>false⟩
def A_Zdz:Loc2 T:=⟨fun id=>match id with
    | _=>none,fun r=>match r with
    | _=>none,fun r=>match r with
    | _=>false⟩
theorem Zdz_eq (x:tySs T S_Zdz.ps):run E_Zdz A_Zdz (Tryz.f72.body.getD .skip) (enterT E_Zdz.C S_Zdz.ps x) (retK E_Zdz Tryz.f72.results.toList S_Zdz.ps S_Zdz.rs)=S_Zdz.fn x:=by kernel_rfl
theorem Zdz_env:EnvOk Tryz.prog E_Zdz:=envOk (E:=E_Zdz) cd_ok tys fl_ok fun f ds S h=>by
    dsimp only [E_Zdz] at h
    split at h
    · cases h; exact Zbc_ok
    · cases h; exact Zau_ok
    · cases h
theorem Zdz_ok:SoundT Tryz.prog cd gdn 72 S_Zdz:=
  sound_fn (E:=E_Zdz) (A:=A_Zdz) (done:=[]) (c:=(Tryz.f72.body.getD .skip)) (S:=S_Zdz) (fn:=Tryz.f72) hmix Zdz_env Tryz.func72 rfl (by kernel_rfl) (by kernel_rfl) done_nil (by kernel_rfl) (by kernel_rfl) Zdz_eq
end Go.Proofs.YtghfcfjnfgmkgaaGreatDoor

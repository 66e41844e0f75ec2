/- The functions of the program, as plain functions, and that the program computes them. Written by a program. -/
import Derived.Test.YtghfcfjnfgmkgaaDoorLib8
import Derived.Test.YtghfcfjnfgmkgaaDoorLay
import Derived.Lib.LaidU8
import Derived.Lib.BytesEntry
import Derived.Lib.Bytealg
import Derived.Lib.ValidU
import Derived.Test.YtghfcfjnfgmkgaaDoorClone
import Derived.Test.YtghfcfjnfgmkgaaDoorProg
import Derived.WalkKit
set_option linter.unusedVariables false
set_option maxRecDepth 100000
namespace Go.Proofs.YtghfcfjnfgmkgaaDoor
open Go Go.Abs
structure ApiItem where
  kind:Int
  number:BitVec 64
  data:List UInt8
  deriving DecidableEq,Inhabited
structure ApiCredential where
  rP:List UInt8
  user:List UInt8
  name:List UInt8
  seed:BitVec 64
  height:Int
  resident:Bool
  protect:Int
  shared:Bool
  backed:Bool
  deriving DecidableEq,Inhabited
structure CborFrame where
  pairs:Bool
  left:Int
  last_:List UInt8
  deriving DecidableEq,Inhabited
structure CborWalk where
  open_:List CborFrame
  count:Int
  deriving DecidableEq,Inhabited
structure CborChecker where
  walk:CborWalk
  deriving DecidableEq,Inhabited
structure DigestState where
  v0:BitVec 64
  v1:BitVec 64
  v2:BitVec 64
  v3:BitVec 64
  deriving DecidableEq,Inhabited
structure Arr8_UInt8 where
  a0:UInt8
  a1:UInt8
  a2:UInt8
  a3:UInt8
  a4:UInt8
  a5:UInt8
  a6:UInt8
  a7:UInt8
  deriving DecidableEq,Inhabited
structure CborReader where
  walk:CborWalk
  b:List UInt8
  at_:Int
  deriving DecidableEq,Inhabited
abbrev T:Nat → Type
  | 0=>UInt8
  | 1=>ApiItem
  | 2=>List UInt8
  | 3=>ApiCredential
  | 4=>BitVec 64
  | 5=>List ApiItem
  | 6=>Int
  | 7=>CborFrame
  | 8=>CborWalk
  | 9=>CborChecker
  | 10=>DigestState
  | 11=>List UInt8
  | 12=>Arr8_UInt8
  | 13=>CborReader
  | _=>Unit
def lfs:Nat → List Lf
  | 0=>[.u8]
  | 1=>[.int .i64,.u64,.str]
  | 2=>[.str]
  | 3=>[.str,.str,.str,.u64,.int .i64,.bool,.int .i64,.bool,.bool]
  | 4=>[.u64]
  | 5=>[.rs 1]
  | 6=>[.int .i64]
  | 7=>[.bool,.int .i64,.rn 0]
  | 8=>[.rs 7,.int .i64]
  | 9=>[.rs 7,.int .i64]
  | 10=>[.u64,.u64,.u64,.u64]
  | 11=>[.rs 0]
  | 12=>[.u8,.u8,.u8,.u8,.u8,.u8,.u8,.u8]
  | 13=>[.rs 7,.int .i64,.rs 0,.int .i64]
  | _=>[]
def to0 (x:UInt8):tyLs T (lfs 0):=(x,())
def of0 (y:tyLs T (lfs 0)):UInt8:=y.1
def eD0 (x:UInt8):List D:=[.int .u8 x.toNat]
def to1 (x:ApiItem):tyLs T (lfs 1):=(x.kind,x.number,x.data,())
def of1 (y:tyLs T (lfs 1)):ApiItem:=⟨y.1,y.2.1,y.2.2.1⟩
def eD1 (x:ApiItem):List D:=[.int .i64 x.kind,.int .u64 x.number.toNat,.str x.data]
def to2 (x:List UInt8):tyLs T (lfs 2):=(x,())
def of2 (y:tyLs T (lfs 2)):List UInt8:=y.1
def eD2 (x:List UInt8):List D:=[.str x]
def to3 (x:ApiCredential):tyLs T (lfs 3):=(x.rP,x.user,x.name,x.seed,x.height,x.resident,x.protect,x.shared,x.backed,())
def of3 (y:tyLs T (lfs 3)):ApiCredential:=⟨y.1,y.2.1,y.2.2.1,y.2.2.2.1,y.2.2.2.2.1,y.2.2.2.2.2.1,y.2.2.2.2.2.2.1,y.2.2.2.2.2.2.2.1,y.2.2.2.2.2.2.2.2.1⟩
def eD3 (x:ApiCredential):List D:=[.str x.rP,.str x.user,.str x.name,.int .u64 x.seed.toNat,.int .i64 x.height,.bool x.resident,.int .i64 x.protect,.bool x.shared,.bool x.backed]
def to4 (x:BitVec 64):tyLs T (lfs 4):=(x,())
def of4 (y:tyLs T (lfs 4)):BitVec 64:=y.1
def eD4 (x:BitVec 64):List D:=[.int .u64 x.toNat]
def to5 (x:List ApiItem):tyLs T (lfs 5):=(x,())
def of5 (y:tyLs T (lfs 5)):List ApiItem:=y.1
def eD5 (x:List ApiItem):List D:=[.rs 3 (x.map eD1)]
def to6 (x:Int):tyLs T (lfs 6):=(x,())
def of6 (y:tyLs T (lfs 6)):Int:=y.1
def eD6 (x:Int):List D:=[.int .i64 x]
def to7 (x:CborFrame):tyLs T (lfs 7):=(x.pairs,x.left,x.last_,())
def of7 (y:tyLs T (lfs 7)):CborFrame:=⟨y.1,y.2.1,y.2.2.1⟩
def eD7 (x:CborFrame):List D:=[.bool x.pairs,.int .i64 x.left,rnD 1 (x.last_.map eD0)]
def to8 (x:CborWalk):tyLs T (lfs 8):=(x.open_,x.count,())
def of8 (y:tyLs T (lfs 8)):CborWalk:=⟨y.1,y.2.1⟩
def eD8 (x:CborWalk):List D:=[.rs 3 (x.open_.map eD7),.int .i64 x.count]
def to9 (x:CborChecker):tyLs T (lfs 9):=(x.walk.open_,x.walk.count,())
def of9 (y:tyLs T (lfs 9)):CborChecker:=⟨⟨y.1,y.2.1⟩⟩
def eD9 (x:CborChecker):List D:=[.rs 3 (x.walk.open_.map eD7),.int .i64 x.walk.count]
def to10 (x:DigestState):tyLs T (lfs 10):=(x.v0,x.v1,x.v2,x.v3,())
def of10 (y:tyLs T (lfs 10)):DigestState:=⟨y.1,y.2.1,y.2.2.1,y.2.2.2.1⟩
def eD10 (x:DigestState):List D:=[.int .u64 x.v0.toNat,.int .u64 x.v1.toNat,.int .u64 x.v2.toNat,.int .u64 x.v3.toNat]
def to11 (x:List UInt8):tyLs T (lfs 11):=(x,())
def of11 (y:tyLs T (lfs 11)):List UInt8:=y.1
def eD11 (x:List UInt8):List D:=[.rs 1 (x.map eD0)]
def to12 (x:Arr8_UInt8):tyLs T (lfs 12):=(x.a0,x.a1,x.a2,x.a3,x.a4,x.a5,x.a6,x.a7,())
def of12 (y:tyLs T (lfs 12)):Arr8_UInt8:=⟨y.1,y.2.1,y.2.2.1,y.2.2.2.1,y.2.2.2.2.1,y.2.2.2.2.2.1,y.2.2.2.2.2.2.1,y.2.2.2.2.2.2.2.1⟩
def eD12 (x:Arr8_UInt8):List D:=[.int .u8 x.a0.toNat,.int .u8 x.a1.toNat,.int .u8 x.a2.toNat,.int .u8 x.a3.toNat,.int .u8 x.a4.toNat,.int .u8 x.a5.toNat,.int .u8 x.a6.toNat,.int .u8 x.a7.toNat]
def to13 (x:CborReader):tyLs T (lfs 13):=(x.walk.open_,x.walk.count,x.b,x.at_,())
def of13 (y:tyLs T (lfs 13)):CborReader:=⟨⟨y.1,y.2.1⟩,y.2.2.1,y.2.2.2.1⟩
def eD13 (x:CborReader):List D:=[.rs 3 (x.walk.open_.map eD7),.int .i64 x.walk.count,.rs 1 (x.b.map eD0),.int .i64 x.at_]
def cd:Cd T where
  sz:=fun c=>match c with
    | 0=>1
    | 1=>3
    | 2=>1
    | 3=>9
    | 4=>1
    | 5=>1
    | 6=>1
    | 7=>3
    | 8=>2
    | 9=>2
    | 10=>4
    | 11=>1
    | 12=>8
    | 13=>4
    | _=>0
  encD:=fun c x=>match c,x with
    | 0,x=>eD0 x
    | 1,x=>eD1 x
    | 2,x=>eD2 x
    | 3,x=>eD3 x
    | 4,x=>eD4 x
    | 5,x=>eD5 x
    | 6,x=>eD6 x
    | 7,x=>eD7 x
    | 8,x=>eD8 x
    | 9,x=>eD9 x
    | 10,x=>eD10 x
    | 11,x=>eD11 x
    | 12,x=>eD12 x
    | 13,x=>eD13 x
    | _,_=>[]
  enc:=fun c x=>match c,x with
    | 0,x=>encL (lfs 0) (to0 x)
    | 1,x=>encL (lfs 1) (to1 x)
    | 2,x=>encL (lfs 2) (to2 x)
    | 3,x=>encL (lfs 3) (to3 x)
    | 4,x=>encL (lfs 4) (to4 x)
    | 5,x=>encL (lfs 5) (to5 x)
    | 6,x=>encL (lfs 6) (to6 x)
    | 7,x=>encL (lfs 7) (to7 x)
    | 8,x=>encL (lfs 8) (to8 x)
    | 9,x=>encL (lfs 9) (to9 x)
    | 10,x=>encL (lfs 10) (to10 x)
    | 11,x=>encL (lfs 11) (to11 x)
    | 12,x=>encL (lfs 12) (to12 x)
    | 13,x=>encL (lfs 13) (to13 x)
    | _,_=>[]
  dec:=fun c ds=>match c with
    | 0=>(decL (lfs 0) ds).map of0
    | 1=>(decL (lfs 1) ds).map of1
    | 2=>(decL (lfs 2) ds).map of2
    | 3=>(decL (lfs 3) ds).map of3
    | 4=>(decL (lfs 4) ds).map of4
    | 5=>(decL (lfs 5) ds).map of5
    | 6=>(decL (lfs 6) ds).map of6
    | 7=>(decL (lfs 7) ds).map of7
    | 8=>(decL (lfs 8) ds).map of8
    | 9=>(decL (lfs 9) ds).map of9
    | 10=>(decL (lfs 10) ds).map of10
    | 11=>(decL (lfs 11) ds).map of11
    | 12=>(decL (lfs 12) ds).map of12
    | 13=>(decL (lfs 13) ds).map of13
    | _=>none
  bt:=0
  hb:=rfl
  rn:=fun c=>match c with
    | 7=>[false,false,true]
    | _=>[]
  im:=fun t=>match t with
    | 50=>true
    | _=>false
  la:=fun t=>match t with
    | 62=>some 0
    | _=>none
theorem cd_ok:CdOk cd where
  len:=fun c=>match c with
    | 0=>fun _=>rfl
    | 1=>fun _=>rfl
    | 2=>fun _=>rfl
    | 3=>fun _=>rfl
    | 4=>fun _=>rfl
    | 5=>fun _=>rfl
    | 6=>fun _=>rfl
    | 7=>fun _=>rfl
    | 8=>fun _=>rfl
    | 9=>fun _=>rfl
    | 10=>fun _=>rfl
    | 11=>fun _=>rfl
    | 12=>fun _=>rfl
    | 13=>fun _=>rfl
    | _ + 14=>fun _=>rfl
  enc:=fun c=>match c with
    | 0=>fun _=>rfl
    | 1=>fun _=>rfl
    | 2=>fun _=>rfl
    | 3=>fun _=>rfl
    | 4=>fun _=>rfl
    | 5=>fun _=>rfl
    | 6=>fun _=>rfl
    | 7=>fun _=>rfl
    | 8=>fun _=>rfl
    | 9=>fun _=>rfl
    | 10=>fun _=>rfl
    | 11=>fun _=>rfl
    | 12=>fun _=>rfl
    | 13=>fun _=>rfl
    | _ + 14=>fun _=>rfl
  epure:=fun c=>match c with
    | 0=>fun _=>rfl
    | 1=>fun _=>rfl
    | 2=>fun _=>rfl
    | 3=>fun _=>rfl
    | 4=>fun _=>rfl
    | 5=>fun _=>rfl
    | 6=>fun _=>rfl
    | 7=>fun _=>rfl
    | 8=>fun _=>rfl
    | 9=>fun _=>rfl
    | 10=>fun _=>rfl
    | 11=>fun _=>rfl
    | 12=>fun _=>rfl
    | 13=>fun _=>rfl
    | _ + 14=>fun _=>rfl
  byte:=fun _=>rfl
  bsz:=rfl
  dec:=fun c=>match c with
    | 0=>fun ds x h=>dec_ok cd (c:=0) (lfs 0) (of:=of0) (e:=eD0) (fun _=>rfl) ds x h
    | 1=>fun ds x h=>dec_ok cd (c:=1) (lfs 1) (of:=of1) (e:=eD1) (fun _=>rfl) ds x h
    | 2=>fun ds x h=>dec_ok cd (c:=2) (lfs 2) (of:=of2) (e:=eD2) (fun _=>rfl) ds x h
    | 3=>fun ds x h=>dec_ok cd (c:=3) (lfs 3) (of:=of3) (e:=eD3) (fun _=>rfl) ds x h
    | 4=>fun ds x h=>dec_ok cd (c:=4) (lfs 4) (of:=of4) (e:=eD4) (fun _=>rfl) ds x h
    | 5=>fun ds x h=>dec_ok cd (c:=5) (lfs 5) (of:=of5) (e:=eD5) (fun _=>rfl) ds x h
    | 6=>fun ds x h=>dec_ok cd (c:=6) (lfs 6) (of:=of6) (e:=eD6) (fun _=>rfl) ds x h
    | 7=>fun ds x h=>dec_ok cd (c:=7) (lfs 7) (of:=of7) (e:=eD7) (fun _=>rfl) ds x h
    | 8=>fun ds x h=>dec_ok cd (c:=8) (lfs 8) (of:=of8) (e:=eD8) (fun _=>rfl) ds x h
    | 9=>fun ds x h=>dec_ok cd (c:=9) (lfs 9) (of:=of9) (e:=eD9) (fun _=>rfl) ds x h
    | 10=>fun ds x h=>dec_ok cd (c:=10) (lfs 10) (of:=of10) (e:=eD10) (fun _=>rfl) ds x h
    | 11=>fun ds x h=>dec_ok cd (c:=11) (lfs 11) (of:=of11) (e:=eD11) (fun _=>rfl) ds x h
    | 12=>fun ds x h=>dec_ok cd (c:=12) (lfs 12) (of:=of12) (e:=eD12) (fun _=>rfl) ds x h
    | 13=>fun ds x h=>dec_ok cd (c:=13) (lfs 13) (of:=of13) (e:=eD13) (fun _=>rfl) ds x h
    | _ + 14=>fun _ _ h=>by cases h
def ti3:TI:=⟨6,1,8,.int .i64,[.i .i64],[],[],none⟩
def ti4:TI:=⟨15,1,1,.bool,[.b],[],[],none⟩
def ti5:TI:=⟨0,1,1,.int .u8,[.i .u8],[],[],none⟩
def ti9:TI:=⟨2,1,16,.str,[.s],[],[],none⟩
def ti22:TI:=⟨4,1,8,.int .u64,[.i .u64],[],[],none⟩
def ti24:TI:=⟨3,9,88,.strct,[.s,.s,.s,.i .u64,.i .i64,.b,.i .i64,.b,.b],[some (0,9),some (1,9),some (2,9),some (3,22),some (4,3),some (5,4),some (6,3),some (7,4),some (8,4)],[(0,1),(1,1),(2,1),(3,1),(4,1),(5,1),(6,1),(7,1),(8,1)],some [2,2,2,3,3,1,3,1,1]⟩
def ti26:TI:=⟨11,1,24,.slice 5,[.ns],[],[],none⟩
def ti27:TI:=⟨15,1,8,.int .i64,[.i .i64],[],[],none⟩
def ti35:TI:=⟨15,1,8,.int .u64,[.i .u64],[],[],none⟩
def ti44:TI:=⟨5,1,24,.slice 74,[.ns],[],[],none⟩
def ti49:TI:=⟨15,1,24,.slice 9,[.ns],[],[],none⟩
def ti50:TI:=⟨15,1,24,.slice 22,[.ns],[],[],none⟩
def ti57:TI:=⟨15,1,24,.slice 44,[.ns],[],[],none⟩
def ti62:TI:=⟨12,8,8,.arr 8 5,[.i .u8,.i .u8,.i .u8,.i .u8,.i .u8,.i .u8,.i .u8,.i .u8],[],[],some [3,3,3,3,3,3,3,3]⟩
def ti68:TI:=⟨15,1,24,.slice 129,[.ns],[],[],none⟩
def ti70:TI:=⟨8,2,32,.strct,[.ns,.i .i64],[some (0,68),some (1,3)],[(0,1),(1,1)],none⟩
def ti72:TI:=⟨13,4,64,.strct,[.ns,.i .i64,.ns,.i .i64],[some (0,70),some (2,26),some (3,3)],[(0,2),(2,1),(3,1)],none⟩
def ti74:TI:=⟨1,3,32,.strct,[.i .i64,.i .u64,.s],[some (0,3),some (1,22),some (2,9)],[(0,1),(1,1),(2,1)],some [3,3,2]⟩
def ti86:TI:=⟨15,1,24,.slice 3,[.ns],[],[],none⟩
def ti95:TI:=⟨15,1,24,.slice 26,[.ns],[],[],none⟩
def ti119:TI:=⟨9,2,32,.strct,[.ns,.i .i64],[some (0,70)],[(0,2)],none⟩
def ti122:TI:=⟨10,4,32,.strct,[.i .u64,.i .u64,.i .u64,.i .u64],[some (0,22),some (1,22),some (2,22),some (3,22)],[(0,1),(1,1),(2,1),(3,1)],some [3,3,3,3]⟩
def ti129:TI:=⟨7,3,40,.strct,[.b,.i .i64,.ns],[some (0,4),some (1,3),some (2,26)],[(0,1),(1,1),(2,1)],none⟩
def tab:Tr:=.node (.node (.node (.node (.node .leaf 3 ti3 .leaf) 4 ti4 .leaf) 5 ti5 (.node (.node .leaf 9 ti9 .leaf) 22 ti22 .leaf)) 24 ti24 (.node (.node (.node .leaf 26 ti26 .leaf) 27 ti27 .leaf) 35 ti35 (.node (.node .leaf 44 ti44 .leaf) 49 ti49 .leaf))) 50 ti50 (.node (.node (.node (.node .leaf 57 ti57 .leaf) 62 ti62 .leaf) 68 ti68 (.node (.node .leaf 70 ti70 .leaf) 72 ti72 .leaf)) 74 ti74 (.node (.node (.node .leaf 86 ti86 .leaf) 95 ti95 .leaf) 119 ti119 (.node (.node .leaf 122 ti122 .leaf) 129 ti129 .leaf)))
def globs:Nat → Option (List (DT T)):=fun g=>match g with
  | 0=>some (Lib.firstTab.map fun z=>DT.int .u8 z)
  | 1=>some (((List.range 16).flatMap fun i=>[((Lib.accLo i:Nat):Int),((Lib.accHi i:Nat):Int)]).map fun z=>DT.int .u8 z)
  | _=>none
def flc:Nat → Bool:=fun c=>match c with
  | 0=>true
  | 1=>true
  | 2=>true
  | 3=>true
  | 4=>true
  | 5=>false
  | 6=>true
  | 7=>false
  | 8=>false
  | 9=>false
  | 10=>true
  | 11=>false
  | 12=>true
  | 13=>false
  | _=>false
theorem hmix:Tryd.prog.follows .mixedOrders=true:=by kernel_rfl
theorem tys:TysOk Tryd.prog tab.find:=tys_ok (by kernel_rfl)
abbrev gdn:Nat → Option (List D):=fun g=>(globs g).map (denL cd)
theorem fl_ok:FlOk cd flc:=fun c=>match c with
  | 0=>fun h _=>rfl
  | 1=>fun h _=>rfl
  | 2=>fun h _=>rfl
  | 3=>fun h _=>rfl
  | 4=>fun h _=>rfl
  | 5=>fun h _=>by cases h
  | 6=>fun h _=>rfl
  | 7=>fun h _=>by cases h
  | 8=>fun h _=>by cases h
  | 9=>fun h _=>by cases h
  | 10=>fun h _=>rfl
  | 11=>fun h _=>by cases h
  | 12=>fun h _=>rfl
  | 13=>fun h _=>by cases h
  | _ + 14=>fun h _=>by cases h
theorem row_lt {w:World} {b:Nat} (h:0 < rowSize w b):b < w.heap.size:=by
  unfold rowSize at h
  cases hh:w.heap[b]? with
  | none=>rw [hh] at h; cases h
  | some o=>exact (Array.getElem?_eq_some_iff.1 hh).1
def accTab:List Int:=(List.range 16).flatMap fun i=>[Lib.accLo i,Lib.accHi i]
theorem gdn0:gdn 0=some (tabD .u8 Lib.firstTab):=by
  show some (denL cd _)=_
  rw [denL_map]
  simp [tabD,den,Function.comp_def]
theorem gdn1:gdn 1=some (tabD .u8 accTab):=by
  show some (denL cd _)=_
  rw [denL_map]
  simp [tabD,den,Function.comp_def,accTab]
theorem acc_lo:∀ i:Fin 16,accTab[2 * i.val]? = some ((Lib.accLo i.val:Nat):Int):=by decide
theorem acc_hi:∀ i:Fin 16,accTab[2 * i.val + 1]? = some ((Lib.accHi i.val:Nat):Int):=by decide
theorem tabs_of {I:Nat → Prop} {w:World} (h:Glob gdn I w):Lib.Utf8Tabs 0 1 w:=by
  refine ⟨fun c hc=>glob_tab (h 0 _ gdn0).2.1 (by simp [Lib.firstTab,hc]),fun i hi=>⟨?_,?_⟩⟩
  · exact glob_tab (h 1 _ gdn1).2.1 (acc_lo ⟨i,hi⟩)
  · exact glob_tab (h 1 _ gdn1).2.1 (acc_hi ⟨i,hi⟩)
theorem glob_of {w:World} (h:Lib.Utf8Tabs 0 1 w) (h0:rowSize w 0=256) (h1:rowSize w 1=32):Glob gdn (All w) w:=by
  intro g cs e
  match g,e with
  | 0,e=>
    rw [gdn0] at e; cases e
    refine ⟨row_lt (by omega),tab_glob fun i n hn=>?_,by rw [h0]; simp [tabD,Lib.firstTab]⟩
    have hi:i < 256:=by
      have:=(List.getElem?_eq_some_iff.1 hn).1
      simpa [Lib.firstTab] using this
    have e2:Lib.firstTab[i]? = some ((Lib.firstT i:Nat):Int):=by simp [Lib.firstTab,hi]
    rw [hn] at e2; cases e2
    exact h.1 i hi
  | 1,e=>
    rw [gdn1] at e; cases e
    refine ⟨row_lt (by omega),tab_glob fun i n hn=>?_,by rw [h1]; decide⟩
    have hi:i < 32:=by
      have:=(List.getElem?_eq_some_iff.1 hn).1
      have e:accTab.length=32:=by decide
      omega
    rcases Nat.mod_two_eq_zero_or_one i with hm | hm
    · have e3:i=2 * (i / 2):=by omega
      have e2:=acc_lo ⟨i / 2,by omega⟩
      simp only at e2
      rw [← e3,hn] at e2; cases e2
      have:=(h.2 (i / 2) (by omega)).1
      rwa [← e3] at this
    · have e3:i=2 * (i / 2) + 1:=by omega
      have e2:=acc_hi ⟨i / 2,by omega⟩
      simp only at e2
      rw [← e3,hn] at e2; cases e2
      have:=(h.2 (i / 2) (by omega)).2
      rwa [← e3] at this
  | n + 2,e=>cases e
def Zbf (a0:List UInt8):Option (Unit × (Bool × Unit)):=bif decide (a0.length ≤ 9223372036854775807) then some ((),Lib.validD a0,()) else none
def S_Zbf:FSpec T:=⟨[.f (.v .str)],[.v .bool],fun x=>Zbf x.1⟩
theorem Zbf_ok:SoundT Tryd.prog cd gdn 35 S_Zbf:=by
  refine sound_below (vts:=[.str]) (rts:=[.bool]) ⟨_,Tryd.func35,by kernel_rfl,by kernel_rfl⟩ fun I own w args x r hG hv hF=>?_
  obtain ⟨v,vr,_,_,rfl,h1,rfl,_⟩:=hv
  change V I w (.str x.1) free v at h1
  simp only [V] at h1
  subst h1
  change Zbf x.1=some r at hF
  unfold Zbf at hF
  by_cases hs:x.1.length ≤ 9223372036854775807
  · simp only [hs,decide_true,cond_true] at hF
    have hr:=Option.some.inj hF
    subst hr
    refine ⟨[.bool (Lib.validD x.1)],fun I' w'=>⟨_,_,none',none',rfl,(show V I' w' (.bool (Lib.validD x.1)) free _ by simp [V]),rfl,fun _ h=>h,fun _ h=>h,fun _ h=>h.elim⟩,?_⟩
    exact (Any.utf8_ValidString Tryd.lays196 ⟨x.1.toArray⟩ w (by rw [show ByteArray.size ⟨List.toArray x.1⟩=List.length x.1 from List.size_toArray]; exact hs) (tabs_of hG)).mono fun e w' h=>⟨h.1,h.2⟩
  · simp [hs] at hF
theorem bytesOf_rs {I:Nat → Prop} {w:World} {l:List UInt8} {v:Value} (h:V I w (.rs 1 (l.map byteD)) free v):(Extern.Bytes.bytesOf v).run Tryd.prog w = .ok ⟨l.toArray⟩ w:=by
  simp only [V] at h
  rcases h with ⟨hl,p,cap,rfl⟩ | ⟨b,o,cap,rfl,hcap,hIb,hvr⟩
  · have:l=[]:=List.map_eq_nil_iff.1 hl
    subst this
    cases p <;> rfl
  · have:=Lib.run_loadBytesX (P:=Tryd.prog) w (l.map fun c=>(c.toNat:Int)) ⟨b,o,none⟩ .empty (fun j x hj=>by
      rw [List.getElem?_map] at hj
      obtain ⟨c,hc,rfl⟩:=Option.map_eq_some_iff.1 hj
      rw [← VR_bytes hvr hc,Addr.add_lit])
    have e:Lib.bytesOf (l.map fun c=>(c.toNat:Int))=l:=by
      unfold Lib.bytesOf
      rw [List.map_map]
      conv=>rhs; rw [← List.map_id l]
      apply List.map_congr_left
      intro c _
      simp
    rw [e] at this
    simp only [Extern.Bytes.bytesOf,List.length_map] at this ⊢
    rw [this]
    simp
theorem Zbp_calls (v1 v2:Value) (a b:List UInt8) (w:World) (h1:(Extern.Bytes.bytesOf v1).run Tryd.prog w = .ok ⟨a.toArray⟩ w) (h2:(Extern.Bytes.bytesOf v2).run Tryd.prog w = .ok ⟨b.toArray⟩ w):Calls Tryd.prog 94 #[v1,v2] w fun e w'=>e = .returned (.int .i64 (Lib.compareBytes a b)) ∧ w'=w:=by
  have hx:∀ w',w'=w → (callFunc 100 #[v1,v2]).run Tryd.prog w' = .ok (.value (.int .i64 (Lib.compareBytes a b))) w':=by
    intro w' e
    subst e
    rw [run_callFunc_extern Tryd.func100 (by kernel_rfl) (by kernel_rfl) (by kernel_rfl) (e:=Extern.BytealgCompare.compare) (by kernel_rfl)]
    change Result.andThen (Sem.run Tryd.prog (do pure (goInt (Extern.BytealgCompare.cmp (← Extern.Bytes.bytesOf v1) (← Extern.Bytes.bytesOf v2)))) w') _=_
    simp only [Sem.run_bind,h1,h2,Sem.run_pure,Result.andThen]
    rw [Lib.cmp_eq]
    rfl
  go_enter Tryd.func94,Tryd.ntmps94
  go_wp2
  go_ret
  exact ⟨rfl,rfl⟩
def Zbp (a0 a1:List UInt8):Option (Unit × (Int × Unit)):=some ((),Lib.compareBytes a0 a1,())
def S_Zbp:FSpec T:=⟨[.f (.v (.rs 0)),.f (.v (.rs 0))],[.v (.int .i64)],fun x=>Zbp x.1 x.2.1⟩
theorem Zbp_ok:SoundT Tryd.prog cd gdn 94 S_Zbp:=by
  refine sound_below (vts:=[.rs 0,.rs 0]) (rts:=[.int .i64]) ⟨_,Tryd.func94,by kernel_rfl,by kernel_rfl⟩ fun I own w args x r hG hv hF=>?_
  obtain ⟨v,vr,_,_,rfl,h1,⟨v2,vr2,_,_,rfl,h2,rfl,_⟩,_⟩:=hv
  change V I w (.rs 1 (List.map byteD x.1)) free v at h1
  change V I w (.rs 1 (List.map byteD x.2.1)) free v2 at h2
  change Zbp x.1 x.2.1=some r at hF
  unfold Zbp at hF
  have hr:=Option.some.inj hF
  subst hr
  refine ⟨[.int .i64 (Lib.compareBytes x.1 x.2.1)],fun I' w'=>⟨_,_,none',none',rfl,(show V I' w' (.int .i64 (Lib.compareBytes x.1 x.2.1)) free _ by simp [V]),rfl,fun _ h=>h,fun _ h=>h,fun _ h=>h.elim⟩,?_⟩
  refine (Zbp_calls _ _ _ _ w (bytesOf_rs h1) (bytesOf_rs h2)).mono fun e w' h=>?_
  obtain ⟨rfl,rfl⟩:=h
  exact ⟨rfl,RowKit.Below.refl _ _⟩
def Zby (a0:List ApiItem):Option (Unit × (List ApiItem × Unit)):=bif decide (a0.length ≤ 1000000) then some ((),a0,()) else none
def S_Zby:FSpec T:=⟨[.f (.v (.rs 1))],[.own 1],fun x=>Zby x.1⟩
theorem Zby_ok:SoundT Tryd.prog cd gdn 79 S_Zby:=by
  refine sound_cloneE (C:=cd) (c:=1) (te:=74) (F:=fun x=>Zby x.1) (by decide) ⟨_,Tryd.func79,by kernel_rfl,by kernel_rfl⟩ (fun x r h=>?_) (fun n c w=>AnyE.slices_Clone_nil Tryd.laysCl n c w) (fun a n c news w h1 h2 h3 h4=>?_)
  · change Zby x.1=some r at h
    unfold Zby at h
    by_cases hs:List.length x.1 ≤ 1000000
    · simp only [hs,decide_true,cond_true] at h
      have hr:=Option.some.inj h
      subst hr
      exact ⟨rfl,hs⟩
    · simp [hs] at h
  · have hi:((Tryd.prog.info? 74).bind fun i=>i.zero.bind fun z=>some (i.size,i.bytes,z.cells.size))=some (3,32,3):=by kernel_rfl
    cases hq:Tryd.prog.info? 74 with
    | none=>rw [hq] at hi; cases hi
    | some i0=>
    rw [hq] at hi
    cases hz:i0.zero with
    | none=>rw [Option.bind_some,hz] at hi; cases hi
    | some z=>
    rw [Option.bind_some,hz,Option.bind_some] at hi
    obtain ⟨e1,e2,e3⟩:i0.size=3 ∧ i0.bytes=32 ∧ z.cells.size=3:=by
      have:=Option.some.inj hi
      simpa using this
    exact clone_at Tryd.laysCl i0 z 3 32 hq hz e1 e2 e3 (by decide) Tryd.sizeOf74 a n c news w h1 (by unfold maxLen; omega) (by omega) h3 h4
def Zbo (a0:Int):Option ((Unit) × ((List UInt8) × Unit)):=
 (let v1:List (List UInt8):=([([97,46,101,120,97,109,112,108,101]:List UInt8),([98,46,101,120,97,109,112,108,101]:List UInt8),([115,104,111,112,46,116,101,115,116]:List UInt8)]:List (List UInt8))
 (let v2:Int:=(IntKind.wrap .i64 ((BitVec.ofInt (IntKind.bits .i64) a0 &&& BitVec.ofInt (IntKind.bits .i64) (65535:Int)).toNat:Int))
 (bif (decide ((0:Int) ≤ (Int.tmod v2 (3:Int))) && decide ((Int.tmod v2 (3:Int)) < (3:Int))) then (((v1)[((Int.tmod v2 (3:Int))).toNat]?).bind fun x3=>(some ((),(x3,()))))
 else none)))
def S_Zbo:FSpec T:=⟨[.f (.v (.int .i64))],[(.v .str)],fun x=>Zbo x.1⟩
def E_Zbo:Env T:=⟨tab.find,cd,globs,flc,fun f ds=>match f with
    | _=>none,fun f=>match f with
    | _=>false⟩
def A_Zbo:Loc2 T:=⟨fun id=>match id with
    | _=>none,fun r=>match r with
    | _=>none,fun r=>match r with
    | _=>false⟩
theorem Zbo_eq (x:tySs T S_Zbo.ps):run E_Zbo A_Zbo (Tryd.f8.body.getD .skip) (enterT E_Zbo.C S_Zbo.ps x) (retK E_Zbo Tryd.f8.results.toList S_Zbo.ps S_Zbo.rs)=S_Zbo.fn x:=by kernel_rfl
theorem Zbo_env:EnvOk Tryd.prog E_Zbo:=envOk (E:=E_Zbo) cd_ok tys fl_ok fun f ds S h=>by cases h
theorem Zbo_ok:SoundT Tryd.prog cd gdn 8 S_Zbo:=
  sound_fn (E:=E_Zbo) (A:=A_Zbo) (done:=[]) (c:=(Tryd.f8.body.getD .skip)) (S:=S_Zbo) (fn:=Tryd.f8) hmix Zbo_env Tryd.func8 rfl (by kernel_rfl) (by kernel_rfl) done_nil (by kernel_rfl) (by kernel_rfl) Zbo_eq
def Zbe (a0:Int):Option ((Unit) × ((List UInt8) × Unit)):=
 (let v1:List (List UInt8):=([([117,49]:List UInt8),([117,50]:List UInt8),([0,255]:List UInt8)]:List (List UInt8))
 (let v2:Int:=(IntKind.wrap .i64 ((BitVec.ofInt (IntKind.bits .i64) a0 &&& BitVec.ofInt (IntKind.bits .i64) (65535:Int)).toNat:Int))
 (bif (decide ((0:Int) ≤ (Int.tmod v2 (3:Int))) && decide ((Int.tmod v2 (3:Int)) < (3:Int))) then (((v1)[((Int.tmod v2 (3:Int))).toNat]?).bind fun x3=>(some ((),(x3,()))))
 else none)))
def S_Zbe:FSpec T:=⟨[.f (.v (.int .i64))],[(.v .str)],fun x=>Zbe x.1⟩
def E_Zbe:Env T:=⟨tab.find,cd,globs,flc,fun f ds=>match f with
    | _=>none,fun f=>match f with
    | _=>false⟩
def A_Zbe:Loc2 T:=⟨fun id=>match id with
    | _=>none,fun r=>match r with
    | _=>none,fun r=>match r with
    | _=>false⟩
theorem Zbe_eq (x:tySs T S_Zbe.ps):run E_Zbe A_Zbe (Tryd.f9.body.getD .skip) (enterT E_Zbe.C S_Zbe.ps x) (retK E_Zbe Tryd.f9.results.toList S_Zbe.ps S_Zbe.rs)=S_Zbe.fn x:=by kernel_rfl
theorem Zbe_env:EnvOk Tryd.prog E_Zbe:=envOk (E:=E_Zbe) cd_ok tys fl_ok fun f ds S h=>by cases h
theorem Zbe_ok:SoundT Tryd.prog cd gdn 9 S_Zbe:=
  sound_fn (E:=E_Zbe) (A:=A_Zbe) (done:=[]) (c:=(Tryd.f9.body.getD .skip)) (S:=S_Zbe) (fn:=Tryd.f9) hmix Zbe_env Tryd.func9 rfl (by kernel_rfl) (by kernel_rfl) done_nil (by kernel_rfl) (by kernel_rfl) Zbe_eq
def Zbd (a0:Int):Option ((Unit) × ((List UInt8) × Unit)):=
 (let v1:List (List UInt8):=([([]:List UInt8),([97]:List UInt8),([98]:List UInt8),([108,111,103,105,110]:List UInt8),([107,101,121]:List UInt8),([101,120,97,109,112,108,101,46,111,114,103]:List UInt8),([195,169]:List UInt8),([48,49,50,51,52,53,54,55,56,57,48,49,50,51,52,53]:List UInt8)]:List (List UInt8))
 (let v2:Int:=(IntKind.wrap .i64 ((BitVec.ofInt (IntKind.bits .i64) a0 &&& BitVec.ofInt (IntKind.bits .i64) (7:Int)).toNat:Int))
 (bif (decide ((0:Int) ≤ v2) && decide (v2 < (8:Int))) then (((v1)[(v2).toNat]?).bind fun x3=>(let v4:Int:=(IntKind.wrap .i64 ((BitVec.ofInt (IntKind.bits .i64) (Int.fdiv a0 (2 ^ (min 3 (IntKind.bits .i64)))) &&& BitVec.ofInt (IntKind.bits .i64) (7:Int)).toNat:Int))
 (bif (decide ((0:Int) ≤ v4) && decide (v4 < (8:Int))) then (((v1)[(v4).toNat]?).bind fun x5=>(bif Nat.ble ((x3).length + (x5).length) 9223372036854775807 then (some ((),((x3 ++ x5),())))
 else none))
 else none)))
 else none)))
def S_Zbd:FSpec T:=⟨[.f (.v (.int .i64))],[(.v .str)],fun x=>Zbd x.1⟩
def E_Zbd:Env T:=⟨tab.find,cd,globs,flc,fun f ds=>match f with
    | _=>none,fun f=>match f with
    | _=>false⟩
def A_Zbd:Loc2 T:=⟨fun id=>match id with
    | _=>none,fun r=>match r with
    | _=>none,fun r=>match r with
    | _=>false⟩
theorem Zbd_eq (x:tySs T S_Zbd.ps):run E_Zbd A_Zbd (Tryd.f10.body.getD .skip) (enterT E_Zbd.C S_Zbd.ps x) (retK E_Zbd Tryd.f10.results.toList S_Zbd.ps S_Zbd.rs)=S_Zbd.fn x:=by kernel_rfl
theorem Zbd_env:EnvOk Tryd.prog E_Zbd:=envOk (E:=E_Zbd) cd_ok tys fl_ok fun f ds S h=>by cases h
theorem Zbd_ok:SoundT Tryd.prog cd gdn 10 S_Zbd:=
  sound_fn (E:=E_Zbd) (A:=A_Zbd) (done:=[]) (c:=(Tryd.f10.body.getD .skip)) (S:=S_Zbd) (fn:=Tryd.f10) hmix Zbd_env Tryd.func10 rfl (by kernel_rfl) (by kernel_rfl) done_nil (by kernel_rfl) (by kernel_rfl) Zbd_eq
def Zag (a0:Int):Option ((Unit) × (ApiCredential × Unit)):=
 ((Zbo a0).bind fun r1=>((Zbe (Int.fdiv a0 (2 ^ (min 2 (IntKind.bits .i64))))).bind fun r2=>((Zbd (Int.fdiv a0 (2 ^ (min 4 (IntKind.bits .i64))))).bind fun r3=>(let v4:Int:=(IntKind.wrap .i64 ((BitVec.ofInt (IntKind.bits .i64) (Int.fdiv a0 (2 ^ (min 3 (IntKind.bits .i64)))) &&& BitVec.ofInt (IntKind.bits .i64) (1:Int)).toNat:Int))
 (let v5:Int:=(Int.tmod (Int.fdiv a0 (2 ^ (min 5 (IntKind.bits .i64)))) (3:Int))
 (let v6:Int:=(IntKind.wrap .i64 ((BitVec.ofInt (IntKind.bits .i64) (Int.fdiv a0 (2 ^ (min 7 (IntKind.bits .i64)))) &&& BitVec.ofInt (IntKind.bits .i64) (1:Int)).toNat:Int))
 (bif (decide (v6=(1:Int))) then (let v7:Int:=(IntKind.wrap .i64 ((BitVec.ofInt (IntKind.bits .i64) (Int.fdiv a0 (2 ^ (min 8 (IntKind.bits .i64)))) &&& BitVec.ofInt (IntKind.bits .i64) (1:Int)).toNat:Int))
 (bif (decide (v7=(1:Int))) then (let v8:Int:=(IntKind.wrap .i64 ((BitVec.ofInt (IntKind.bits .i64) (Int.fdiv a0 (2 ^ (min 9 (IntKind.bits .i64)))) &&& BitVec.ofInt (IntKind.bits .i64) (1:Int)).toNat:Int))
 (some ((),((⟨r1.2.1,r2.2.1,r3.2.1,((BitVec.ofInt 64 a0) * 11400714819323198485#64),(IntKind.wrap .i64 ((1:Int) + v4)),(decide (v6=(1:Int))),(IntKind.wrap .i64 ((1:Int) + v5)),(decide (v7=(1:Int))),(decide (v8=(1:Int)))⟩:ApiCredential),()))))
 else (some ((),((⟨r1.2.1,r2.2.1,r3.2.1,((BitVec.ofInt 64 a0) * 11400714819323198485#64),(IntKind.wrap .i64 ((1:Int) + v4)),(decide (v6=(1:Int))),(IntKind.wrap .i64 ((1:Int) + v5)),(decide (v7=(1:Int))),false⟩:ApiCredential),())))))
 else (some ((),((⟨r1.2.1,r2.2.1,r3.2.1,((BitVec.ofInt 64 a0) * 11400714819323198485#64),(IntKind.wrap .i64 ((1:Int) + v4)),(decide (v6=(1:Int))),(IntKind.wrap .i64 ((1:Int) + v5)),false,false⟩:ApiCredential),()))))))))))
def S_Zag:FSpec T:=⟨[.f (.v (.int .i64))],[(.v (.agg 3))],fun x=>Zag x.1⟩
def E_Zag:Env T:=⟨tab.find,cd,globs,flc,fun f ds=>match f with
    | 8=>some S_Zbo
    | 9=>some S_Zbe
    | 10=>some S_Zbd
    | _=>none,fun f=>match f with
    | 8=>true
    | 9=>true
    | 10=>true
    | _=>false⟩
def A_Zag:Loc2 T:=⟨fun id=>match id with
    | _=>none,fun r=>match r with
    | _=>none,fun r=>match r with
    | _=>false⟩
theorem Zag_eq (x:tySs T S_Zag.ps):run E_Zag A_Zag (Tryd.f4.body.getD .skip) (enterT E_Zag.C S_Zag.ps x) (retK E_Zag Tryd.f4.results.toList S_Zag.ps S_Zag.rs)=S_Zag.fn x:=by kernel_rfl
theorem Zag_env:EnvOk Tryd.prog E_Zag:=envOk (E:=E_Zag) cd_ok tys fl_ok fun f ds S h=>by
    dsimp only [E_Zag] at h
    split at h
    · cases h; exact Zbo_ok
    · cases h; exact Zbe_ok
    · cases h; exact Zbd_ok
    · cases h
theorem Zag_ok:SoundT Tryd.prog cd gdn 4 S_Zag:=
  sound_fn (E:=E_Zag) (A:=A_Zag) (done:=[]) (c:=(Tryd.f4.body.getD .skip)) (S:=S_Zag) (fn:=Tryd.f4) hmix Zag_env Tryd.func4 rfl (by kernel_rfl) (by kernel_rfl) done_nil (by kernel_rfl) (by kernel_rfl) Zag_eq
def Zav (a0:Int) (a1:Int) (a2:Int):Option ((Unit) × (Bool × Unit)):=
 (bif (decide (a1 ≤ a0)) then (some ((),((decide (a0 ≤ a2)),())))
 else (some ((),(false,()))))
def S_Zav:FSpec T:=⟨[.f (.v (.int .i64)),.f (.v (.int .i64)),.f (.v (.int .i64))],[(.v .bool)],fun x=>Zav x.1 x.2.1 x.2.2.1⟩
def E_Zav:Env T:=⟨tab.find,cd,globs,flc,fun f ds=>match f with
    | _=>none,fun f=>match f with
    | _=>false⟩
def A_Zav:Loc2 T:=⟨fun id=>match id with
    | _=>none,fun r=>match r with
    | _=>none,fun r=>match r with
    | _=>false⟩
theorem Zav_eq (x:tySs T S_Zav.ps):run E_Zav A_Zav (Tryd.f34.body.getD .skip) (enterT E_Zav.C S_Zav.ps x) (retK E_Zav Tryd.f34.results.toList S_Zav.ps S_Zav.rs)=S_Zav.fn x:=by kernel_rfl
theorem Zav_env:EnvOk Tryd.prog E_Zav:=envOk (E:=E_Zav) cd_ok tys fl_ok fun f ds S h=>by cases h
theorem Zav_ok:SoundT Tryd.prog cd gdn 34 S_Zav:=
  sound_fn (E:=E_Zav) (A:=A_Zav) (done:=[]) (c:=(Tryd.f34.body.getD .skip)) (S:=S_Zav) (fn:=Tryd.f34) hmix Zav_env Tryd.func34 rfl (by kernel_rfl) (by kernel_rfl) done_nil (by kernel_rfl) (by kernel_rfl) Zav_eq
def Zaj (a0:ApiCredential):Option ((Unit) × (Int × Unit)):=
 ((Zav ((a0.rP).length:Int) (1:Int) (64:Int)).bind fun r1=>(bif (!r1.2.1) then (bif (!r1.2.1) then (some ((),((9:Int),())))
 else ((Zbf a0.rP).bind fun r2=>(bif (!r2.2.1) then (bif (!r2.2.1) then (some ((),((6:Int),())))
 else (bif a0.shared then (bif (!a0.resident) then (bif (!a0.resident) then (some ((),((18:Int),())))
 else (some ((),((0:Int),()))))
 else (bif a0.backed then (bif (!a0.shared) then (some ((),((18:Int),())))
 else (some ((),((0:Int),()))))
 else (some ((),((0:Int),())))))
 else (bif a0.backed then (bif (!a0.shared) then (some ((),((18:Int),())))
 else (some ((),((0:Int),()))))
 else (some ((),((0:Int),()))))))
 else ((Zbf a0.name).bind fun r3=>(bif (!r3.2.1) then (some ((),((6:Int),())))
 else (bif a0.shared then (bif (!a0.resident) then (bif (!a0.resident) then (some ((),((18:Int),())))
 else (some ((),((0:Int),()))))
 else (bif a0.backed then (bif (!a0.shared) then (some ((),((18:Int),())))
 else (some ((),((0:Int),()))))
 else (some ((),((0:Int),())))))
 else (bif a0.backed then (bif (!a0.shared) then (some ((),((18:Int),())))
 else (some ((),((0:Int),()))))
 else (some ((),((0:Int),()))))))))))
 else ((Zav ((a0.user).length:Int) (1:Int) (16:Int)).bind fun r4=>(bif (!r4.2.1) then (bif (!r4.2.1) then (some ((),((9:Int),())))
 else ((Zbf a0.rP).bind fun r5=>(bif (!r5.2.1) then (bif (!r5.2.1) then (some ((),((6:Int),())))
 else (bif a0.shared then (bif (!a0.resident) then (bif (!a0.resident) then (some ((),((18:Int),())))
 else (some ((),((0:Int),()))))
 else (bif a0.backed then (bif (!a0.shared) then (some ((),((18:Int),())))
 else (some ((),((0:Int),()))))
 else (some ((),((0:Int),())))))
 else (bif a0.backed then (bif (!a0.shared) then (some ((),((18:Int),())))
 else (some ((),((0:Int),()))))
 else (some ((),((0:Int),()))))))
 else ((Zbf a0.name).bind fun r6=>(bif (!r6.2.1) then (some ((),((6:Int),())))
 else (bif a0.shared then (bif (!a0.resident) then (bif (!a0.resident) then (some ((),((18:Int),())))
 else (some ((),((0:Int),()))))
 else (bif a0.backed then (bif (!a0.shared) then (some ((),((18:Int),())))
 else (some ((),((0:Int),()))))
 else (some ((),((0:Int),())))))
 else (bif a0.backed then (bif (!a0.shared) then (some ((),((18:Int),())))
 else (some ((),((0:Int),()))))
 else (some ((),((0:Int),()))))))))))
 else (bif (decide ((32:Int) < ((a0.name).length:Int))) then (bif (decide ((32:Int) < ((a0.name).length:Int))) then (some ((),((9:Int),())))
 else ((Zbf a0.rP).bind fun r7=>(bif (!r7.2.1) then (bif (!r7.2.1) then (some ((),((6:Int),())))
 else (bif a0.shared then (bif (!a0.resident) then (bif (!a0.resident) then (some ((),((18:Int),())))
 else (some ((),((0:Int),()))))
 else (bif a0.backed then (bif (!a0.shared) then (some ((),((18:Int),())))
 else (some ((),((0:Int),()))))
 else (some ((),((0:Int),())))))
 else (bif a0.backed then (bif (!a0.shared) then (some ((),((18:Int),())))
 else (some ((),((0:Int),()))))
 else (some ((),((0:Int),()))))))
 else ((Zbf a0.name).bind fun r8=>(bif (!r8.2.1) then (some ((),((6:Int),())))
 else (bif a0.shared then (bif (!a0.resident) then (bif (!a0.resident) then (some ((),((18:Int),())))
 else (some ((),((0:Int),()))))
 else (bif a0.backed then (bif (!a0.shared) then (some ((),((18:Int),())))
 else (some ((),((0:Int),()))))
 else (some ((),((0:Int),())))))
 else (bif a0.backed then (bif (!a0.shared) then (some ((),((18:Int),())))
 else (some ((),((0:Int),()))))
 else (some ((),((0:Int),()))))))))))
 else ((Zav a0.height (1:Int) (4:Int)).bind fun r9=>(bif (!r9.2.1) then (bif (!r9.2.1) then (some ((),((9:Int),())))
 else ((Zbf a0.rP).bind fun r10=>(bif (!r10.2.1) then (bif (!r10.2.1) then (some ((),((6:Int),())))
 else (bif a0.shared then (bif (!a0.resident) then (bif (!a0.resident) then (some ((),((18:Int),())))
 else (some ((),((0:Int),()))))
 else (bif a0.backed then (bif (!a0.shared) then (some ((),((18:Int),())))
 else (some ((),((0:Int),()))))
 else (some ((),((0:Int),())))))
 else (bif a0.backed then (bif (!a0.shared) then (some ((),((18:Int),())))
 else (some ((),((0:Int),()))))
 else (some ((),((0:Int),()))))))
 else ((Zbf a0.name).bind fun r11=>(bif (!r11.2.1) then (some ((),((6:Int),())))
 else (bif a0.shared then (bif (!a0.resident) then (bif (!a0.resident) then (some ((),((18:Int),())))
 else (some ((),((0:Int),()))))
 else (bif a0.backed then (bif (!a0.shared) then (some ((),((18:Int),())))
 else (some ((),((0:Int),()))))
 else (some ((),((0:Int),())))))
 else (bif a0.backed then (bif (!a0.shared) then (some ((),((18:Int),())))
 else (some ((),((0:Int),()))))
 else (some ((),((0:Int),()))))))))))
 else ((Zav a0.protect (1:Int) (3:Int)).bind fun r12=>(bif (!r12.2.1) then (some ((),((9:Int),())))
 else ((Zbf a0.rP).bind fun r13=>(bif (!r13.2.1) then (bif (!r13.2.1) then (some ((),((6:Int),())))
 else (bif a0.shared then (bif (!a0.resident) then (bif (!a0.resident) then (some ((),((18:Int),())))
 else (some ((),((0:Int),()))))
 else (bif a0.backed then (bif (!a0.shared) then (some ((),((18:Int),())))
 else (some ((),((0:Int),()))))
 else (some ((),((0:Int),())))))
 else (bif a0.backed then (bif (!a0.shared) then (some ((),((18:Int),())))
 else (some ((),((0:Int),()))))
 else (some ((),((0:Int),()))))))
 else ((Zbf a0.name).bind fun r14=>(bif (!r14.2.1) then (some ((),((6:Int),())))
 else (bif a0.shared then (bif (!a0.resident) then (bif (!a0.resident) then (some ((),((18:Int),())))
 else (some ((),((0:Int),()))))
 else (bif a0.backed then (bif (!a0.shared) then (some ((),((18:Int),())))
 else (some ((),((0:Int),()))))
 else (some ((),((0:Int),())))))
 else (bif a0.backed then (bif (!a0.shared) then (some ((),((18:Int),())))
 else (some ((),((0:Int),()))))
 else (some ((),((0:Int),()))))))))))))))))))
def S_Zaj:FSpec T:=⟨[.f (.v (.agg 3))],[(.v (.int .i64))],fun x=>Zaj x.1⟩
def E_Zaj:Env T:=⟨tab.find,cd,globs,flc,fun f ds=>match f with
    | 34=>some S_Zav
    | 35=>some S_Zbf
    | _=>none,fun f=>match f with
    | 34=>true
    | 35=>true
    | _=>false⟩
def A_Zaj:Loc2 T:=⟨fun id=>match id with
    | _=>none,fun r=>match r with
    | _=>none,fun r=>match r with
    | _=>false⟩
theorem Zaj_eq (x:tySs T S_Zaj.ps):run E_Zaj A_Zaj (Tryd.f17.body.getD .skip) (enterT E_Zaj.C S_Zaj.ps x) (retK E_Zaj Tryd.f17.results.toList S_Zaj.ps S_Zaj.rs)=S_Zaj.fn x:=by kernel_rfl
theorem Zaj_env:EnvOk Tryd.prog E_Zaj:=envOk (E:=E_Zaj) cd_ok tys fl_ok fun f ds S h=>by
    dsimp only [E_Zaj] at h
    split at h
    · cases h; exact Zav_ok
    · cases h; exact Zbf_ok
    · cases h
theorem Zaj_ok:SoundT Tryd.prog cd gdn 17 S_Zaj:=
  sound_fn (E:=E_Zaj) (A:=A_Zaj) (done:=[]) (c:=(Tryd.f17.body.getD .skip)) (S:=S_Zaj) (fn:=Tryd.f17) hmix Zaj_env Tryd.func17 rfl (by kernel_rfl) (by kernel_rfl) done_nil (by kernel_rfl) (by kernel_rfl) Zaj_eq
def Zco (a0:(List UInt8)):Option ((Unit) × ((List (ApiItem)) × Unit)):=
 (some ((),(([(⟨(4:Int),0#64,a0⟩:ApiItem)]:List (ApiItem)),())))
def S_Zco:FSpec T:=⟨[.f (.v .str)],[(.own 1)],fun x=>Zco x.1⟩
def E_Zco:Env T:=⟨tab.find,cd,globs,flc,fun f ds=>match f with
    | _=>none,fun f=>match f with
    | _=>false⟩
def A_Zco:Loc2 T:=⟨fun id=>match id with
    | _=>none,fun r=>match r with
    | _=>none,fun r=>match r with
    | _=>false⟩
theorem Zco_eq (x:tySs T S_Zco.ps):run E_Zco A_Zco (Tryd.f23.body.getD .skip) (enterT E_Zco.C S_Zco.ps x) (retK E_Zco Tryd.f23.results.toList S_Zco.ps S_Zco.rs)=S_Zco.fn x:=by kernel_rfl
theorem Zco_env:EnvOk Tryd.prog E_Zco:=envOk (E:=E_Zco) cd_ok tys fl_ok fun f ds S h=>by cases h
theorem Zco_ok:SoundT Tryd.prog cd gdn 23 S_Zco:=
  sound_fn (E:=E_Zco) (A:=A_Zco) (done:=[]) (c:=(Tryd.f23.body.getD .skip)) (S:=S_Zco) (fn:=Tryd.f23) hmix Zco_env Tryd.func23 rfl (by kernel_rfl) (by kernel_rfl) done_nil (by kernel_rfl) (by kernel_rfl) Zco_eq
def Zci (a0:(List (UInt8))):Option ((Unit) × ((List (ApiItem)) × Unit)):=
 (some ((),(([(⟨(3:Int),0#64,a0⟩:ApiItem)]:List (ApiItem)),())))
def S_Zci:FSpec T:=⟨[.f (.v (.rs 0))],[(.own 1)],fun x=>Zci x.1⟩
def E_Zci:Env T:=⟨tab.find,cd,globs,flc,fun f ds=>match f with
    | _=>none,fun f=>match f with
    | _=>false⟩
def A_Zci:Loc2 T:=⟨fun id=>match id with
    | _=>none,fun r=>match r with
    | _=>none,fun r=>match r with
    | _=>false⟩
theorem Zci_eq (x:tySs T S_Zci.ps):run E_Zci A_Zci (Tryd.f24.body.getD .skip) (enterT E_Zci.C S_Zci.ps x) (retK E_Zci Tryd.f24.results.toList S_Zci.ps S_Zci.rs)=S_Zci.fn x:=by kernel_rfl
theorem Zci_env:EnvOk Tryd.prog E_Zci:=envOk (E:=E_Zci) cd_ok tys fl_ok fun f ds S h=>by cases h
theorem Zci_ok:SoundT Tryd.prog cd gdn 24 S_Zci:=
  sound_fn (E:=E_Zci) (A:=A_Zci) (done:=[]) (c:=(Tryd.f24.body.getD .skip)) (S:=S_Zci) (fn:=Tryd.f24) hmix Zci_env Tryd.func24 rfl (by kernel_rfl) (by kernel_rfl) done_nil (by kernel_rfl) (by kernel_rfl) Zci_eq
def Zcp (a0:(BitVec 64)):Option ((Unit) × ((List (ApiItem)) × Unit)):=
 (let v1:List (ApiItem):=([(⟨(1:Int),a0,([]:List UInt8)⟩:ApiItem)]:List (ApiItem))
 (some ((),(v1,()))))
def S_Zcp:FSpec T:=⟨[.f (.v .u64)],[(.own 1)],fun x=>Zcp x.1⟩
def E_Zcp:Env T:=⟨tab.find,cd,globs,flc,fun f ds=>match f with
    | _=>none,fun f=>match f with
    | _=>false⟩
def A_Zcp:Loc2 T:=⟨fun id=>match id with
    | _=>none,fun r=>match r with
    | _=>none,fun r=>match r with
    | _=>false⟩
theorem Zcp_eq (x:tySs T S_Zcp.ps):run E_Zcp A_Zcp (Tryd.f25.body.getD .skip) (enterT E_Zcp.C S_Zcp.ps x) (retK E_Zcp Tryd.f25.results.toList S_Zcp.ps S_Zcp.rs)=S_Zcp.fn x:=by kernel_rfl
theorem Zcp_env:EnvOk Tryd.prog E_Zcp:=envOk (E:=E_Zcp) cd_ok tys fl_ok fun f ds S h=>by cases h
theorem Zcp_ok:SoundT Tryd.prog cd gdn 25 S_Zcp:=
  sound_fn (E:=E_Zcp) (A:=A_Zcp) (done:=[]) (c:=(Tryd.f25.body.getD .skip)) (S:=S_Zcp) (fn:=Tryd.f25) hmix Zcp_env Tryd.func25 rfl (by kernel_rfl) (by kernel_rfl) done_nil (by kernel_rfl) (by kernel_rfl) Zcp_eq
def Zcn (a0:Bool):Option ((Unit) × ((List (ApiItem)) × Unit)):=
 (bif a0 then (let v1:List (ApiItem):=([(⟨(7:Int),1#64,([]:List UInt8)⟩:ApiItem)]:List (ApiItem))
 (some ((),(v1,()))))
 else (let v2:List (ApiItem):=([(⟨(7:Int),0#64,([]:List UInt8)⟩:ApiItem)]:List (ApiItem))
 (some ((),(v2,())))))
def S_Zcn:FSpec T:=⟨[.f (.v .bool)],[(.own 1)],fun x=>Zcn x.1⟩
def E_Zcn:Env T:=⟨tab.find,cd,globs,flc,fun f ds=>match f with
    | _=>none,fun f=>match f with
    | _=>false⟩
def A_Zcn:Loc2 T:=⟨fun id=>match id with
    | _=>none,fun r=>match r with
    | _=>none,fun r=>match r with
    | _=>false⟩
theorem Zcn_eq (x:tySs T S_Zcn.ps):run E_Zcn A_Zcn (Tryd.f26.body.getD .skip) (enterT E_Zcn.C S_Zcn.ps x) (retK E_Zcn Tryd.f26.results.toList S_Zcn.ps S_Zcn.rs)=S_Zcn.fn x:=by kernel_rfl
theorem Zcn_env:EnvOk Tryd.prog E_Zcn:=envOk (E:=E_Zcn) cd_ok tys fl_ok fun f ds S h=>by cases h
theorem Zcn_ok:SoundT Tryd.prog cd gdn 26 S_Zcn:=
  sound_fn (E:=E_Zcn) (A:=A_Zcn) (done:=[]) (c:=(Tryd.f26.body.getD .skip)) (S:=S_Zcn) (fn:=Tryd.f26) hmix Zcn_env Tryd.func26 rfl (by kernel_rfl) (by kernel_rfl) done_nil (by kernel_rfl) (by kernel_rfl) Zcn_eq
def Zbl (a0:(BitVec 64)):Option ((Unit) × (Int × Unit)):=
 ((bif (decide ((4294967296#64).toNat ≤ a0.toNat)) then (some ((a0 >>> 32),(32:Int),()))
 else (some (a0,(0:Int),()))).bind (fun (j1:((BitVec 64) × Int × Unit))=>((bif (decide ((65536#64).toNat ≤ j1.1.toNat)) then (some ((j1.1 >>> 16),(IntKind.wrap .i64 (j1.2.1 + (16:Int))),()))
 else (some (j1.1,j1.2.1,()))).bind (fun (j2:((BitVec 64) × Int × Unit))=>(bif (decide ((256#64).toNat ≤ j2.1.toNat)) then (((([0,1,2,2,3,3,3,3,4,4,4,4,4,4,4,4,5,5,5,5,5,5,5,5,5,5,5,5,5,5,5,5,6,6,6,6,6,6,6,6,6,6,6,6,6,6,6,6,6,6,6,6,6,6,6,6,6,6,6,6,6,6,6,6,7,7,7,7,7,7,7,7,7,7,7,7,7,7,7,7,7,7,7,7,7,7,7,7,7,7,7,7,7,7,7,7,7,7,7,7,7,7,7,7,7,7,7,7,7,7,7,7,7,7,7,7,7,7,7,7,7,7,7,7,7,7,7,7,8,8,8,8,8,8,8,8,8,8,8,8,8,8,8,8,8,8,8,8,8,8,8,8,8,8,8,8,8,8,8,8,8,8,8,8,8,8,8,8,8,8,8,8,8,8,8,8,8,8,8,8,8,8,8,8,8,8,8,8,8,8,8,8,8,8,8,8,8,8,8,8,8,8,8,8,8,8,8,8,8,8,8,8,8,8,8,8,8,8,8,8,8,8,8,8,8,8,8,8,8,8,8,8,8,8,8,8,8,8,8,8,8,8,8,8,8,8,8,8,8,8,8,8,8,8,8,8]:List UInt8))[(UInt8.ofBitVec (BitVec.setWidth 8 (j2.1 >>> 8))).toNat]?).bind fun x3=>(let v4:Int:=(IntKind.wrap .i64 ((IntKind.wrap .i64 (j2.2.1 + (8:Int))) + (x3.toBitVec.toNat:Int)))
 (some ((),(v4,())))))
 else (((([0,1,2,2,3,3,3,3,4,4,4,4,4,4,4,4,5,5,5,5,5,5,5,5,5,5,5,5,5,5,5,5,6,6,6,6,6,6,6,6,6,6,6,6,6,6,6,6,6,6,6,6,6,6,6,6,6,6,6,6,6,6,6,6,7,7,7,7,7,7,7,7,7,7,7,7,7,7,7,7,7,7,7,7,7,7,7,7,7,7,7,7,7,7,7,7,7,7,7,7,7,7,7,7,7,7,7,7,7,7,7,7,7,7,7,7,7,7,7,7,7,7,7,7,7,7,7,7,8,8,8,8,8,8,8,8,8,8,8,8,8,8,8,8,8,8,8,8,8,8,8,8,8,8,8,8,8,8,8,8,8,8,8,8,8,8,8,8,8,8,8,8,8,8,8,8,8,8,8,8,8,8,8,8,8,8,8,8,8,8,8,8,8,8,8,8,8,8,8,8,8,8,8,8,8,8,8,8,8,8,8,8,8,8,8,8,8,8,8,8,8,8,8,8,8,8,8,8,8,8,8,8,8,8,8,8,8,8,8,8,8,8,8,8,8,8,8,8,8,8,8,8,8,8,8,8]:List UInt8))[(UInt8.ofBitVec (BitVec.setWidth 8 j2.1)).toNat]?).bind fun x5=>(some ((),((IntKind.wrap .i64 (j2.2.1 + (x5.toBitVec.toNat:Int))),())))))))))
def S_Zbl:FSpec T:=⟨[.f (.v .u64)],[(.v (.int .i64))],fun x=>Zbl x.1⟩
def E_Zbl:Env T:=⟨tab.find,cd,globs,flc,fun f ds=>match f with
    | _=>none,fun f=>match f with
    | _=>false⟩
def A_Zbl:Loc2 T:=⟨fun id=>match id with
    | _=>none,fun r=>match r with
    | 4=>some ([(0,.f (.v .u64)),(2,.f (.v (.int .i64)))],true)
    | 7=>some ([(0,.f (.v .u64)),(2,.f (.v (.int .i64)))],true)
    | _=>none,fun r=>match r with
    | _=>false⟩
theorem Zbl_eq (x:tySs T S_Zbl.ps):run E_Zbl A_Zbl (Tryd.f91.body.getD .skip) (enterT E_Zbl.C S_Zbl.ps x) (retK E_Zbl Tryd.f91.results.toList S_Zbl.ps S_Zbl.rs)=S_Zbl.fn x:=by kernel_rfl
theorem Zbl_env:EnvOk Tryd.prog E_Zbl:=envOk (E:=E_Zbl) cd_ok tys fl_ok fun f ds S h=>by cases h
theorem Zbl_ok:SoundT Tryd.prog cd gdn 91 S_Zbl:=
  sound_fn (E:=E_Zbl) (A:=A_Zbl) (done:=[]) (c:=(Tryd.f91.body.getD .skip)) (S:=S_Zbl) (fn:=Tryd.f91) hmix Zbl_env Tryd.func91 rfl (by kernel_rfl) (by kernel_rfl) done_nil (by kernel_rfl) (by kernel_rfl) Zbl_eq
def Zbu (a0:(BitVec 64)):Option ((Unit) × (Int × Unit)):=
 ((Zbl a0).bind fun r1=>(some ((),(r1.2.1,()))))
def S_Zbu:FSpec T:=⟨[.f (.v .u64)],[(.v (.int .i64))],fun x=>Zbu x.1⟩
def E_Zbu:Env T:=⟨tab.find,cd,globs,flc,fun f ds=>match f with
    | 91=>some S_Zbl
    | _=>none,fun f=>match f with
    | 91=>true
    | _=>false⟩
def A_Zbu:Loc2 T:=⟨fun id=>match id with
    | _=>none,fun r=>match r with
    | _=>none,fun r=>match r with
    | _=>false⟩
theorem Zbu_eq (x:tySs T S_Zbu.ps):run E_Zbu A_Zbu (Tryd.f67.body.getD .skip) (enterT E_Zbu.C S_Zbu.ps x) (retK E_Zbu Tryd.f67.results.toList S_Zbu.ps S_Zbu.rs)=S_Zbu.fn x:=by kernel_rfl
theorem Zbu_env:EnvOk Tryd.prog E_Zbu:=envOk (E:=E_Zbu) cd_ok tys fl_ok fun f ds S h=>by
    dsimp only [E_Zbu] at h
    split at h
    · cases h; exact Zbl_ok
    · cases h
theorem Zbu_ok:SoundT Tryd.prog cd gdn 67 S_Zbu:=
  sound_fn (E:=E_Zbu) (A:=A_Zbu) (done:=[]) (c:=(Tryd.f67.body.getD .skip)) (S:=S_Zbu) (fn:=Tryd.f67) hmix Zbu_env Tryd.func67 rfl (by kernel_rfl) (by kernel_rfl) done_nil (by kernel_rfl) (by kernel_rfl) Zbu_eq
def Zba (a0:(BitVec 64)):Option ((Unit) × (Bool × Unit)):=
 (some ((),((!decide (a0=a0)),())))
def S_Zba:FSpec T:=⟨[.f (.v .u64)],[(.v .bool)],fun x=>Zba x.1⟩
def E_Zba:Env T:=⟨tab.find,cd,globs,flc,fun f ds=>match f with
    | _=>none,fun f=>match f with
    | _=>false⟩
def A_Zba:Loc2 T:=⟨fun id=>match id with
    | _=>none,fun r=>match r with
    | _=>none,fun r=>match r with
    | _=>false⟩
theorem Zba_eq (x:tySs T S_Zba.ps):run E_Zba A_Zba (Tryd.f68.body.getD .skip) (enterT E_Zba.C S_Zba.ps x) (retK E_Zba Tryd.f68.results.toList S_Zba.ps S_Zba.rs)=S_Zba.fn x:=by kernel_rfl
theorem Zba_env:EnvOk Tryd.prog E_Zba:=envOk (E:=E_Zba) cd_ok tys fl_ok fun f ds S h=>by cases h
theorem Zba_ok:SoundT Tryd.prog cd gdn 68 S_Zba:=
  sound_fn (E:=E_Zba) (A:=A_Zba) (done:=[]) (c:=(Tryd.f68.body.getD .skip)) (S:=S_Zba) (fn:=Tryd.f68) hmix Zba_env Tryd.func68 rfl (by kernel_rfl) (by kernel_rfl) done_nil (by kernel_rfl) (by kernel_rfl) Zba_eq
def Zao (a0:(BitVec 64)) (a1:(BitVec 64)):Option ((Unit) × (Int × Unit)):=
 ((Zba a0).bind fun r1=>((Zba a1).bind fun r2=>(bif r1.2.1 then (bif r2.2.1 then (some ((),((0:Int),())))
 else (some ((),((-1:Int),()))))
 else (bif r2.2.1 then (some ((),((1:Int),())))
 else (bif (decide (a0.toNat < a1.toNat)) then (some ((),((-1:Int),())))
 else (bif (decide (a1.toNat < a0.toNat)) then (some ((),((1:Int),())))
 else (some ((),((0:Int),())))))))))
def S_Zao:FSpec T:=⟨[.f (.v .u64),.f (.v .u64)],[(.v (.int .i64))],fun x=>Zao x.1 x.2.1⟩
def E_Zao:Env T:=⟨tab.find,cd,globs,flc,fun f ds=>match f with
    | 68=>some S_Zba
    | _=>none,fun f=>match f with
    | 68=>true
    | _=>false⟩
def A_Zao:Loc2 T:=⟨fun id=>match id with
    | _=>none,fun r=>match r with
    | _=>none,fun r=>match r with
    | _=>false⟩
theorem Zao_eq (x:tySs T S_Zao.ps):run E_Zao A_Zao (Tryd.f49.body.getD .skip) (enterT E_Zao.C S_Zao.ps x) (retK E_Zao Tryd.f49.results.toList S_Zao.ps S_Zao.rs)=S_Zao.fn x:=by kernel_rfl
theorem Zao_env:EnvOk Tryd.prog E_Zao:=envOk (E:=E_Zao) cd_ok tys fl_ok fun f ds S h=>by
    dsimp only [E_Zao] at h
    split at h
    · cases h; exact Zba_ok
    · cases h
theorem Zao_ok:SoundT Tryd.prog cd gdn 49 S_Zao:=
  sound_fn (E:=E_Zao) (A:=A_Zao) (done:=[]) (c:=(Tryd.f49.body.getD .skip)) (S:=S_Zao) (fn:=Tryd.f49) hmix Zao_env Tryd.func49 rfl (by kernel_rfl) (by kernel_rfl) done_nil (by kernel_rfl) (by kernel_rfl) Zao_eq
def Zcj (a0:Int) (a1:Int) (a2:(List (BitVec 64))):Option ((Unit) × (Int × Unit)):=
 ((getI a2 a0).bind fun x1=>((getI a2 a1).bind fun x2=>((Zao x1 x2).bind fun r3=>(some ((),(r3.2.1,()))))))
def S_Zcj:FSpec T:=⟨[.f (.v (.int .i64)),.f (.v (.int .i64)),.f (.v (.ref (.rs 4)))],[(.v (.int .i64))],fun x=>Zcj x.1 x.2.1 x.2.2.1⟩
def E_Zcj:Env T:=⟨tab.find,cd,globs,flc,fun f ds=>match f with
    | 49=>some S_Zao
    | _=>none,fun f=>match f with
    | 49=>true
    | _=>false⟩
def A_Zcj:Loc2 T:=⟨fun id=>match id with
    | _=>none,fun r=>match r with
    | _=>none,fun r=>match r with
    | _=>false⟩
theorem Zcj_eq (x:tySs T S_Zcj.ps):run E_Zcj A_Zcj (Tryd.f48.body.getD .skip) (enterT E_Zcj.C S_Zcj.ps x) (retK E_Zcj Tryd.f48.results.toList S_Zcj.ps S_Zcj.rs)=S_Zcj.fn x:=by kernel_rfl
theorem Zcj_env:EnvOk Tryd.prog E_Zcj:=envOk (E:=E_Zcj) cd_ok tys fl_ok fun f ds S h=>by
    dsimp only [E_Zcj] at h
    split at h
    · cases h; exact Zao_ok
    · cases h
theorem Zcj_ok:SoundT Tryd.prog cd gdn 48 S_Zcj:=
  sound_fn (E:=E_Zcj) (A:=A_Zcj) (done:=[]) (c:=(Tryd.f48.body.getD .skip)) (S:=S_Zcj) (fn:=Tryd.f48) hmix Zcj_env Tryd.func48 rfl (by kernel_rfl) (by kernel_rfl) done_nil (by kernel_rfl) (by kernel_rfl) Zcj_eq
def Zaa_L2b (y0:(List (Int))) (y1:Int) (y2:Int) (y3:((List (BitVec 64)) × Unit)) (y4:Int) (y5:Int):Option (((List (Int)) × Int × Int × ((List (BitVec 64)) × Unit) × Int × Int × Unit) ⊕ ((List (Int)) × Int × Int × ((List (BitVec 64)) × Unit) × Int × Unit)):=
 (bif (decide (y1 < y5)) then (bif (decide ((0:Int) ≤ y5) && decide (y5 < ((y0).length:Int))) then (((y0)[(y5).toNat]?).bind fun x1=>(bif (decide ((0:Int) ≤ (IntKind.wrap .i64 (y5 - (1:Int)))) && decide ((IntKind.wrap .i64 (y5 - (1:Int))) < ((y0).length:Int))) then (((y0)[((IntKind.wrap .i64 (y5 - (1:Int)))).toNat]?).bind fun x2=>((Zcj x1 x2 y3.1).bind fun r3=>(bif (decide (r3.2.1 < (0:Int))) then (bif (decide ((0:Int) ≤ (IntKind.wrap .i64 (y5 - (1:Int)))) && decide ((IntKind.wrap .i64 (y5 - (1:Int))) < ((y0).length:Int))) then (((y0)[((IntKind.wrap .i64 (y5 - (1:Int)))).toNat]?).bind fun x4=>(bif (decide ((0:Int) ≤ y5) && decide (y5 < ((y0).length:Int))) then (((y0)[(y5).toNat]?).bind fun x5=>(bif (decide ((0:Int) ≤ y5) && decide (y5 < ((y0).length:Int))) then (((y0)[(y5).toNat]?).bind fun x6=>(bif (decide ((0:Int) ≤ (IntKind.wrap .i64 (y5 - (1:Int)))) && decide ((IntKind.wrap .i64 (y5 - (1:Int))) < ((y0).length:Int))) then ((((List.set y0 (y5).toNat x4))[((IntKind.wrap .i64 (y5 - (1:Int)))).toNat]?).bind fun x7=>(let v8:List (Int):=(List.set (List.set y0 (y5).toNat x4) ((IntKind.wrap .i64 (y5 - (1:Int)))).toNat x5)
 (some (Sum.inl (v8,y1,y2,(y3.1,()),y4,(IntKind.wrap .i64 (y5 - (1:Int))),())))))
 else none))
 else none))
 else none))
 else none)
 else (some (Sum.inr (y0,y1,y2,(y3.1,()),y4,()))))))
 else none))
 else none)
 else (some (Sum.inr (y0,y1,y2,(y3.1,()),y4,()))))
def Zaa_L2 (y:((List (Int)) × Int × Int × ((List (BitVec 64)) × Unit) × Int × Int × Unit)):Option ((List (Int)) × Int × Int × ((List (BitVec 64)) × Unit) × Int × Unit):=iter (fun (y:((List (Int)) × Int × Int × ((List (BitVec 64)) × Unit) × Int × Int × Unit))=>Zaa_L2b y.1 y.2.1 y.2.2.1 y.2.2.2.1 y.2.2.2.2.1 y.2.2.2.2.2.1) rounds y
def Zaa_L0b (y0:(List (Int))) (y1:Int) (y2:Int) (y3:((List (BitVec 64)) × Unit)) (y4:Int):Option (((List (Int)) × Int × Int × ((List (BitVec 64)) × Unit) × Int × Unit) ⊕ ((List (Int)) × Unit)):=
 (bif (decide (y4 < y2)) then ((Zaa_L2 (y0,y1,y2,(y3.1,()),y4,y4,())).bind (fun (z1:((List (Int)) × Int × Int × ((List (BitVec 64)) × Unit) × Int × Unit))=>(some (Sum.inl (z1.1,z1.2.1,z1.2.2.1,(z1.2.2.2.1.1,()),(IntKind.wrap .i64 (z1.2.2.2.2.1 + (1:Int))),())))))
 else (some (Sum.inr (y0,()))))
def Zaa_L0 (y:((List (Int)) × Int × Int × ((List (BitVec 64)) × Unit) × Int × Unit)):Option ((List (Int)) × Unit):=iter (fun (y:((List (Int)) × Int × Int × ((List (BitVec 64)) × Unit) × Int × Unit))=>Zaa_L0b y.1 y.2.1 y.2.2.1 y.2.2.2.1 y.2.2.2.2.1) rounds y
def Zaa (a0:(List (Int))) (a1:Int) (a2:Int) (a3:((List (BitVec 64)) × Unit)):Option (((List (Int)) × Unit) × (Unit)):=
 ((Zaa_L0 (a0,a1,a2,(a3.1,()),(IntKind.wrap .i64 (a1 + (1:Int))),())).bind (fun (z2:((List (Int)) × Unit))=>(some ((z2.1,()),()))))
def S_Zaa:FSpec T:=⟨[.inp 6,.f (.v (.int .i64)),.f (.v (.int .i64)),.f (.v (.fn 48 (.cons (.ref (.rs 4)) .nil)))],[],fun x=>Zaa x.1 x.2.1 x.2.2.1 x.2.2.2.1⟩
def E_Zaa:Env T:=⟨tab.find,cd,globs,flc,fun f ds=>match f with
    | 48=>some S_Zcj
    | _=>none,fun f=>match f with
    | 48=>true
    | _=>false⟩
def A_Zaa:Loc2 T:=⟨fun id=>match id with
    | 2=>some ⟨[(0,.f (.own 6)),(1,.f (.v (.int .i64))),(2,.f (.v (.int .i64))),(3,.f (.v (.fn 48 (.cons (.ref (.rs 4)) .nil)))),(8,.f (.v (.int .i64))),(9,.f (.v (.int .i64)))],[(.exit 2,[(0,.f (.own 6)),(1,.f (.v (.int .i64))),(2,.f (.v (.int .i64))),(3,.f (.v (.fn 48 (.cons (.ref (.rs 4)) .nil)))),(8,.f (.v (.int .i64)))])],Zaa_L2,[]⟩
    | 0=>some ⟨[(0,.f (.own 6)),(1,.f (.v (.int .i64))),(2,.f (.v (.int .i64))),(3,.f (.v (.fn 48 (.cons (.ref (.rs 4)) .nil)))),(8,.f (.v (.int .i64)))],[(.exit 0,[(0,.f (.own 6))])],Zaa_L0,[]⟩
    | _=>none,fun r=>match r with
    | _=>none,fun r=>match r with
    | _=>false⟩
theorem Zaa_L2_eq (y0:(List (Int))) (y1:Int) (y2:Int) (y3:((List (BitVec 64)) × Unit)) (y4:Int) (y5:Int):run E_Zaa A_Zaa (loopAt 2 (Tryd.f82.body.getD .skip)) (layC cd [(0,.f (.own 6)),(1,.f (.v (.int .i64))),(2,.f (.v (.int .i64))),(3,.f (.v (.fn 48 (.cons (.ref (.rs 4)) .nil)))),(8,.f (.v (.int .i64))),(9,.f (.v (.int .i64)))] [] (y0,y1,y2,y3,y4,y5,())) (roundK cd [(0,.f (.own 6)),(1,.f (.v (.int .i64))),(2,.f (.v (.int .i64))),(3,.f (.v (.fn 48 (.cons (.ref (.rs 4)) .nil)))),(8,.f (.v (.int .i64))),(9,.f (.v (.int .i64)))] [] [(.exit 2,[(0,.f (.own 6)),(1,.f (.v (.int .i64))),(2,.f (.v (.int .i64))),(3,.f (.v (.fn 48 (.cons (.ref (.rs 4)) .nil)))),(8,.f (.v (.int .i64)))])])=Zaa_L2b y0 y1 y2 y3 y4 y5:=by kernel_rfl
theorem Zaa_L0_eq (y0:(List (Int))) (y1:Int) (y2:Int) (y3:((List (BitVec 64)) × Unit)) (y4:Int):run E_Zaa A_Zaa (loopAt 0 (Tryd.f82.body.getD .skip)) (layC cd [(0,.f (.own 6)),(1,.f (.v (.int .i64))),(2,.f (.v (.int .i64))),(3,.f (.v (.fn 48 (.cons (.ref (.rs 4)) .nil)))),(8,.f (.v (.int .i64)))] [] (y0,y1,y2,y3,y4,())) (roundK cd [(0,.f (.own 6)),(1,.f (.v (.int .i64))),(2,.f (.v (.int .i64))),(3,.f (.v (.fn 48 (.cons (.ref (.rs 4)) .nil)))),(8,.f (.v (.int .i64)))] [] [(.exit 0,[(0,.f (.own 6))])])=Zaa_L0b y0 y1 y2 y3 y4:=by kernel_rfl
theorem Zaa_eq (x:tySs T S_Zaa.ps):run E_Zaa A_Zaa (Tryd.f82.body.getD .skip) (enterT E_Zaa.C S_Zaa.ps x) (retK E_Zaa Tryd.f82.results.toList S_Zaa.ps S_Zaa.rs)=S_Zaa.fn x:=by kernel_rfl
theorem Zaa_env:EnvOk Tryd.prog E_Zaa:=envOk (E:=E_Zaa) cd_ok tys fl_ok fun f ds S h=>by
    dsimp only [E_Zaa] at h
    split at h
    · cases h; exact Zcj_ok
    · cases h
theorem Zaa_L2_ok:LoopOk Tryd.prog E_Zaa Tryd.f82.ntmps (kqOf S_Zaa.ps 0) (loopAt 2 (Tryd.f82.body.getD .skip)) ⟨[(0,.f (.own 6)),(1,.f (.v (.int .i64))),(2,.f (.v (.int .i64))),(3,.f (.v (.fn 48 (.cons (.ref (.rs 4)) .nil)))),(8,.f (.v (.int .i64))),(9,.f (.v (.int .i64)))],[(.exit 2,[(0,.f (.own 6)),(1,.f (.v (.int .i64))),(2,.f (.v (.int .i64))),(3,.f (.v (.fn 48 (.cons (.ref (.rs 4)) .nil)))),(8,.f (.v (.int .i64)))])],Zaa_L2,[]⟩:=
  loop_ok (A:=A_Zaa) (done:=[]) (c0:=(Tryd.f82.body.getD .skip)) hmix Zaa_env done_nil rounds (by kernel_rfl) (by kernel_rfl) (fun x=>Zaa_L2_eq x.1 x.2.1 x.2.2.1 x.2.2.2.1 x.2.2.2.2.1 x.2.2.2.2.2.1) (fun _=>rfl)
theorem Zaa_L0_ok:LoopOk Tryd.prog E_Zaa Tryd.f82.ntmps (kqOf S_Zaa.ps 0) (loopAt 0 (Tryd.f82.body.getD .skip)) ⟨[(0,.f (.own 6)),(1,.f (.v (.int .i64))),(2,.f (.v (.int .i64))),(3,.f (.v (.fn 48 (.cons (.ref (.rs 4)) .nil)))),(8,.f (.v (.int .i64)))],[(.exit 0,[(0,.f (.own 6))])],Zaa_L0,[]⟩:=
  loop_ok (A:=A_Zaa) (done:=[2]) (c0:=(Tryd.f82.body.getD .skip)) hmix Zaa_env (done_cons rfl Zaa_L2_ok done_nil) rounds (by kernel_rfl) (by kernel_rfl) (fun x=>Zaa_L0_eq x.1 x.2.1 x.2.2.1 x.2.2.2.1 x.2.2.2.2.1) (fun _=>rfl)
theorem Zaa_ok:SoundT Tryd.prog cd gdn 82 S_Zaa:=
  sound_fn (E:=E_Zaa) (A:=A_Zaa) (done:=[2,0]) (c:=(Tryd.f82.body.getD .skip)) (S:=S_Zaa) (fn:=Tryd.f82) hmix Zaa_env Tryd.func82 rfl (by kernel_rfl) (by kernel_rfl) (done_cons rfl Zaa_L2_ok (done_cons rfl Zaa_L0_ok done_nil)) (by kernel_rfl) (by kernel_rfl) Zaa_eq
def Zac_L0b (y0:(List (Int))) (y1:Int) (y2:Int) (y3:Int) (y4:((List (BitVec 64)) × Unit)) (y5:Bool) (y6:Bool):Option (((List (Int)) × Int × Int × Int × ((List (BitVec 64)) × Unit) × Bool × Bool × Unit) ⊕ ((List (Int)) × Unit)):=
 (bif (decide ((IntKind.wrap .i64 (y2 - y1)) ≤ (12:Int))) then ((Zaa y0 y1 y2 (y4.1,())).bind fun r1=>(some (Sum.inr (r1.1.1,()))))
 else (bif (decide (y3=(0:Int))) then none
 else ((bif (!y5) then none
 else (some (y0,y1,y2,y3,(y4.1,()),y5,y6,(IntKind.wrap .i64 (y2 - y1)),()))).bind (fun (j2:((List (Int)) × Int × Int × Int × ((List (BitVec 64)) × Unit) × Bool × Bool × Int × Unit))=>none))))
def Zac_L0 (y:((List (Int)) × Int × Int × Int × ((List (BitVec 64)) × Unit) × Bool × Bool × Unit)):Option ((List (Int)) × Unit):=iter (fun (y:((List (Int)) × Int × Int × Int × ((List (BitVec 64)) × Unit) × Bool × Bool × Unit))=>Zac_L0b y.1 y.2.1 y.2.2.1 y.2.2.2.1 y.2.2.2.2.1 y.2.2.2.2.2.1 y.2.2.2.2.2.2.1) rounds y
def Zac (a0:(List (Int))) (a1:Int) (a2:Int) (a3:Int) (a4:((List (BitVec 64)) × Unit)):Option (((List (Int)) × Unit) × (Unit)):=
 ((Zac_L0 (a0,a1,a2,a3,(a4.1,()),true,true,())).bind (fun (z3:((List (Int)) × Unit))=>(some ((z3.1,()),()))))
def S_Zac:FSpec T:=⟨[.inp 6,.f (.v (.int .i64)),.f (.v (.int .i64)),.f (.v (.int .i64)),.f (.v (.fn 48 (.cons (.ref (.rs 4)) .nil)))],[],fun x=>Zac x.1 x.2.1 x.2.2.1 x.2.2.2.1 x.2.2.2.2.1⟩
def E_Zac:Env T:=⟨tab.find,cd,globs,flc,fun f ds=>match f with
    | 82=>match fnAt ds 3 with
      | some 48=>some S_Zaa
      | _=>none
    | _=>none,fun f=>match f with
    | _=>false⟩
def A_Zac:Loc2 T:=⟨fun id=>match id with
    | 0=>some ⟨[(0,.f (.own 6)),(1,.f (.v (.int .i64))),(2,.f (.v (.int .i64))),(3,.f (.v (.int .i64))),(4,.f (.v (.fn 48 (.cons (.ref (.rs 4)) .nil)))),(10,.f (.v .bool)),(11,.f (.v .bool))],[(.ret,[(0,.f (.own 6))])],Zac_L0,[]⟩
    | _=>none,fun r=>match r with
    | 10=>some ([(0,.f (.own 6)),(1,.f (.v (.int .i64))),(2,.f (.v (.int .i64))),(3,.f (.v (.int .i64))),(4,.f (.v (.fn 48 (.cons (.ref (.rs 4)) .nil)))),(10,.f (.v .bool)),(11,.f (.v .bool)),(12,.f (.v (.int .i64)))],true)
    | _=>none,fun r=>match r with
    | _=>false⟩
theorem Zac_L0_eq (y0:(List (Int))) (y1:Int) (y2:Int) (y3:Int) (y4:((List (BitVec 64)) × Unit)) (y5:Bool) (y6:Bool):run E_Zac A_Zac (loopAt 0 (Tryd.f66.body.getD .skip)) (layC cd [(0,.f (.own 6)),(1,.f (.v (.int .i64))),(2,.f (.v (.int .i64))),(3,.f (.v (.int .i64))),(4,.f (.v (.fn 48 (.cons (.ref (.rs 4)) .nil)))),(10,.f (.v .bool)),(11,.f (.v .bool))] [] (y0,y1,y2,y3,y4,y5,y6,())) (roundK cd [(0,.f (.own 6)),(1,.f (.v (.int .i64))),(2,.f (.v (.int .i64))),(3,.f (.v (.int .i64))),(4,.f (.v (.fn 48 (.cons (.ref (.rs 4)) .nil)))),(10,.f (.v .bool)),(11,.f (.v .bool))] [] [(.ret,[(0,.f (.own 6))])])=Zac_L0b y0 y1 y2 y3 y4 y5 y6:=by kernel_rfl
theorem Zac_eq (x:tySs T S_Zac.ps):run E_Zac A_Zac (Tryd.f66.body.getD .skip) (enterT E_Zac.C S_Zac.ps x) (retK E_Zac Tryd.f66.results.toList S_Zac.ps S_Zac.rs)=S_Zac.fn x:=by kernel_rfl
theorem Zac_env:EnvOk Tryd.prog E_Zac:=envOk (E:=E_Zac) cd_ok tys fl_ok fun f ds S h=>by
    dsimp only [E_Zac] at h
    split at h
    · split at h
      · cases h; exact Zaa_ok
      · cases h
    · cases h
theorem Zac_L0_ok:LoopOk Tryd.prog E_Zac Tryd.f66.ntmps (kqOf S_Zac.ps 0) (loopAt 0 (Tryd.f66.body.getD .skip)) ⟨[(0,.f (.own 6)),(1,.f (.v (.int .i64))),(2,.f (.v (.int .i64))),(3,.f (.v (.int .i64))),(4,.f (.v (.fn 48 (.cons (.ref (.rs 4)) .nil)))),(10,.f (.v .bool)),(11,.f (.v .bool))],[(.ret,[(0,.f (.own 6))])],Zac_L0,[]⟩:=
  loop_ok (A:=A_Zac) (done:=[]) (c0:=(Tryd.f66.body.getD .skip)) hmix Zac_env done_nil rounds (by kernel_rfl) (by kernel_rfl) (fun x=>Zac_L0_eq x.1 x.2.1 x.2.2.1 x.2.2.2.1 x.2.2.2.2.1 x.2.2.2.2.2.1 x.2.2.2.2.2.2.1) (fun _=>rfl)
theorem Zac_ok:SoundT Tryd.prog cd gdn 66 S_Zac:=
  sound_fn (E:=E_Zac) (A:=A_Zac) (done:=[0]) (c:=(Tryd.f66.body.getD .skip)) (S:=S_Zac) (fn:=Tryd.f66) hmix Zac_env Tryd.func66 rfl (by kernel_rfl) (by kernel_rfl) (done_cons rfl Zac_L0_ok done_nil) (by kernel_rfl) (by kernel_rfl) Zac_eq
def Zae (a0:(List (Int))) (a1:((List (BitVec 64)) × Unit)):Option (((List (Int)) × Unit) × (Unit)):=
 ((Zbu (BitVec.ofInt 64 ((a0).length:Int))).bind fun r1=>((Zac a0 (0:Int) ((a0).length:Int) r1.2.1 (a1.1,())).bind fun r2=>(some ((r2.1.1,()),()))))
def S_Zae:FSpec T:=⟨[.inp 6,.f (.v (.fn 48 (.cons (.ref (.rs 4)) .nil)))],[],fun x=>Zae x.1 x.2.1⟩
def E_Zae:Env T:=⟨tab.find,cd,globs,flc,fun f ds=>match f with
    | 66=>match fnAt ds 4 with
      | some 48=>some S_Zac
      | _=>none
    | 67=>some S_Zbu
    | _=>none,fun f=>match f with
    | 67=>true
    | _=>false⟩
def A_Zae:Loc2 T:=⟨fun id=>match id with
    | _=>none,fun r=>match r with
    | _=>none,fun r=>match r with
    | _=>false⟩
theorem Zae_eq (x:tySs T S_Zae.ps):run E_Zae A_Zae (Tryd.f47.body.getD .skip) (enterT E_Zae.C S_Zae.ps x) (retK E_Zae Tryd.f47.results.toList S_Zae.ps S_Zae.rs)=S_Zae.fn x:=by kernel_rfl
theorem Zae_env:EnvOk Tryd.prog E_Zae:=envOk (E:=E_Zae) cd_ok tys fl_ok fun f ds S h=>by
    dsimp only [E_Zae] at h
    split at h
    · split at h
      · cases h; exact Zac_ok
      · cases h
    · cases h; exact Zbu_ok
    · cases h
theorem Zae_ok:SoundT Tryd.prog cd gdn 47 S_Zae:=
  sound_fn (E:=E_Zae) (A:=A_Zae) (done:=[]) (c:=(Tryd.f47.body.getD .skip)) (S:=S_Zae) (fn:=Tryd.f47) hmix Zae_env Tryd.func47 rfl (by kernel_rfl) (by kernel_rfl) done_nil (by kernel_rfl) (by kernel_rfl) Zae_eq
def Zbm (a0:CborWalk):Option ((Unit) × (Bool × Unit)):=
 (bif (decide ((0:Int) < a0.count)) then (some ((),((decide (((a0.open_).length:Int)=(0:Int))),())))
 else (some ((),(false,()))))
def S_Zbm:FSpec T:=⟨[.f (.v (.ref (.agg 8)))],[(.v .bool)],fun x=>Zbm x.1⟩
def E_Zbm:Env T:=⟨tab.find,cd,globs,flc,fun f ds=>match f with
    | _=>none,fun f=>match f with
    | _=>false⟩
def A_Zbm:Loc2 T:=⟨fun id=>match id with
    | _=>none,fun r=>match r with
    | _=>none,fun r=>match r with
    | _=>false⟩
theorem Zbm_eq (x:tySs T S_Zbm.ps):run E_Zbm A_Zbm (Tryd.f36.body.getD .skip) (enterT E_Zbm.C S_Zbm.ps x) (retK E_Zbm Tryd.f36.results.toList S_Zbm.ps S_Zbm.rs)=S_Zbm.fn x:=by kernel_rfl
theorem Zbm_env:EnvOk Tryd.prog E_Zbm:=envOk (E:=E_Zbm) cd_ok tys fl_ok fun f ds S h=>by cases h
theorem Zbm_ok:SoundT Tryd.prog cd gdn 36 S_Zbm:=
  sound_fn (E:=E_Zbm) (A:=A_Zbm) (done:=[]) (c:=(Tryd.f36.body.getD .skip)) (S:=S_Zbm) (fn:=Tryd.f36) hmix Zbm_env Tryd.func36 rfl (by kernel_rfl) (by kernel_rfl) done_nil (by kernel_rfl) (by kernel_rfl) Zbm_eq
def Zbk (a0:CborWalk):Option ((Unit) × (Bool × Unit)):=
 (bif (decide ((0:Int) < ((a0.open_).length:Int))) then ((getI a0.open_ (IntKind.wrap .i64 (((a0.open_).length:Int) - (1:Int)))).bind fun x1=>(bif x1.pairs then ((getI a0.open_ (IntKind.wrap .i64 (((a0.open_).length:Int) - (1:Int)))).bind fun x2=>(some ((),((decide ((Int.tmod x2.left (2:Int))=(0:Int))),()))))
 else (some ((),(false,())))))
 else (some ((),(false,()))))
def S_Zbk:FSpec T:=⟨[.f (.v (.ref (.agg 8)))],[(.v .bool)],fun x=>Zbk x.1⟩
def E_Zbk:Env T:=⟨tab.find,cd,globs,flc,fun f ds=>match f with
    | _=>none,fun f=>match f with
    | _=>false⟩
def A_Zbk:Loc2 T:=⟨fun id=>match id with
    | _=>none,fun r=>match r with
    | _=>none,fun r=>match r with
    | _=>false⟩
theorem Zbk_eq (x:tySs T S_Zbk.ps):run E_Zbk A_Zbk (Tryd.f75.body.getD .skip) (enterT E_Zbk.C S_Zbk.ps x) (retK E_Zbk Tryd.f75.results.toList S_Zbk.ps S_Zbk.rs)=S_Zbk.fn x:=by kernel_rfl
theorem Zbk_env:EnvOk Tryd.prog E_Zbk:=envOk (E:=E_Zbk) cd_ok tys fl_ok fun f ds S h=>by cases h
theorem Zbk_ok:SoundT Tryd.prog cd gdn 75 S_Zbk:=
  sound_fn (E:=E_Zbk) (A:=A_Zbk) (done:=[]) (c:=(Tryd.f75.body.getD .skip)) (S:=S_Zbk) (fn:=Tryd.f75) hmix Zbk_env Tryd.func75 rfl (by kernel_rfl) (by kernel_rfl) done_nil (by kernel_rfl) (by kernel_rfl) Zbk_eq
def Zbj (a0:CborWalk) (a1:Int):Option ((Unit) × (Int × Unit)):=
 (bif (decide ((512:Int) ≤ a0.count)) then (some ((),((8:Int),())))
 else (bif (decide (a1 < (1:Int))) then (some ((),((3:Int),())))
 else (bif (decide ((8:Int) < a1)) then (some ((),((3:Int),())))
 else ((Zbk a0).bind fun r1=>(bif r1.2.1 then (bif (!decide (a1=(1:Int))) then (bif (!decide (a1=(2:Int))) then (bif (!decide (a1=(4:Int))) then (some ((),((3:Int),())))
 else (bif (decide ((8:Int) < ((a0.open_).length:Int))) then (some ((),((5:Int),())))
 else (some ((),((0:Int),())))))
 else (bif (decide ((8:Int) < ((a0.open_).length:Int))) then (some ((),((5:Int),())))
 else (some ((),((0:Int),())))))
 else (bif (decide ((8:Int) < ((a0.open_).length:Int))) then (some ((),((5:Int),())))
 else (some ((),((0:Int),())))))
 else (bif (decide ((8:Int) < ((a0.open_).length:Int))) then (some ((),((5:Int),())))
 else (some ((),((0:Int),())))))))))
def S_Zbj:FSpec T:=⟨[.f (.v (.ref (.agg 8))),.f (.v (.int .i64))],[(.v (.int .i64))],fun x=>Zbj x.1 x.2.1⟩
def E_Zbj:Env T:=⟨tab.find,cd,globs,flc,fun f ds=>match f with
    | 75=>some S_Zbk
    | _=>none,fun f=>match f with
    | 75=>true
    | _=>false⟩
def A_Zbj:Loc2 T:=⟨fun id=>match id with
    | _=>none,fun r=>match r with
    | _=>none,fun r=>match r with
    | _=>false⟩
theorem Zbj_eq (x:tySs T S_Zbj.ps):run E_Zbj A_Zbj (Tryd.f59.body.getD .skip) (enterT E_Zbj.C S_Zbj.ps x) (retK E_Zbj Tryd.f59.results.toList S_Zbj.ps S_Zbj.rs)=S_Zbj.fn x:=by kernel_rfl
theorem Zbj_env:EnvOk Tryd.prog E_Zbj:=envOk (E:=E_Zbj) cd_ok tys fl_ok fun f ds S h=>by
    dsimp only [E_Zbj] at h
    split at h
    · cases h; exact Zbk_ok
    · cases h
theorem Zbj_ok:SoundT Tryd.prog cd gdn 59 S_Zbj:=
  sound_fn (E:=E_Zbj) (A:=A_Zbj) (done:=[]) (c:=(Tryd.f59.body.getD .skip)) (S:=S_Zbj) (fn:=Tryd.f59) hmix Zbj_env Tryd.func59 rfl (by kernel_rfl) (by kernel_rfl) done_nil (by kernel_rfl) (by kernel_rfl) Zbj_eq
def Zce (a0:ApiItem):Option ((Unit) × (Bool × Unit)):=
 (bif (decide (a0.kind=(3:Int))) then (bif (decide (a0.kind=(3:Int))) then (some ((),((decide (a0.number=0#64)),())))
 else (bif (decide (a0.kind=(8:Int))) then (bif (decide (a0.number=0#64)) then (some ((),((decide (a0.data=([]:List UInt8))),())))
 else (some ((),(false,()))))
 else (bif (decide (a0.kind=(7:Int))) then (bif (decide (a0.number.toNat ≤ (1#64).toNat)) then (some ((),((decide (a0.data=([]:List UInt8))),())))
 else (some ((),(false,()))))
 else (some ((),((decide (a0.data=([]:List UInt8))),()))))))
 else (bif (decide (a0.kind=(4:Int))) then (some ((),((decide (a0.number=0#64)),())))
 else (bif (decide (a0.kind=(8:Int))) then (bif (decide (a0.number=0#64)) then (some ((),((decide (a0.data=([]:List UInt8))),())))
 else (some ((),(false,()))))
 else (bif (decide (a0.kind=(7:Int))) then (bif (decide (a0.number.toNat ≤ (1#64).toNat)) then (some ((),((decide (a0.data=([]:List UInt8))),())))
 else (some ((),(false,()))))
 else (some ((),((decide (a0.data=([]:List UInt8))),())))))))
def S_Zce:FSpec T:=⟨[.f (.v (.agg 1))],[(.v .bool)],fun x=>Zce x.1⟩
def E_Zce:Env T:=⟨tab.find,cd,globs,flc,fun f ds=>match f with
    | _=>none,fun f=>match f with
    | _=>false⟩
def A_Zce:Loc2 T:=⟨fun id=>match id with
    | _=>none,fun r=>match r with
    | _=>none,fun r=>match r with
    | _=>false⟩
theorem Zce_eq (x:tySs T S_Zce.ps):run E_Zce A_Zce (Tryd.f92.body.getD .skip) (enterT E_Zce.C S_Zce.ps x) (retK E_Zce Tryd.f92.results.toList S_Zce.ps S_Zce.rs)=S_Zce.fn x:=by kernel_rfl
theorem Zce_env:EnvOk Tryd.prog E_Zce:=envOk (E:=E_Zce) cd_ok tys fl_ok fun f ds S h=>by cases h
theorem Zce_ok:SoundT Tryd.prog cd gdn 92 S_Zce:=
  sound_fn (E:=E_Zce) (A:=A_Zce) (done:=[]) (c:=(Tryd.f92.body.getD .skip)) (S:=S_Zce) (fn:=Tryd.f92) hmix Zce_env Tryd.func92 rfl (by kernel_rfl) (by kernel_rfl) done_nil (by kernel_rfl) (by kernel_rfl) Zce_eq
def Zbh_L1b (y0:(List (UInt8))) (y1:(BitVec 64)) (y2:Int):Option (((List (UInt8)) × (BitVec 64) × Int × Unit) ⊕ ((List (UInt8)) × Unit)):=
 (bif (decide ((0:Int) ≤ y2)) then (bif decide ((0:Int) ≤ (IntKind.wrap .i64 ((8:Int) * y2))) then (let v7:UInt8:=(UInt8.ofBitVec (BitVec.setWidth 8 (y1 >>> ((IntKind.wrap .i64 ((8:Int) * y2))).toNat)))
 (bif small ((y0).length + (([v7]:List (UInt8)):List (UInt8)).length) 1 then (some (Sum.inl ((y0 ++ ([v7]:List (UInt8))),y1,(IntKind.wrap .i64 (y2 - (1:Int))),())))
 else none))
 else none)
 else (some (Sum.inr (y0,()))))
def Zbh_L1 (y:((List (UInt8)) × (BitVec 64) × Int × Unit)):Option ((List (UInt8)) × Unit):=iter (fun (y:((List (UInt8)) × (BitVec 64) × Int × Unit))=>Zbh_L1b y.1 y.2.1 y.2.2.1) rounds y
def Zbh (a0:(List (UInt8))) (a1:UInt8) (a2:(BitVec 64)):Option ((Unit) × ((List (UInt8)) × Unit)):=
 ((bif (decide (a2.toNat < (24#64).toNat)) then (let v1:UInt8:=(UInt8.ofBitVec ((UInt8.ofBitVec (a1.toBitVec <<< 5)).toBitVec + (UInt8.ofBitVec (BitVec.setWidth 8 a2)).toBitVec))
 (bif small ((a0).length + (([v1]:List (UInt8)):List (UInt8)).length) 1 then (((some ((),((a0 ++ ([v1]:List (UInt8))),())))).bind fun q=>some (Sum.inr q))
 else none))
 else (bif (decide (a2.toNat < (256#64).toNat)) then (let v2:UInt8:=(UInt8.ofBitVec ((UInt8.ofBitVec (a1.toBitVec <<< 5)).toBitVec + (24:UInt8).toBitVec))
 (some (Sum.inl (a0,a2,v2,(1:Int),()))))
 else (bif (decide (a2.toNat < (65536#64).toNat)) then (let v3:UInt8:=(UInt8.ofBitVec ((UInt8.ofBitVec (a1.toBitVec <<< 5)).toBitVec + (25:UInt8).toBitVec))
 (some (Sum.inl (a0,a2,v3,(2:Int),()))))
 else (bif (decide (a2.toNat < (4294967296#64).toNat)) then (let v4:UInt8:=(UInt8.ofBitVec ((UInt8.ofBitVec (a1.toBitVec <<< 5)).toBitVec + (26:UInt8).toBitVec))
 (some (Sum.inl (a0,a2,v4,(4:Int),()))))
 else (let v5:UInt8:=(UInt8.ofBitVec ((UInt8.ofBitVec (a1.toBitVec <<< 5)).toBitVec + (27:UInt8).toBitVec))
 (some (Sum.inl (a0,a2,v5,(8:Int),())))))))).bind (Sum.elim (fun (j6:((List (UInt8)) × (BitVec 64) × UInt8 × Int × Unit))=>(bif small ((j6.1).length + (([j6.2.2.1]:List (UInt8)):List (UInt8)).length) 1 then ((Zbh_L1 ((j6.1 ++ ([j6.2.2.1]:List (UInt8))),j6.2.1,(IntKind.wrap .i64 (j6.2.2.2.1 - (1:Int))),())).bind (fun (z8:((List (UInt8)) × Unit))=>(some ((),(z8.1,())))))
 else none)) some))
def S_Zbh:FSpec T:=⟨[.f (.own 0),.f (.v .u8),.f (.v .u64)],[(.own 0)],fun x=>Zbh x.1 x.2.1 x.2.2.1⟩
def E_Zbh:Env T:=⟨tab.find,cd,globs,flc,fun f ds=>match f with
    | _=>none,fun f=>match f with
    | _=>false⟩
def A_Zbh:Loc2 T:=⟨fun id=>match id with
    | 1=>some ⟨[(0,.f (.own 0)),(2,.f (.v .u64)),(9,.f (.v (.int .i64)))],[(.exit 1,[(0,.f (.own 0))])],Zbh_L1,[]⟩
    | _=>none,fun r=>match r with
    | 12=>some ([(0,.f (.own 0)),(2,.f (.v .u64)),(7,.f (.v .u8)),(8,.f (.v (.int .i64)))],false)
    | _=>none,fun r=>match r with
    | _=>false⟩
theorem Zbh_L1_eq (y0:(List (UInt8))) (y1:(BitVec 64)) (y2:Int):run E_Zbh A_Zbh (loopAt 1 (Tryd.f70.body.getD .skip)) (layC cd [(0,.f (.own 0)),(2,.f (.v .u64)),(9,.f (.v (.int .i64)))] [] (y0,y1,y2,())) (roundK cd [(0,.f (.own 0)),(2,.f (.v .u64)),(9,.f (.v (.int .i64)))] [] [(.exit 1,[(0,.f (.own 0))])])=Zbh_L1b y0 y1 y2:=by kernel_rfl
theorem Zbh_eq (x:tySs T S_Zbh.ps):run E_Zbh A_Zbh (Tryd.f70.body.getD .skip) (enterT E_Zbh.C S_Zbh.ps x) (retK E_Zbh Tryd.f70.results.toList S_Zbh.ps S_Zbh.rs)=S_Zbh.fn x:=by kernel_rfl
theorem Zbh_env:EnvOk Tryd.prog E_Zbh:=envOk (E:=E_Zbh) cd_ok tys fl_ok fun f ds S h=>by cases h
theorem Zbh_L1_ok:LoopOk Tryd.prog E_Zbh Tryd.f70.ntmps (kqOf S_Zbh.ps 0) (loopAt 1 (Tryd.f70.body.getD .skip)) ⟨[(0,.f (.own 0)),(2,.f (.v .u64)),(9,.f (.v (.int .i64)))],[(.exit 1,[(0,.f (.own 0))])],Zbh_L1,[]⟩:=
  loop_ok (A:=A_Zbh) (done:=[]) (c0:=(Tryd.f70.body.getD .skip)) hmix Zbh_env done_nil rounds (by kernel_rfl) (by kernel_rfl) (fun x=>Zbh_L1_eq x.1 x.2.1 x.2.2.1) (fun _=>rfl)
theorem Zbh_ok:SoundT Tryd.prog cd gdn 70 S_Zbh:=
  sound_fn (E:=E_Zbh) (A:=A_Zbh) (done:=[1]) (c:=(Tryd.f70.body.getD .skip)) (S:=S_Zbh) (fn:=Tryd.f70) hmix Zbh_env Tryd.func70 rfl (by kernel_rfl) (by kernel_rfl) (done_cons rfl Zbh_L1_ok done_nil) (by kernel_rfl) (by kernel_rfl) Zbh_eq
def Zbi (a0:(List (UInt8))) (a1:ApiItem):Option ((Unit) × ((List (UInt8)) × Unit)):=
 (bif (decide (a1.kind=(7:Int))) then (let v1:UInt8:=(UInt8.ofBitVec ((244:UInt8).toBitVec + (UInt8.ofBitVec (BitVec.setWidth 8 a1.number)).toBitVec))
 (bif small ((a0).length + (([v1]:List (UInt8)):List (UInt8)).length) 1 then (some ((),((a0 ++ ([v1]:List (UInt8))),())))
 else none))
 else (bif (decide (a1.kind=(8:Int))) then (bif small ((a0).length + (([(246:UInt8)]:List (UInt8)):List (UInt8)).length) 1 then (some ((),((a0 ++ ([(246:UInt8)]:List (UInt8))),())))
 else none)
 else (bif (decide (a1.kind=(3:Int))) then (bif (decide (a1.kind=(3:Int))) then (let v2:UInt8:=(UInt8.ofBitVec (BitVec.ofInt 8 (IntKind.wrap .i64 (a1.kind - (1:Int)))))
 ((Zbh a0 v2 (BitVec.ofInt 64 ((a1.data).length:Int))).bind fun r3=>(bif small ((r3.2.1).length + (a1.data:List (UInt8)).length) 1 then (some ((),((r3.2.1 ++ a1.data),())))
 else none)))
 else (let v4:UInt8:=(UInt8.ofBitVec (BitVec.ofInt 8 (IntKind.wrap .i64 (a1.kind - (1:Int)))))
 ((Zbh a0 v4 a1.number).bind fun r5=>(some ((),(r5.2.1,()))))))
 else (bif (decide (a1.kind=(4:Int))) then (let v6:UInt8:=(UInt8.ofBitVec (BitVec.ofInt 8 (IntKind.wrap .i64 (a1.kind - (1:Int)))))
 ((Zbh a0 v6 (BitVec.ofInt 64 ((a1.data).length:Int))).bind fun r7=>(bif small ((r7.2.1).length + (a1.data:List (UInt8)).length) 1 then (some ((),((r7.2.1 ++ a1.data),())))
 else none)))
 else (let v8:UInt8:=(UInt8.ofBitVec (BitVec.ofInt 8 (IntKind.wrap .i64 (a1.kind - (1:Int)))))
 ((Zbh a0 v8 a1.number).bind fun r9=>(some ((),(r9.2.1,())))))))))
def S_Zbi:FSpec T:=⟨[.f (.own 0),.f (.v (.agg 1))],[(.own 0)],fun x=>Zbi x.1 x.2.1⟩
def E_Zbi:Env T:=⟨tab.find,cd,globs,flc,fun f ds=>match f with
    | 70=>some S_Zbh
    | _=>none,fun f=>match f with
    | _=>false⟩
def A_Zbi:Loc2 T:=⟨fun id=>match id with
    | _=>none,fun r=>match r with
    | _=>none,fun r=>match r with
    | _=>false⟩
theorem Zbi_eq (x:tySs T S_Zbi.ps):run E_Zbi A_Zbi (Tryd.f53.body.getD .skip) (enterT E_Zbi.C S_Zbi.ps x) (retK E_Zbi Tryd.f53.results.toList S_Zbi.ps S_Zbi.rs)=S_Zbi.fn x:=by kernel_rfl
theorem Zbi_env:EnvOk Tryd.prog E_Zbi:=envOk (E:=E_Zbi) cd_ok tys fl_ok fun f ds S h=>by
    dsimp only [E_Zbi] at h
    split at h
    · cases h; exact Zbh_ok
    · cases h
theorem Zbi_ok:SoundT Tryd.prog cd gdn 53 S_Zbi:=
  sound_fn (E:=E_Zbi) (A:=A_Zbi) (done:=[]) (c:=(Tryd.f53.body.getD .skip)) (S:=S_Zbi) (fn:=Tryd.f53) hmix Zbi_env Tryd.func53 rfl (by kernel_rfl) (by kernel_rfl) done_nil (by kernel_rfl) (by kernel_rfl) Zbi_eq
def Zbw (a0:(List (UInt8))) (a1:(List (UInt8))):Option ((Unit) × (Bool × Unit)):=
 (bif (!decide (((a0).length:Int)=((a1).length:Int))) then (some ((),((decide (((a0).length:Int) < ((a1).length:Int))),())))
 else ((Zbp a0 a1).bind fun r1=>(some ((),((decide (r1.2.1 < (0:Int))),())))))
def S_Zbw:FSpec T:=⟨[.f (.v (.rs 0)),.f (.v (.rs 0))],[(.v .bool)],fun x=>Zbw x.1 x.2.1⟩
def E_Zbw:Env T:=⟨tab.find,cd,globs,flc,fun f ds=>match f with
    | 94=>some S_Zbp
    | _=>none,fun f=>match f with
    | 94=>true
    | _=>false⟩
def A_Zbw:Loc2 T:=⟨fun id=>match id with
    | _=>none,fun r=>match r with
    | _=>none,fun r=>match r with
    | _=>false⟩
theorem Zbw_eq (x:tySs T S_Zbw.ps):run E_Zbw A_Zbw (Tryd.f76.body.getD .skip) (enterT E_Zbw.C S_Zbw.ps x) (retK E_Zbw Tryd.f76.results.toList S_Zbw.ps S_Zbw.rs)=S_Zbw.fn x:=by kernel_rfl
theorem Zbw_env:EnvOk Tryd.prog E_Zbw:=envOk (E:=E_Zbw) cd_ok tys fl_ok fun f ds S h=>by
    dsimp only [E_Zbw] at h
    split at h
    · cases h; exact Zbp_ok
    · cases h
theorem Zbw_ok:SoundT Tryd.prog cd gdn 76 S_Zbw:=
  sound_fn (E:=E_Zbw) (A:=A_Zbw) (done:=[]) (c:=(Tryd.f76.body.getD .skip)) (S:=S_Zbw) (fn:=Tryd.f76) hmix Zbw_env Tryd.func76 rfl (by kernel_rfl) (by kernel_rfl) done_nil (by kernel_rfl) (by kernel_rfl) Zbw_eq
def Zbn_L0b (y0:((List (CborFrame)) × Int × Unit)) (y1:Int):Option ((((List (CborFrame)) × Int × Unit) × Int × Unit) ⊕ (((List (CborFrame)) × Int × Unit) × Unit)):=
 (bif (decide ((0:Int) < y1)) then (bif (decide ((0:Int) ≤ (IntKind.wrap .i64 (y1 - (1:Int)))) && decide ((IntKind.wrap .i64 (y1 - (1:Int))) < ((y0.1).length:Int))) then (((y0.1)[((IntKind.wrap .i64 (y1 - (1:Int)))).toNat]?).bind fun x10=>(bif (decide (x10.left=(0:Int))) then (bif (decide ((0:Int) ≤ (IntKind.wrap .i64 (y1 - (1:Int)))) && decide ((IntKind.wrap .i64 (y1 - (1:Int))) ≤ ((y0.1).length:Int))) then (bif decide (((IntKind.wrap .i64 (y1 - (1:Int)))).toNat ≤ (y0.1).length) then (some (Sum.inl (((List.take ((IntKind.wrap .i64 (y1 - (1:Int)))).toNat y0.1),y0.2.1,()),(IntKind.wrap .i64 (y1 - (1:Int))),())))
 else none)
 else none)
 else (some (Sum.inr ((y0.1,y0.2.1,()),())))))
 else none)
 else (some (Sum.inr ((y0.1,y0.2.1,()),()))))
def Zbn_L0 (y:(((List (CborFrame)) × Int × Unit) × Int × Unit)):Option (((List (CborFrame)) × Int × Unit) × Unit):=iter (fun (y:(((List (CborFrame)) × Int × Unit) × Int × Unit))=>Zbn_L0b y.1 y.2.1) rounds y
def Zbn (a0:((List (CborFrame)) × Int × Unit)) (a1:ApiItem):Option ((((List (CborFrame)) × Int × Unit) × Unit) × (Unit)):=
 ((bif (decide ((0:Int) < ((a0.1).length:Int))) then (bif (decide ((0:Int) ≤ (IntKind.wrap .i64 (((a0.1).length:Int) - (1:Int)))) && decide ((IntKind.wrap .i64 (((a0.1).length:Int) - (1:Int))) < ((a0.1).length:Int))) then (((a0.1)[((IntKind.wrap .i64 (((a0.1).length:Int) - (1:Int)))).toNat]?).bind fun x1=>(bif (decide ((0:Int) ≤ (IntKind.wrap .i64 (((a0.1).length:Int) - (1:Int)))) && decide ((IntKind.wrap .i64 (((a0.1).length:Int) - (1:Int))) < ((a0.1).length:Int))) then (((a0.1)[((IntKind.wrap .i64 (((a0.1).length:Int) - (1:Int)))).toNat]?).bind fun x2=>(let v3:List (CborFrame):=(List.set a0.1 ((IntKind.wrap .i64 (((a0.1).length:Int) - (1:Int)))).toNat (⟨x2.pairs,(IntKind.wrap .i64 (x1.left - (1:Int))),x2.last_⟩:CborFrame))
 (some ((v3,(IntKind.wrap .i64 (a0.2.1 + (1:Int))),()),(a1,()),()))))
 else none))
 else none)
 else (some ((a0.1,(IntKind.wrap .i64 (a0.2.1 + (1:Int))),()),(a1,()),()))).bind (fun (j4:(((List (CborFrame)) × Int × Unit) × (ApiItem × Unit) × Unit))=>((bif (decide (j4.2.1.1.kind=(5:Int))) then (bif (decide ((0#64).toNat < j4.2.1.1.number.toNat)) then (let v5:List (CborFrame):=([(⟨false,(IntKind.wrap .i64 (j4.2.1.1.number.toNat:Int)),[]⟩:CborFrame)]:List (CborFrame))
 (bif small ((j4.1.1).length + (v5:List (CborFrame)).length) 40 then (some (((j4.1.1 ++ v5),j4.1.2.1,()),(j4.2.1.1,()),()))
 else none))
 else (some ((j4.1.1,j4.1.2.1,()),(j4.2.1.1,()),())))
 else (some ((j4.1.1,j4.1.2.1,()),(j4.2.1.1,()),()))).bind (fun (j6:(((List (CborFrame)) × Int × Unit) × (ApiItem × Unit) × Unit))=>((bif (decide (j6.2.1.1.kind=(6:Int))) then (bif (decide ((0#64).toNat < j6.2.1.1.number.toNat)) then (let v7:Int:=(IntKind.wrap .i64 ((2:Int) * (IntKind.wrap .i64 (j6.2.1.1.number.toNat:Int))))
 (bif small ((j6.1.1).length + (([(⟨true,v7,[]⟩:CborFrame)]:List (CborFrame)):List (CborFrame)).length) 40 then (let v8:List (CborFrame):=(j6.1.1 ++ ([(⟨true,v7,[]⟩:CborFrame)]:List (CborFrame)))
 (some ((v8,j6.1.2.1,()),())))
 else none))
 else (some ((j6.1.1,j6.1.2.1,()),())))
 else (some ((j6.1.1,j6.1.2.1,()),()))).bind (fun (j9:(((List (CborFrame)) × Int × Unit) × Unit))=>((Zbn_L0 ((j9.1.1,j9.1.2.1,()),((j9.1.1).length:Int),())).bind (fun (z11:(((List (CborFrame)) × Int × Unit) × Unit))=>(some (((z11.1.1,z11.1.2.1,()),()),()))))))))))
def S_Zbn:FSpec T:=⟨[.ptr [(.own 7),(.v (.int .i64))],.f (.v (.agg 1))],[],fun x=>Zbn x.1 x.2.1⟩
def E_Zbn:Env T:=⟨tab.find,cd,globs,flc,fun f ds=>match f with
    | _=>none,fun f=>match f with
    | _=>false⟩
def A_Zbn:Loc2 T:=⟨fun id=>match id with
    | 0=>some ⟨[(0,.ptr [(.own 7),(.v (.int .i64))]),(5,.f (.v (.int .i64)))],[(.exit 0,[(0,.ptr [(.own 7),(.v (.int .i64))])])],Zbn_L0,[]⟩
    | _=>none,fun r=>match r with
    | 5=>some ([(0,.ptr [(.own 7),(.v (.int .i64))]),(3,.ptr [(.v (.agg 1))])],true)
    | 7=>some ([(0,.ptr [(.own 7),(.v (.int .i64))]),(3,.ptr [(.v (.agg 1))])],true)
    | 9=>some ([(0,.ptr [(.own 7),(.v (.int .i64))])],true)
    | _=>none,fun r=>match r with
    | 6=>true
    | 8=>true
    | _=>false⟩
theorem Zbn_L0_eq (y0:((List (CborFrame)) × Int × Unit)) (y1:Int):run E_Zbn A_Zbn (loopAt 0 (Tryd.f77.body.getD .skip)) (layC cd [(0,.ptr [(.own 7),(.v (.int .i64))]),(5,.f (.v (.int .i64)))] [] (y0,y1,())) (roundK cd [(0,.ptr [(.own 7),(.v (.int .i64))]),(5,.f (.v (.int .i64)))] [] [(.exit 0,[(0,.ptr [(.own 7),(.v (.int .i64))])])])=Zbn_L0b y0 y1:=by kernel_rfl
theorem Zbn_eq (x:tySs T S_Zbn.ps):run E_Zbn A_Zbn (Tryd.f77.body.getD .skip) (enterT E_Zbn.C S_Zbn.ps x) (retK E_Zbn Tryd.f77.results.toList S_Zbn.ps S_Zbn.rs)=S_Zbn.fn x:=by kernel_rfl
theorem Zbn_env:EnvOk Tryd.prog E_Zbn:=envOk (E:=E_Zbn) cd_ok tys fl_ok fun f ds S h=>by cases h
theorem Zbn_L0_ok:LoopOk Tryd.prog E_Zbn Tryd.f77.ntmps (kqOf S_Zbn.ps 0) (loopAt 0 (Tryd.f77.body.getD .skip)) ⟨[(0,.ptr [(.own 7),(.v (.int .i64))]),(5,.f (.v (.int .i64)))],[(.exit 0,[(0,.ptr [(.own 7),(.v (.int .i64))])])],Zbn_L0,[]⟩:=
  loop_ok (A:=A_Zbn) (done:=[]) (c0:=(Tryd.f77.body.getD .skip)) hmix Zbn_env done_nil rounds (by kernel_rfl) (by kernel_rfl) (fun x=>Zbn_L0_eq x.1 x.2.1) (fun _=>rfl)
theorem Zbn_ok:SoundT Tryd.prog cd gdn 77 S_Zbn:=
  sound_fn (E:=E_Zbn) (A:=A_Zbn) (done:=[0]) (c:=(Tryd.f77.body.getD .skip)) (S:=S_Zbn) (fn:=Tryd.f77) hmix Zbn_env Tryd.func77 rfl (by kernel_rfl) (by kernel_rfl) (done_cons rfl Zbn_L0_ok done_nil) (by kernel_rfl) (by kernel_rfl) Zbn_eq
def Zay (a0:((List (CborFrame)) × Int × Unit)) (a1:ApiItem):Option ((((List (CborFrame)) × Int × Unit) × Unit) × (Int × Unit)):=
 (bif (decide (a1.kind=(4:Int))) then ((Zbf a1.data).bind fun r1=>(bif (!r1.2.1) then (some (((a0.1,a0.2.1,()),()),((6:Int),())))
 else ((Zbk (⟨a0.1,a0.2.1⟩:CborWalk)).bind fun r2=>(bif r2.2.1 then (bif (decide ((0:Int) ≤ (IntKind.wrap .i64 (((a0.1).length:Int) - (1:Int)))) && decide ((IntKind.wrap .i64 (((a0.1).length:Int) - (1:Int))) < ((a0.1).length:Int))) then ((Zbi [] a1).bind fun r3=>(((a0.1)[((IntKind.wrap .i64 (((a0.1).length:Int) - (1:Int)))).toNat]?).bind fun x4=>(bif (!(x4.last_).isEmpty) then (((a0.1)[((IntKind.wrap .i64 (((a0.1).length:Int) - (1:Int)))).toNat]?).bind fun x5=>((Zbw x5.last_ r3.2.1).bind fun r6=>(bif (!r6.2.1) then (some (((a0.1,a0.2.1,()),()),((7:Int),())))
 else (((a0.1)[((IntKind.wrap .i64 (((a0.1).length:Int) - (1:Int)))).toNat]?).bind fun x7=>(bif (r3.2.1).isEmpty then none
 else (let v8:List (CborFrame):=(List.set a0.1 ((IntKind.wrap .i64 (((a0.1).length:Int) - (1:Int)))).toNat (⟨x7.pairs,x7.left,r3.2.1⟩:CborFrame))
 ((Zbn (v8,a0.2.1,()) a1).bind fun r9=>(some (((r9.1.1.1,r9.1.1.2.1,()),()),((0:Int),()))))))))))
 else (((a0.1)[((IntKind.wrap .i64 (((a0.1).length:Int) - (1:Int)))).toNat]?).bind fun x10=>(bif (r3.2.1).isEmpty then none
 else (let v11:List (CborFrame):=(List.set a0.1 ((IntKind.wrap .i64 (((a0.1).length:Int) - (1:Int)))).toNat (⟨x10.pairs,x10.left,r3.2.1⟩:CborFrame))
 ((Zbn (v11,a0.2.1,()) a1).bind fun r12=>(some (((r12.1.1.1,r12.1.1.2.1,()),()),((0:Int),()))))))))))
 else none)
 else ((Zbn (a0.1,a0.2.1,()) a1).bind fun r13=>(some (((r13.1.1.1,r13.1.1.2.1,()),()),((0:Int),()))))))))
 else ((Zbk (⟨a0.1,a0.2.1⟩:CborWalk)).bind fun r14=>(bif r14.2.1 then (bif (decide ((0:Int) ≤ (IntKind.wrap .i64 (((a0.1).length:Int) - (1:Int)))) && decide ((IntKind.wrap .i64 (((a0.1).length:Int) - (1:Int))) < ((a0.1).length:Int))) then ((Zbi [] a1).bind fun r15=>(((a0.1)[((IntKind.wrap .i64 (((a0.1).length:Int) - (1:Int)))).toNat]?).bind fun x16=>(bif (!(x16.last_).isEmpty) then (((a0.1)[((IntKind.wrap .i64 (((a0.1).length:Int) - (1:Int)))).toNat]?).bind fun x17=>((Zbw x17.last_ r15.2.1).bind fun r18=>(bif (!r18.2.1) then (some (((a0.1,a0.2.1,()),()),((7:Int),())))
 else (((a0.1)[((IntKind.wrap .i64 (((a0.1).length:Int) - (1:Int)))).toNat]?).bind fun x19=>(bif (r15.2.1).isEmpty then none
 else (let v20:List (CborFrame):=(List.set a0.1 ((IntKind.wrap .i64 (((a0.1).length:Int) - (1:Int)))).toNat (⟨x19.pairs,x19.left,r15.2.1⟩:CborFrame))
 ((Zbn (v20,a0.2.1,()) a1).bind fun r21=>(some (((r21.1.1.1,r21.1.1.2.1,()),()),((0:Int),()))))))))))
 else (((a0.1)[((IntKind.wrap .i64 (((a0.1).length:Int) - (1:Int)))).toNat]?).bind fun x22=>(bif (r15.2.1).isEmpty then none
 else (let v23:List (CborFrame):=(List.set a0.1 ((IntKind.wrap .i64 (((a0.1).length:Int) - (1:Int)))).toNat (⟨x22.pairs,x22.left,r15.2.1⟩:CborFrame))
 ((Zbn (v23,a0.2.1,()) a1).bind fun r24=>(some (((r24.1.1.1,r24.1.1.2.1,()),()),((0:Int),()))))))))))
 else none)
 else ((Zbn (a0.1,a0.2.1,()) a1).bind fun r25=>(some (((r25.1.1.1,r25.1.1.2.1,()),()),((0:Int),())))))))
def S_Zay:FSpec T:=⟨[.ptr [(.own 7),(.v (.int .i64))],.f (.v (.agg 1))],[(.v (.int .i64))],fun x=>Zay x.1 x.2.1⟩
def E_Zay:Env T:=⟨tab.find,cd,globs,flc,fun f ds=>match f with
    | 35=>some S_Zbf
    | 53=>some S_Zbi
    | 75=>some S_Zbk
    | 76=>some S_Zbw
    | 77=>some S_Zbn
    | _=>none,fun f=>match f with
    | 35=>true
    | 75=>true
    | 76=>true
    | _=>false⟩
def A_Zay:Loc2 T:=⟨fun id=>match id with
    | _=>none,fun r=>match r with
    | _=>none,fun r=>match r with
    | _=>false⟩
theorem Zay_eq (x:tySs T S_Zay.ps):run E_Zay A_Zay (Tryd.f60.body.getD .skip) (enterT E_Zay.C S_Zay.ps x) (retK E_Zay Tryd.f60.results.toList S_Zay.ps S_Zay.rs)=S_Zay.fn x:=by kernel_rfl
theorem Zay_env:EnvOk Tryd.prog E_Zay:=envOk (E:=E_Zay) cd_ok tys fl_ok fun f ds S h=>by
    dsimp only [E_Zay] at h
    split at h
    · cases h; exact Zbf_ok
    · cases h; exact Zbi_ok
    · cases h; exact Zbk_ok
    · cases h; exact Zbw_ok
    · cases h; exact Zbn_ok
    · cases h
theorem Zay_ok:SoundT Tryd.prog cd gdn 60 S_Zay:=
  sound_fn (E:=E_Zay) (A:=A_Zay) (done:=[]) (c:=(Tryd.f60.body.getD .skip)) (S:=S_Zay) (fn:=Tryd.f60) hmix Zay_env Tryd.func60 rfl (by kernel_rfl) (by kernel_rfl) done_nil (by kernel_rfl) (by kernel_rfl) Zay_eq
def Zar (a0:((List (CborFrame)) × Int × Unit)) (a1:ApiItem):Option ((((List (CborFrame)) × Int × Unit) × Unit) × (Int × Unit)):=
 ((Zbm (⟨a0.1,a0.2.1⟩:CborWalk)).bind fun r1=>(bif r1.2.1 then (some (((a0.1,a0.2.1,()),()),((2:Int),())))
 else ((Zbj (⟨a0.1,a0.2.1⟩:CborWalk) a1.kind).bind fun r2=>(bif (!decide (r2.2.1=(0:Int))) then (some (((a0.1,a0.2.1,()),()),(r2.2.1,())))
 else ((Zce a1).bind fun r3=>(bif (!r3.2.1) then (some (((a0.1,a0.2.1,()),()),((4:Int),())))
 else (bif (decide ((1024:Int) < ((a1.data).length:Int))) then (some (((a0.1,a0.2.1,()),()),((8:Int),())))
 else (bif (decide (a1.kind=(5:Int))) then (bif (decide ((512#64).toNat < a1.number.toNat)) then (some (((a0.1,a0.2.1,()),()),((8:Int),())))
 else ((Zay (a0.1,a0.2.1,()) a1).bind fun r4=>(some (((r4.1.1.1,r4.1.1.2.1,()),()),(r4.2.1,())))))
 else (bif (decide (a1.kind=(6:Int))) then (bif (decide ((512#64).toNat < a1.number.toNat)) then (some (((a0.1,a0.2.1,()),()),((8:Int),())))
 else ((Zay (a0.1,a0.2.1,()) a1).bind fun r5=>(some (((r5.1.1.1,r5.1.1.2.1,()),()),(r5.2.1,())))))
 else ((Zay (a0.1,a0.2.1,()) a1).bind fun r6=>(some (((r6.1.1.1,r6.1.1.2.1,()),()),(r6.2.1,())))))))))))))
def S_Zar:FSpec T:=⟨[.ptr [(.own 7),(.v (.int .i64))],.f (.v (.agg 1))],[(.v (.int .i64))],fun x=>Zar x.1 x.2.1⟩
def E_Zar:Env T:=⟨tab.find,cd,globs,flc,fun f ds=>match f with
    | 36=>some S_Zbm
    | 59=>some S_Zbj
    | 60=>some S_Zay
    | 92=>some S_Zce
    | _=>none,fun f=>match f with
    | 36=>true
    | 59=>true
    | 92=>true
    | _=>false⟩
def A_Zar:Loc2 T:=⟨fun id=>match id with
    | _=>none,fun r=>match r with
    | _=>none,fun r=>match r with
    | _=>false⟩
theorem Zar_eq (x:tySs T S_Zar.ps):run E_Zar A_Zar (Tryd.f69.body.getD .skip) (enterT E_Zar.C S_Zar.ps x) (retK E_Zar Tryd.f69.results.toList S_Zar.ps S_Zar.rs)=S_Zar.fn x:=by kernel_rfl
theorem Zar_env:EnvOk Tryd.prog E_Zar:=envOk (E:=E_Zar) cd_ok tys fl_ok fun f ds S h=>by
    dsimp only [E_Zar] at h
    split at h
    · cases h; exact Zbm_ok
    · cases h; exact Zbj_ok
    · cases h; exact Zay_ok
    · cases h; exact Zce_ok
    · cases h
theorem Zar_ok:SoundT Tryd.prog cd gdn 69 S_Zar:=
  sound_fn (E:=E_Zar) (A:=A_Zar) (done:=[]) (c:=(Tryd.f69.body.getD .skip)) (S:=S_Zar) (fn:=Tryd.f69) hmix Zar_env Tryd.func69 rfl (by kernel_rfl) (by kernel_rfl) done_nil (by kernel_rfl) (by kernel_rfl) Zar_eq
def Zbq_L0b (y0:((List (CborFrame)) × Int × Unit)) (y1:(List (ApiItem))) (y2:Int) (y3:Int):Option ((((List (CborFrame)) × Int × Unit) × (List (ApiItem)) × Int × Int × Unit) ⊕ ((Int × Unit) ⊕ (((List (CborFrame)) × Int × Unit) × Unit))):=
 (bif (decide (y3 < y2)) then ((getI y1 y3).bind fun x1=>((Zar (y0.1,y0.2.1,()) x1).bind fun r2=>(bif (!decide (r2.2.1=(0:Int))) then (some (Sum.inr (Sum.inl (r2.2.1,()))))
 else (some (Sum.inl ((r2.1.1.1,r2.1.1.2.1,()),y1,y2,(IntKind.wrap .i64 (y3 + (1:Int))),()))))))
 else (some (Sum.inr (Sum.inr ((y0.1,y0.2.1,()),())))))
def Zbq_L0 (y:(((List (CborFrame)) × Int × Unit) × (List (ApiItem)) × Int × Int × Unit)):Option ((Int × Unit) ⊕ (((List (CborFrame)) × Int × Unit) × Unit)):=iter (fun (y:(((List (CborFrame)) × Int × Unit) × (List (ApiItem)) × Int × Int × Unit))=>Zbq_L0b y.1 y.2.1 y.2.2.1 y.2.2.2.1) rounds y
def Zbq (a0:(List (ApiItem))):Option ((Unit) × (Int × Unit)):=
 ((Zbq_L0 (([],(0:Int),()),a0,((a0).length:Int),(0:Int),())).bind (Sum.elim (fun (z3:(Int × Unit))=>(some ((),(z3.1,())))) (fun (z4:(((List (CborFrame)) × Int × Unit) × Unit))=>((Zbm (⟨z4.1.1,z4.1.2.1⟩:CborWalk)).bind fun r5=>(bif (!r5.2.1) then (some ((),((1:Int),())))
 else (some ((),((0:Int),()))))))))
def S_Zbq:FSpec T:=⟨[.f (.v (.rs 1))],[(.v (.int .i64))],fun x=>Zbq x.1⟩
def E_Zbq:Env T:=⟨tab.find,cd,globs,flc,fun f ds=>match f with
    | 36=>some S_Zbm
    | 69=>some S_Zar
    | _=>none,fun f=>match f with
    | 36=>true
    | _=>false⟩
def A_Zbq:Loc2 T:=⟨fun id=>match id with
    | 0=>some ⟨[(3,.ptr [(.own 7),(.v (.int .i64))]),(7,.f (.v (.rs 1))),(8,.f (.v (.int .i64))),(9,.f (.v (.int .i64)))],[(.ret,[(2,.f (.v (.int .i64)))]),(.exit 0,[(3,.ptr [(.own 7),(.v (.int .i64))])])],Zbq_L0,[]⟩
    | _=>none,fun r=>match r with
    | _=>none,fun r=>match r with
    | _=>false⟩
theorem Zbq_L0_eq (y0:((List (CborFrame)) × Int × Unit)) (y1:(List (ApiItem))) (y2:Int) (y3:Int):run E_Zbq A_Zbq (loopAt 0 (Tryd.f52.body.getD .skip)) (layC cd [(3,.ptr [(.own 7),(.v (.int .i64))]),(7,.f (.v (.rs 1))),(8,.f (.v (.int .i64))),(9,.f (.v (.int .i64)))] [] (y0,y1,y2,y3,())) (roundK cd [(3,.ptr [(.own 7),(.v (.int .i64))]),(7,.f (.v (.rs 1))),(8,.f (.v (.int .i64))),(9,.f (.v (.int .i64)))] [] [(.ret,[(2,.f (.v (.int .i64)))]),(.exit 0,[(3,.ptr [(.own 7),(.v (.int .i64))])])])=Zbq_L0b y0 y1 y2 y3:=by kernel_rfl
theorem Zbq_eq (x:tySs T S_Zbq.ps):run E_Zbq A_Zbq (Tryd.f52.body.getD .skip) (enterT E_Zbq.C S_Zbq.ps x) (retK E_Zbq Tryd.f52.results.toList S_Zbq.ps S_Zbq.rs)=S_Zbq.fn x:=by kernel_rfl
theorem Zbq_env:EnvOk Tryd.prog E_Zbq:=envOk (E:=E_Zbq) cd_ok tys fl_ok fun f ds S h=>by
    dsimp only [E_Zbq] at h
    split at h
    · cases h; exact Zbm_ok
    · cases h; exact Zar_ok
    · cases h
theorem Zbq_L0_ok:LoopOk Tryd.prog E_Zbq Tryd.f52.ntmps (kqOf S_Zbq.ps 0) (loopAt 0 (Tryd.f52.body.getD .skip)) ⟨[(3,.ptr [(.own 7),(.v (.int .i64))]),(7,.f (.v (.rs 1))),(8,.f (.v (.int .i64))),(9,.f (.v (.int .i64)))],[(.ret,[(2,.f (.v (.int .i64)))]),(.exit 0,[(3,.ptr [(.own 7),(.v (.int .i64))])])],Zbq_L0,[]⟩:=
  loop_ok (A:=A_Zbq) (done:=[]) (c0:=(Tryd.f52.body.getD .skip)) hmix Zbq_env done_nil rounds (by kernel_rfl) (by kernel_rfl) (fun x=>Zbq_L0_eq x.1 x.2.1 x.2.2.1 x.2.2.2.1) (fun _=>rfl)
theorem Zbq_ok:SoundT Tryd.prog cd gdn 52 S_Zbq:=
  sound_fn (E:=E_Zbq) (A:=A_Zbq) (done:=[0]) (c:=(Tryd.f52.body.getD .skip)) (S:=S_Zbq) (fn:=Tryd.f52) hmix Zbq_env Tryd.func52 rfl (by kernel_rfl) (by kernel_rfl) (done_cons rfl Zbq_L0_ok done_nil) (by kernel_rfl) (by kernel_rfl) Zbq_eq
def Zcd_L0b (y0:(List (List ApiItem))) (y1:Int) (y2:Int):Option (((List (List ApiItem)) × Int × Int × Unit) ⊕ ((Int × Unit) ⊕ (Unit))):=
 (bif (decide (y2 < y1)) then ((getI y0 y2).bind fun x1=>((Zbq x1).bind fun r2=>(bif (!decide (r2.2.1=(0:Int))) then (some (Sum.inr (Sum.inl (r2.2.1,()))))
 else (some (Sum.inl (y0,y1,(IntKind.wrap .i64 (y2 + (1:Int))),()))))))
 else (some (Sum.inr (Sum.inr ()))))
def Zcd_L0 (y:((List (List ApiItem)) × Int × Int × Unit)):Option ((Int × Unit) ⊕ (Unit)):=iter (fun (y:((List (List ApiItem)) × Int × Int × Unit))=>Zcd_L0b y.1 y.2.1 y.2.2.1) rounds y
def Zcd (a0:(List (List ApiItem))):Option ((Unit) × (Int × Unit)):=
 ((Zcd_L0 (a0,((a0).length:Int),(0:Int),())).bind (Sum.elim (fun (z3:(Int × Unit))=>(some ((),(z3.1,())))) (fun (z4:(Unit))=>(some ((),((0:Int),()))))))
def S_Zcd:FSpec T:=⟨[.f (.v (.rs 5))],[(.v (.int .i64))],fun x=>Zcd x.1⟩
def E_Zcd:Env T:=⟨tab.find,cd,globs,flc,fun f ds=>match f with
    | 52=>some S_Zbq
    | _=>none,fun f=>match f with
    | 52=>true
    | _=>false⟩
def A_Zcd:Loc2 T:=⟨fun id=>match id with
    | 0=>some ⟨[(6,.f (.v (.rs 5))),(7,.f (.v (.int .i64))),(8,.f (.v (.int .i64)))],[(.ret,[(2,.f (.v (.int .i64)))]),(.exit 0,[])],Zcd_L0,[]⟩
    | _=>none,fun r=>match r with
    | _=>none,fun r=>match r with
    | _=>false⟩
theorem Zcd_L0_eq (y0:(List (List ApiItem))) (y1:Int) (y2:Int):run E_Zcd A_Zcd (loopAt 0 (Tryd.f50.body.getD .skip)) (layC cd [(6,.f (.v (.rs 5))),(7,.f (.v (.int .i64))),(8,.f (.v (.int .i64)))] [] (y0,y1,y2,())) (roundK cd [(6,.f (.v (.rs 5))),(7,.f (.v (.int .i64))),(8,.f (.v (.int .i64)))] [] [(.ret,[(2,.f (.v (.int .i64)))]),(.exit 0,[])])=Zcd_L0b y0 y1 y2:=by kernel_rfl
theorem Zcd_eq (x:tySs T S_Zcd.ps):run E_Zcd A_Zcd (Tryd.f50.body.getD .skip) (enterT E_Zcd.C S_Zcd.ps x) (retK E_Zcd Tryd.f50.results.toList S_Zcd.ps S_Zcd.rs)=S_Zcd.fn x:=by kernel_rfl
theorem Zcd_env:EnvOk Tryd.prog E_Zcd:=envOk (E:=E_Zcd) cd_ok tys fl_ok fun f ds S h=>by
    dsimp only [E_Zcd] at h
    split at h
    · cases h; exact Zbq_ok
    · cases h
theorem Zcd_L0_ok:LoopOk Tryd.prog E_Zcd Tryd.f50.ntmps (kqOf S_Zcd.ps 0) (loopAt 0 (Tryd.f50.body.getD .skip)) ⟨[(6,.f (.v (.rs 5))),(7,.f (.v (.int .i64))),(8,.f (.v (.int .i64)))],[(.ret,[(2,.f (.v (.int .i64)))]),(.exit 0,[])],Zcd_L0,[]⟩:=
  loop_ok (A:=A_Zcd) (done:=[]) (c0:=(Tryd.f50.body.getD .skip)) hmix Zcd_env done_nil rounds (by kernel_rfl) (by kernel_rfl) (fun x=>Zcd_L0_eq x.1 x.2.1 x.2.2.1) (fun _=>rfl)
theorem Zcd_ok:SoundT Tryd.prog cd gdn 50 S_Zcd:=
  sound_fn (E:=E_Zcd) (A:=A_Zcd) (done:=[0]) (c:=(Tryd.f50.body.getD .skip)) (S:=S_Zcd) (fn:=Tryd.f50) hmix Zcd_env Tryd.func50 rfl (by kernel_rfl) (by kernel_rfl) (done_cons rfl Zcd_L0_ok done_nil) (by kernel_rfl) (by kernel_rfl) Zcd_eq
def Zbv (a0:(List (ApiItem))):Option ((Unit) × ((List (ApiItem)) × Int × Unit)):=
 ((Zbq a0).bind fun r1=>(bif (!decide (r1.2.1=(0:Int))) then (some ((),([],r1.2.1,())))
 else (some ((),(a0,(0:Int),())))))
def S_Zbv:FSpec T:=⟨[.f (.v (.rs 1))],[(.v (.rs 1)),(.v (.int .i64))],fun x=>Zbv x.1⟩
def E_Zbv:Env T:=⟨tab.find,cd,globs,flc,fun f ds=>match f with
    | 52=>some S_Zbq
    | _=>none,fun f=>match f with
    | 52=>true
    | _=>false⟩
def A_Zbv:Loc2 T:=⟨fun id=>match id with
    | _=>none,fun r=>match r with
    | _=>none,fun r=>match r with
    | _=>false⟩
theorem Zbv_eq (x:tySs T S_Zbv.ps):run E_Zbv A_Zbv (Tryd.f51.body.getD .skip) (enterT E_Zbv.C S_Zbv.ps x) (retK E_Zbv Tryd.f51.results.toList S_Zbv.ps S_Zbv.rs)=S_Zbv.fn x:=by kernel_rfl
theorem Zbv_env:EnvOk Tryd.prog E_Zbv:=envOk (E:=E_Zbv) cd_ok tys fl_ok fun f ds S h=>by
    dsimp only [E_Zbv] at h
    split at h
    · cases h; exact Zbq_ok
    · cases h
theorem Zbv_ok:SoundT Tryd.prog cd gdn 51 S_Zbv:=
  sound_fn (E:=E_Zbv) (A:=A_Zbv) (done:=[]) (c:=(Tryd.f51.body.getD .skip)) (S:=S_Zbv) (fn:=Tryd.f51) hmix Zbv_env Tryd.func51 rfl (by kernel_rfl) (by kernel_rfl) done_nil (by kernel_rfl) (by kernel_rfl) Zbv_eq
def cbor_Map_L0b (y0:(List (List ApiItem))) (y1:(List (BitVec 64))) (y2:(List (Int))) (y3:Int) (y4:Int):Option (((List (List ApiItem)) × (List (BitVec 64)) × (List (Int)) × Int × Int × Unit) ⊕ ((List (List ApiItem)) × (List (BitVec 64)) × (List (Int)) × Unit)):=
 (bif (decide (y4 < y3)) then (bif (decide ((0:Int) ≤ y4) && decide (y4 < ((y2).length:Int))) then (((y2)[(y4).toNat]?).bind fun x2=>(some (Sum.inl (y0,y1,(List.set y2 (y4).toNat y4),y3,(IntKind.wrap .i64 (y4 + (1:Int))),()))))
 else none)
 else (some (Sum.inr (y0,y1,y2,()))))
def cbor_Map_L0 (y:((List (List ApiItem)) × (List (BitVec 64)) × (List (Int)) × Int × Int × Unit)):Option ((List (List ApiItem)) × (List (BitVec 64)) × (List (Int)) × Unit):=iter (fun (y:((List (List ApiItem)) × (List (BitVec 64)) × (List (Int)) × Int × Int × Unit))=>cbor_Map_L0b y.1 y.2.1 y.2.2.1 y.2.2.2.1 y.2.2.2.2.1) rounds y
def cbor_Map_L2b (y0:(List (List ApiItem))) (y1:(List (BitVec 64))) (y2:(List (Int))) (y3:Int):Option (((List (List ApiItem)) × (List (BitVec 64)) × (List (Int)) × Int × Unit) ⊕ (((List (ApiItem)) × Int × Unit) ⊕ ((List (List ApiItem)) × (List (BitVec 64)) × (List (Int)) × Unit))):=
 (bif (decide (y3 < ((y2).length:Int))) then (bif (decide ((0:Int) ≤ (IntKind.wrap .i64 (y3 - (1:Int)))) && decide ((IntKind.wrap .i64 (y3 - (1:Int))) < ((y2).length:Int))) then (((y2)[((IntKind.wrap .i64 (y3 - (1:Int)))).toNat]?).bind fun x5=>((getI y1 x5).bind fun x6=>(bif (decide ((0:Int) ≤ y3) && decide (y3 < ((y2).length:Int))) then (((y2)[(y3).toNat]?).bind fun x7=>((getI y1 x7).bind fun x8=>(bif (decide (x6=x8)) then (some (Sum.inr (Sum.inl ([],(10:Int),()))))
 else (some (Sum.inl (y0,y1,y2,(IntKind.wrap .i64 (y3 + (1:Int))),()))))))
 else none)))
 else none)
 else (some (Sum.inr (Sum.inr (y0,y1,y2,())))))
def cbor_Map_L2 (y:((List (List ApiItem)) × (List (BitVec 64)) × (List (Int)) × Int × Unit)):Option (((List (ApiItem)) × Int × Unit) ⊕ ((List (List ApiItem)) × (List (BitVec 64)) × (List (Int)) × Unit)):=iter (fun (y:((List (List ApiItem)) × (List (BitVec 64)) × (List (Int)) × Int × Unit))=>cbor_Map_L2b y.1 y.2.1 y.2.2.1 y.2.2.2.1) rounds y
def cbor_Map_L4b (y0:(List (List ApiItem))) (y1:(List (BitVec 64))) (y2:(List (ApiItem))) (y3:(List (Int))) (y4:Int) (y5:Int):Option (((List (List ApiItem)) × (List (BitVec 64)) × (List (ApiItem)) × (List (Int)) × Int × Int × Unit) ⊕ ((List (ApiItem)) × Unit)):=
 (bif (decide (y5 < y4)) then (bif (decide ((0:Int) ≤ y5) && decide (y5 < ((y3).length:Int))) then (((y3)[(y5).toNat]?).bind fun x13=>(bif (decide ((512:Int) < ((y2).length:Int))) then (some (Sum.inr (y2,())))
 else ((getI y1 x13).bind fun x14=>((Zcp x14).bind fun r15=>(bif small ((y2).length + (r15.2.1:List (ApiItem)).length) 32 then ((getI y0 x13).bind fun x16=>(bif small (((y2 ++ r15.2.1)).length + (x16:List (ApiItem)).length) 32 then (some (Sum.inl (y0,y1,((y2 ++ r15.2.1) ++ x16),y3,y4,(IntKind.wrap .i64 (y5 + (1:Int))),())))
 else none))
 else none)))))
 else none)
 else (some (Sum.inr (y2,()))))
def cbor_Map_L4 (y:((List (List ApiItem)) × (List (BitVec 64)) × (List (ApiItem)) × (List (Int)) × Int × Int × Unit)):Option ((List (ApiItem)) × Unit):=iter (fun (y:((List (List ApiItem)) × (List (BitVec 64)) × (List (ApiItem)) × (List (Int)) × Int × Int × Unit))=>cbor_Map_L4b y.1 y.2.1 y.2.2.1 y.2.2.2.1 y.2.2.2.2.1 y.2.2.2.2.2.1) rounds y
def cbor_Map (a0:(List (BitVec 64))) (a1:(List (List ApiItem))):Option ((Unit) × ((List (ApiItem)) × Int × Unit)):=
 (bif (!decide (((a0).length:Int)=((a1).length:Int))) then (some ((),([],(4:Int),())))
 else (bif (decide ((0:Int) ≤ ((a0).length:Int)) && (decide (((a0).length:Int) ≤ ((a0).length:Int)) && decide ((8:Int) * ((a0).length:Int) ≤ 281474976710656 ∧ ((a0).length:Int) ≤ 9223372036854775807))) then (let v1:List (Int):=(List.replicate (((a0).length:Int)).toNat (0:Int))
 ((cbor_Map_L0 (a1,a0,v1,((((a0).length:Int)).toNat:Int),(0:Int),())).bind (fun (z3:((List (List ApiItem)) × (List (BitVec 64)) × (List (Int)) × Unit))=>((Zae z3.2.2.1 (z3.2.1,())).bind fun r4=>((cbor_Map_L2 (z3.1,z3.2.1,r4.1.1,(1:Int),())).bind (Sum.elim (fun (z9:((List (ApiItem)) × Int × Unit))=>(some ((),(z9.1,z9.2.1,())))) (fun (z10:((List (List ApiItem)) × (List (BitVec 64)) × (List (Int)) × Unit))=>((Zcd z10.1).bind fun r11=>(bif (!decide (r11.2.1=(0:Int))) then (some ((),([],r11.2.1,())))
 else (let v12:List (ApiItem):=([(⟨(6:Int),(BitVec.ofInt 64 ((z10.2.1).length:Int)),([]:List UInt8)⟩:ApiItem)]:List (ApiItem))
 ((cbor_Map_L4 (z10.1,z10.2.1,v12,z10.2.2.1,((z10.2.2.1).length:Int),(0:Int),())).bind (fun (z17:((List (ApiItem)) × Unit))=>((Zbv z17.1).bind fun r18=>(some ((),(r18.2.1,r18.2.2.1,()))))))))))))))))
 else none))
def S_cbor_Map:FSpec T:=⟨[.f (.v (.rs 4)),.f (.v (.rs 5))],[(.v (.rs 1)),(.v (.int .i64))],fun x=>cbor_Map x.1 x.2.1⟩
def E_cbor_Map:Env T:=⟨tab.find,cd,globs,flc,fun f ds=>match f with
    | 25=>some S_Zcp
    | 47=>match fnAt ds 1 with
      | some 48=>some S_Zae
      | _=>none
    | 50=>some S_Zcd
    | 51=>some S_Zbv
    | _=>none,fun f=>match f with
    | 50=>true
    | _=>false⟩
def A_cbor_Map:Loc2 T:=⟨fun id=>match id with
    | 0=>some ⟨[(1,.f (.v (.rs 5))),(2,.f (.v (.ref (.rs 4)))),(6,.f (.own 6)),(22,.f (.v (.int .i64))),(23,.f (.v (.int .i64)))],[(.exit 0,[(1,.f (.v (.rs 5))),(2,.f (.v (.ref (.rs 4)))),(6,.f (.own 6))])],cbor_Map_L0,[]⟩
    | 2=>some ⟨[(1,.f (.v (.rs 5))),(2,.f (.v (.ref (.rs 4)))),(6,.f (.own 6)),(8,.f (.v (.int .i64)))],[(.ret,[(4,.f (.own 1)),(5,.f (.v (.int .i64)))]),(.exit 2,[(1,.f (.v (.rs 5))),(2,.f (.v (.ref (.rs 4)))),(6,.f (.own 6))])],cbor_Map_L2,[]⟩
    | 4=>some ⟨[(1,.f (.v (.rs 5))),(2,.f (.v (.ref (.rs 4)))),(10,.f (.own 1)),(66,.f (.own 6)),(67,.f (.v (.int .i64))),(68,.f (.v (.int .i64)))],[(.exit 4,[(10,.f (.own 1))])],cbor_Map_L4,[]⟩
    | _=>none,fun r=>match r with
    | _=>none,fun r=>match r with
    | _=>false⟩
theorem cbor_Map_L0_eq (y0:(List (List ApiItem))) (y1:(List (BitVec 64))) (y2:(List (Int))) (y3:Int) (y4:Int):run E_cbor_Map A_cbor_Map (loopAt 0 (Tryd.f22.body.getD .skip)) (layC cd [(1,.f (.v (.rs 5))),(2,.f (.v (.ref (.rs 4)))),(6,.f (.own 6)),(22,.f (.v (.int .i64))),(23,.f (.v (.int .i64)))] [] (y0,y1,y2,y3,y4,())) (roundK cd [(1,.f (.v (.rs 5))),(2,.f (.v (.ref (.rs 4)))),(6,.f (.own 6)),(22,.f (.v (.int .i64))),(23,.f (.v (.int .i64)))] [] [(.exit 0,[(1,.f (.v (.rs 5))),(2,.f (.v (.ref (.rs 4)))),(6,.f (.own 6))])])=cbor_Map_L0b y0 y1 y2 y3 y4:=by kernel_rfl
theorem cbor_Map_L2_eq (y0:(List (List ApiItem))) (y1:(List (BitVec 64))) (y2:(List (Int))) (y3:Int):run E_cbor_Map A_cbor_Map (loopAt 2 (Tryd.f22.body.getD .skip)) (layC cd [(1,.f (.v (.rs 5))),(2,.f (.v (.ref (.rs 4)))),(6,.f (.own 6)),(8,.f (.v (.int .i64)))] [] (y0,y1,y2,y3,())) (roundK cd [(1,.f (.v (.rs 5))),(2,.f (.v (.ref (.rs 4)))),(6,.f (.own 6)),(8,.f (.v (.int .i64)))] [] [(.ret,[(4,.f (.own 1)),(5,.f (.v (.int .i64)))]),(.exit 2,[(1,.f (.v (.rs 5))),(2,.f (.v (.ref (.rs 4)))),(6,.f (.own 6))])])=cbor_Map_L2b y0 y1 y2 y3:=by kernel_rfl
theorem cbor_Map_L4_eq (y0:(List (List ApiItem))) (y1:(List (BitVec 64))) (y2:(List (ApiItem))) (y3:(List (Int))) (y4:Int) (y5:Int):run E_cbor_Map A_cbor_Map (loopAt 4 (Tryd.f22.body.getD .skip)) (layC cd [(1,.f (.v (.rs 5))),(2,.f (.v (.ref (.rs 4)))),(10,.f (.own 1)),(66,.f (.own 6)),(67,.f (.v (.int .i64))),(68,.f (.v (.int .i64)))] [] (y0,y1,y2,y3,y4,y5,())) (roundK cd [(1,.f (.v (.rs 5))),(2,.f (.v (.ref (.rs 4)))),(10,.f (.own 1)),(66,.f (.own 6)),(67,.f (.v (.int .i64))),(68,.f (.v (.int .i64)))] [] [(.exit 4,[(10,.f (.own 1))])])=cbor_Map_L4b y0 y1 y2 y3 y4 y5:=by kernel_rfl
theorem cbor_Map_eq (x:tySs T S_cbor_Map.ps):run E_cbor_Map A_cbor_Map (Tryd.f22.body.getD .skip) (enterT E_cbor_Map.C S_cbor_Map.ps x) (retK E_cbor_Map Tryd.f22.results.toList S_cbor_Map.ps S_cbor_Map.rs)=S_cbor_Map.fn x:=by kernel_rfl
theorem cbor_Map_env:EnvOk Tryd.prog E_cbor_Map:=envOk (E:=E_cbor_Map) cd_ok tys fl_ok fun f ds S h=>by
    dsimp only [E_cbor_Map] at h
    split at h
    · cases h; exact Zcp_ok
    · split at h
      · cases h; exact Zae_ok
      · cases h
    · cases h; exact Zcd_ok
    · cases h; exact Zbv_ok
    · cases h
theorem cbor_Map_L0_ok:LoopOk Tryd.prog E_cbor_Map Tryd.f22.ntmps (kqOf S_cbor_Map.ps 0) (loopAt 0 (Tryd.f22.body.getD .skip)) ⟨[(1,.f (.v (.rs 5))),(2,.f (.v (.ref (.rs 4)))),(6,.f (.own 6)),(22,.f (.v (.int .i64))),(23,.f (.v (.int .i64)))],[(.exit 0,[(1,.f (.v (.rs 5))),(2,.f (.v (.ref (.rs 4)))),(6,.f (.own 6))])],cbor_Map_L0,[]⟩:=
  loop_ok (A:=A_cbor_Map) (done:=[]) (c0:=(Tryd.f22.body.getD .skip)) hmix cbor_Map_env done_nil rounds (by kernel_rfl) (by kernel_rfl) (fun x=>cbor_Map_L0_eq x.1 x.2.1 x.2.2.1 x.2.2.2.1 x.2.2.2.2.1) (fun _=>rfl)
theorem cbor_Map_L2_ok:LoopOk Tryd.prog E_cbor_Map Tryd.f22.ntmps (kqOf S_cbor_Map.ps 0) (loopAt 2 (Tryd.f22.body.getD .skip)) ⟨[(1,.f (.v (.rs 5))),(2,.f (.v (.ref (.rs 4)))),(6,.f (.own 6)),(8,.f (.v (.int .i64)))],[(.ret,[(4,.f (.own 1)),(5,.f (.v (.int .i64)))]),(.exit 2,[(1,.f (.v (.rs 5))),(2,.f (.v (.ref (.rs 4)))),(6,.f (.own 6))])],cbor_Map_L2,[]⟩:=
  loop_ok (A:=A_cbor_Map) (done:=[0]) (c0:=(Tryd.f22.body.getD .skip)) hmix cbor_Map_env (done_cons rfl cbor_Map_L0_ok done_nil) rounds (by kernel_rfl) (by kernel_rfl) (fun x=>cbor_Map_L2_eq x.1 x.2.1 x.2.2.1 x.2.2.2.1) (fun _=>rfl)
theorem cbor_Map_L4_ok:LoopOk Tryd.prog E_cbor_Map Tryd.f22.ntmps (kqOf S_cbor_Map.ps 0) (loopAt 4 (Tryd.f22.body.getD .skip)) ⟨[(1,.f (.v (.rs 5))),(2,.f (.v (.ref (.rs 4)))),(10,.f (.own 1)),(66,.f (.own 6)),(67,.f (.v (.int .i64))),(68,.f (.v (.int .i64)))],[(.exit 4,[(10,.f (.own 1))])],cbor_Map_L4,[]⟩:=
  loop_ok (A:=A_cbor_Map) (done:=[0,2]) (c0:=(Tryd.f22.body.getD .skip)) hmix cbor_Map_env (done_cons rfl cbor_Map_L0_ok (done_cons rfl cbor_Map_L2_ok done_nil)) rounds (by kernel_rfl) (by kernel_rfl) (fun x=>cbor_Map_L4_eq x.1 x.2.1 x.2.2.1 x.2.2.2.1 x.2.2.2.2.1 x.2.2.2.2.2.1) (fun _=>rfl)
theorem cbor_Map_ok:SoundT Tryd.prog cd gdn 22 S_cbor_Map:=
  sound_fn (E:=E_cbor_Map) (A:=A_cbor_Map) (done:=[0,2,4]) (c:=(Tryd.f22.body.getD .skip)) (S:=S_cbor_Map) (fn:=Tryd.f22) hmix cbor_Map_env Tryd.func22 rfl (by kernel_rfl) (by kernel_rfl) (done_cons rfl cbor_Map_L0_ok (done_cons rfl cbor_Map_L2_ok (done_cons rfl cbor_Map_L4_ok done_nil))) (by kernel_rfl) (by kernel_rfl) cbor_Map_eq
def Zcb_L0b (y0:(List (UInt8))) (y1:(List (ApiItem))) (y2:Int) (y3:Int):Option (((List (UInt8)) × (List (ApiItem)) × Int × Int × Unit) ⊕ ((List (UInt8)) × Unit)):=
 (bif (decide (y3 < y2)) then ((getI y1 y3).bind fun x2=>((Zbi y0 x2).bind fun r3=>(some (Sum.inl (r3.2.1,y1,y2,(IntKind.wrap .i64 (y3 + (1:Int))),())))))
 else (some (Sum.inr (y0,()))))
def Zcb_L0 (y:((List (UInt8)) × (List (ApiItem)) × Int × Int × Unit)):Option ((List (UInt8)) × Unit):=iter (fun (y:((List (UInt8)) × (List (ApiItem)) × Int × Int × Unit))=>Zcb_L0b y.1 y.2.1 y.2.2.1 y.2.2.2.1) rounds y
def Zcb (a0:(List (ApiItem))):Option ((Unit) × ((List (UInt8)) × Int × Unit)):=
 ((Zbq a0).bind fun r1=>(bif (!decide (r1.2.1=(0:Int))) then (some ((),([],r1.2.1,())))
 else ((Zcb_L0 ([],a0,((a0).length:Int),(0:Int),())).bind (fun (z4:((List (UInt8)) × Unit))=>(some ((),(z4.1,(0:Int),())))))))
def S_Zcb:FSpec T:=⟨[.f (.v (.rs 1))],[(.own 0),(.v (.int .i64))],fun x=>Zcb x.1⟩
def E_Zcb:Env T:=⟨tab.find,cd,globs,flc,fun f ds=>match f with
    | 52=>some S_Zbq
    | 53=>some S_Zbi
    | _=>none,fun f=>match f with
    | 52=>true
    | _=>false⟩
def A_Zcb:Loc2 T:=⟨fun id=>match id with
    | 0=>some ⟨[(5,.f (.own 0)),(13,.f (.v (.rs 1))),(14,.f (.v (.int .i64))),(15,.f (.v (.int .i64)))],[(.exit 0,[(5,.f (.own 0))])],Zcb_L0,[]⟩
    | _=>none,fun r=>match r with
    | _=>none,fun r=>match r with
    | _=>false⟩
theorem Zcb_L0_eq (y0:(List (UInt8))) (y1:(List (ApiItem))) (y2:Int) (y3:Int):run E_Zcb A_Zcb (loopAt 0 (Tryd.f27.body.getD .skip)) (layC cd [(5,.f (.own 0)),(13,.f (.v (.rs 1))),(14,.f (.v (.int .i64))),(15,.f (.v (.int .i64)))] [] (y0,y1,y2,y3,())) (roundK cd [(5,.f (.own 0)),(13,.f (.v (.rs 1))),(14,.f (.v (.int .i64))),(15,.f (.v (.int .i64)))] [] [(.exit 0,[(5,.f (.own 0))])])=Zcb_L0b y0 y1 y2 y3:=by kernel_rfl
theorem Zcb_eq (x:tySs T S_Zcb.ps):run E_Zcb A_Zcb (Tryd.f27.body.getD .skip) (enterT E_Zcb.C S_Zcb.ps x) (retK E_Zcb Tryd.f27.results.toList S_Zcb.ps S_Zcb.rs)=S_Zcb.fn x:=by kernel_rfl
theorem Zcb_env:EnvOk Tryd.prog E_Zcb:=envOk (E:=E_Zcb) cd_ok tys fl_ok fun f ds S h=>by
    dsimp only [E_Zcb] at h
    split at h
    · cases h; exact Zbq_ok
    · cases h; exact Zbi_ok
    · cases h
theorem Zcb_L0_ok:LoopOk Tryd.prog E_Zcb Tryd.f27.ntmps (kqOf S_Zcb.ps 0) (loopAt 0 (Tryd.f27.body.getD .skip)) ⟨[(5,.f (.own 0)),(13,.f (.v (.rs 1))),(14,.f (.v (.int .i64))),(15,.f (.v (.int .i64)))],[(.exit 0,[(5,.f (.own 0))])],Zcb_L0,[]⟩:=
  loop_ok (A:=A_Zcb) (done:=[]) (c0:=(Tryd.f27.body.getD .skip)) hmix Zcb_env done_nil rounds (by kernel_rfl) (by kernel_rfl) (fun x=>Zcb_L0_eq x.1 x.2.1 x.2.2.1 x.2.2.2.1) (fun _=>rfl)
theorem Zcb_ok:SoundT Tryd.prog cd gdn 27 S_Zcb:=
  sound_fn (E:=E_Zcb) (A:=A_Zcb) (done:=[0]) (c:=(Tryd.f27.body.getD .skip)) (S:=S_Zcb) (fn:=Tryd.f27) hmix Zcb_env Tryd.func27 rfl (by kernel_rfl) (by kernel_rfl) (done_cons rfl Zcb_L0_ok done_nil) (by kernel_rfl) (by kernel_rfl) Zcb_eq
def Zat (a0:ApiCredential):Option ((Unit) × ((List (UInt8)) × Int × Unit)):=
 ((Zaj a0).bind fun r1=>(bif (!decide (r1.2.1=(0:Int))) then (some ((),([],r1.2.1,())))
 else (let v2:List (BitVec 64):=([1#64,2#64,3#64,4#64,5#64,6#64,7#64,8#64,9#64]:List (BitVec 64))
 ((Zco a0.rP).bind fun r3=>((Zci a0.user).bind fun r4=>((Zco a0.name).bind fun r5=>((Zcp a0.seed).bind fun r6=>((Zcp (BitVec.ofInt 64 a0.height)).bind fun r7=>((Zcn a0.resident).bind fun r8=>((Zcp (BitVec.ofInt 64 a0.protect)).bind fun r9=>((Zcn a0.shared).bind fun r10=>((Zcn a0.backed).bind fun r11=>(let v12:List (List ApiItem):=([r3.2.1,r4.2.1,r5.2.1,r6.2.1,r7.2.1,r8.2.1,r9.2.1,r10.2.1,r11.2.1]:List (List ApiItem))
 ((cbor_Map v2 v12).bind fun r13=>(bif (!decide (r13.2.2.1=(0:Int))) then (some ((),([],r13.2.2.1,())))
 else ((Zcb r13.2.1).bind fun r14=>(some ((),(r14.2.1,r14.2.2.1,())))))))))))))))))))
def S_Zat:FSpec T:=⟨[.f (.v (.agg 3))],[(.own 0),(.v (.int .i64))],fun x=>Zat x.1⟩
def E_Zat:Env T:=⟨tab.find,cd,globs,flc,fun f ds=>match f with
    | 17=>some S_Zaj
    | 22=>some S_cbor_Map
    | 23=>some S_Zco
    | 24=>some S_Zci
    | 25=>some S_Zcp
    | 26=>some S_Zcn
    | 27=>some S_Zcb
    | _=>none,fun f=>match f with
    | 17=>true
    | _=>false⟩
def A_Zat:Loc2 T:=⟨fun id=>match id with
    | _=>none,fun r=>match r with
    | _=>none,fun r=>match r with
    | 5=>true
    | _=>false⟩
theorem Zat_eq (x:tySs T S_Zat.ps):run E_Zat A_Zat (Tryd.f11.body.getD .skip) (enterT E_Zat.C S_Zat.ps x) (retK E_Zat Tryd.f11.results.toList S_Zat.ps S_Zat.rs)=S_Zat.fn x:=by kernel_rfl
theorem Zat_env:EnvOk Tryd.prog E_Zat:=envOk (E:=E_Zat) cd_ok tys fl_ok fun f ds S h=>by
    dsimp only [E_Zat] at h
    split at h
    · cases h; exact Zaj_ok
    · cases h; exact cbor_Map_ok
    · cases h; exact Zco_ok
    · cases h; exact Zci_ok
    · cases h; exact Zcp_ok
    · cases h; exact Zcn_ok
    · cases h; exact Zcb_ok
    · cases h
theorem Zat_ok:SoundT Tryd.prog cd gdn 11 S_Zat:=
  sound_fn (E:=E_Zat) (A:=A_Zat) (done:=[]) (c:=(Tryd.f11.body.getD .skip)) (S:=S_Zat) (fn:=Tryd.f11) hmix Zat_env Tryd.func11 rfl (by kernel_rfl) (by kernel_rfl) done_nil (by kernel_rfl) (by kernel_rfl) Zat_eq
def Zbx_L2b (y0:(List (UInt8))) (y1:(BitVec 64)) (y2:(List (BitVec 64))) (y3:Int) (y4:Int) (y5:Int):Option (((List (UInt8)) × (BitVec 64) × (List (BitVec 64)) × Int × Int × Int × Unit) ⊕ ((List (UInt8)) × (List (BitVec 64)) × Int × Int × Unit)):=
 (bif (decide (y5 < (8:Int))) then (let v2:Int:=(IntKind.wrap .i64 ((56:Int) - (IntKind.wrap .i64 ((8:Int) * y5))))
 (bif decide ((0:Int) ≤ v2) then (let v3:List (UInt8):=([(UInt8.ofBitVec (BitVec.setWidth 8 (y1 >>> (v2).toNat)))]:List (UInt8))
 (bif small ((y0).length + (v3:List (UInt8)).length) 1 then (some (Sum.inl ((y0 ++ v3),y1,y2,y3,y4,(IntKind.wrap .i64 (y5 + (1:Int))),())))
 else none))
 else none))
 else (some (Sum.inr (y0,y2,y3,y4,()))))
def Zbx_L2 (y:((List (UInt8)) × (BitVec 64) × (List (BitVec 64)) × Int × Int × Int × Unit)):Option ((List (UInt8)) × (List (BitVec 64)) × Int × Int × Unit):=iter (fun (y:((List (UInt8)) × (BitVec 64) × (List (BitVec 64)) × Int × Int × Int × Unit))=>Zbx_L2b y.1 y.2.1 y.2.2.1 y.2.2.2.1 y.2.2.2.2.1 y.2.2.2.2.2.1) rounds y
def Zbx_L0b (y0:(List (UInt8))) (y1:(List (BitVec 64))) (y2:Int) (y3:Int):Option (((List (UInt8)) × (List (BitVec 64)) × Int × Int × Unit) ⊕ ((List (UInt8)) × Unit)):=
 (bif (decide (y3 < y2)) then ((getI y1 y3).bind fun x1=>((Zbx_L2 (y0,x1,y1,y2,y3,(0:Int),())).bind (fun (z2:((List (UInt8)) × (List (BitVec 64)) × Int × Int × Unit))=>(some (Sum.inl (z2.1,z2.2.1,z2.2.2.1,(IntKind.wrap .i64 (z2.2.2.2.1 + (1:Int))),()))))))
 else (some (Sum.inr (y0,()))))
def Zbx_L0 (y:((List (UInt8)) × (List (BitVec 64)) × Int × Int × Unit)):Option ((List (UInt8)) × Unit):=iter (fun (y:((List (UInt8)) × (List (BitVec 64)) × Int × Int × Unit))=>Zbx_L0b y.1 y.2.1 y.2.2.1 y.2.2.2.1) rounds y
def Zbx (a0:(List (BitVec 64))):Option ((Unit) × ((List (UInt8)) × Unit)):=
 (bif (decide ((0:Int) ≤ (0:Int)) && (decide ((0:Int) ≤ (IntKind.wrap .i64 ((8:Int) * ((a0).length:Int)))) && decide ((1:Int) * (IntKind.wrap .i64 ((8:Int) * ((a0).length:Int))) ≤ 281474976710656 ∧ (IntKind.wrap .i64 ((8:Int) * ((a0).length:Int))) ≤ 9223372036854775807))) then ((Zbx_L0 ((List.replicate 0 (0:UInt8)),a0,((a0).length:Int),(0:Int),())).bind (fun (z3:((List (UInt8)) × Unit))=>(some ((),(z3.1,())))))
 else none)
def S_Zbx:FSpec T:=⟨[.f (.v (.rs 4))],[(.own 0)],fun x=>Zbx x.1⟩
def E_Zbx:Env T:=⟨tab.find,cd,globs,flc,fun f ds=>match f with
    | _=>none,fun f=>match f with
    | _=>false⟩
def A_Zbx:Loc2 T:=⟨fun id=>match id with
    | 2=>some ⟨[(3,.f (.own 0)),(5,.f (.v .u64)),(11,.f (.v (.rs 4))),(12,.f (.v (.int .i64))),(13,.f (.v (.int .i64))),(17,.f (.v (.int .i64)))],[(.exit 2,[(3,.f (.own 0)),(11,.f (.v (.rs 4))),(12,.f (.v (.int .i64))),(13,.f (.v (.int .i64)))])],Zbx_L2,[]⟩
    | 0=>some ⟨[(3,.f (.own 0)),(11,.f (.v (.rs 4))),(12,.f (.v (.int .i64))),(13,.f (.v (.int .i64)))],[(.exit 0,[(3,.f (.own 0))])],Zbx_L0,[]⟩
    | _=>none,fun r=>match r with
    | _=>none,fun r=>match r with
    | _=>false⟩
theorem Zbx_L2_eq (y0:(List (UInt8))) (y1:(BitVec 64)) (y2:(List (BitVec 64))) (y3:Int) (y4:Int) (y5:Int):run E_Zbx A_Zbx (loopAt 2 (Tryd.f29.body.getD .skip)) (layC cd [(3,.f (.own 0)),(5,.f (.v .u64)),(11,.f (.v (.rs 4))),(12,.f (.v (.int .i64))),(13,.f (.v (.int .i64))),(17,.f (.v (.int .i64)))] [] (y0,y1,y2,y3,y4,y5,())) (roundK cd [(3,.f (.own 0)),(5,.f (.v .u64)),(11,.f (.v (.rs 4))),(12,.f (.v (.int .i64))),(13,.f (.v (.int .i64))),(17,.f (.v (.int .i64)))] [] [(.exit 2,[(3,.f (.own 0)),(11,.f (.v (.rs 4))),(12,.f (.v (.int .i64))),(13,.f (.v (.int .i64)))])])=Zbx_L2b y0 y1 y2 y3 y4 y5:=by kernel_rfl
theorem Zbx_L0_eq (y0:(List (UInt8))) (y1:(List (BitVec 64))) (y2:Int) (y3:Int):run E_Zbx A_Zbx (loopAt 0 (Tryd.f29.body.getD .skip)) (layC cd [(3,.f (.own 0)),(11,.f (.v (.rs 4))),(12,.f (.v (.int .i64))),(13,.f (.v (.int .i64)))] [] (y0,y1,y2,y3,())) (roundK cd [(3,.f (.own 0)),(11,.f (.v (.rs 4))),(12,.f (.v (.int .i64))),(13,.f (.v (.int .i64)))] [] [(.exit 0,[(3,.f (.own 0))])])=Zbx_L0b y0 y1 y2 y3:=by kernel_rfl
theorem Zbx_eq (x:tySs T S_Zbx.ps):run E_Zbx A_Zbx (Tryd.f29.body.getD .skip) (enterT E_Zbx.C S_Zbx.ps x) (retK E_Zbx Tryd.f29.results.toList S_Zbx.ps S_Zbx.rs)=S_Zbx.fn x:=by kernel_rfl
theorem Zbx_env:EnvOk Tryd.prog E_Zbx:=envOk (E:=E_Zbx) cd_ok tys fl_ok fun f ds S h=>by cases h
theorem Zbx_L2_ok:LoopOk Tryd.prog E_Zbx Tryd.f29.ntmps (kqOf S_Zbx.ps 0) (loopAt 2 (Tryd.f29.body.getD .skip)) ⟨[(3,.f (.own 0)),(5,.f (.v .u64)),(11,.f (.v (.rs 4))),(12,.f (.v (.int .i64))),(13,.f (.v (.int .i64))),(17,.f (.v (.int .i64)))],[(.exit 2,[(3,.f (.own 0)),(11,.f (.v (.rs 4))),(12,.f (.v (.int .i64))),(13,.f (.v (.int .i64)))])],Zbx_L2,[]⟩:=
  loop_ok (A:=A_Zbx) (done:=[]) (c0:=(Tryd.f29.body.getD .skip)) hmix Zbx_env done_nil rounds (by kernel_rfl) (by kernel_rfl) (fun x=>Zbx_L2_eq x.1 x.2.1 x.2.2.1 x.2.2.2.1 x.2.2.2.2.1 x.2.2.2.2.2.1) (fun _=>rfl)
theorem Zbx_L0_ok:LoopOk Tryd.prog E_Zbx Tryd.f29.ntmps (kqOf S_Zbx.ps 0) (loopAt 0 (Tryd.f29.body.getD .skip)) ⟨[(3,.f (.own 0)),(11,.f (.v (.rs 4))),(12,.f (.v (.int .i64))),(13,.f (.v (.int .i64)))],[(.exit 0,[(3,.f (.own 0))])],Zbx_L0,[]⟩:=
  loop_ok (A:=A_Zbx) (done:=[2]) (c0:=(Tryd.f29.body.getD .skip)) hmix Zbx_env (done_cons rfl Zbx_L2_ok done_nil) rounds (by kernel_rfl) (by kernel_rfl) (fun x=>Zbx_L0_eq x.1 x.2.1 x.2.2.1 x.2.2.2.1) (fun _=>rfl)
theorem Zbx_ok:SoundT Tryd.prog cd gdn 29 S_Zbx:=
  sound_fn (E:=E_Zbx) (A:=A_Zbx) (done:=[2,0]) (c:=(Tryd.f29.body.getD .skip)) (S:=S_Zbx) (fn:=Tryd.f29) hmix Zbx_env Tryd.func29 rfl (by kernel_rfl) (by kernel_rfl) (done_cons rfl Zbx_L2_ok (done_cons rfl Zbx_L0_ok done_nil)) (by kernel_rfl) (by kernel_rfl) Zbx_eq
def Zbt_L0b (y0:(BitVec 64)) (y1:(List (UInt8))) (y2:Int) (y3:Int):Option (((BitVec 64) × (List (UInt8)) × Int × Int × Unit) ⊕ ((BitVec 64) × Unit)):=
 (bif (decide (y3 < y2)) then ((getI y1 y3).bind fun x1=>(bif decide ((0:Int) ≤ (IntKind.wrap .i64 ((8:Int) * y3))) then (let v2:BitVec 64:=((BitVec.setWidth 64 x1.toBitVec) <<< ((IntKind.wrap .i64 ((8:Int) * y3))).toNat)
 (some (Sum.inl ((y0 ||| v2),y1,y2,(IntKind.wrap .i64 (y3 + (1:Int))),()))))
 else none))
 else (some (Sum.inr (y0,()))))
def Zbt_L0 (y:((BitVec 64) × (List (UInt8)) × Int × Int × Unit)):Option ((BitVec 64) × Unit):=iter (fun (y:((BitVec 64) × (List (UInt8)) × Int × Int × Unit))=>Zbt_L0b y.1 y.2.1 y.2.2.1 y.2.2.2.1) rounds y
def Zbt (a0:(List (UInt8))):Option ((Unit) × ((BitVec 64) × Unit)):=
 ((Zbt_L0 (0#64,a0,((a0).length:Int),(0:Int),())).bind (fun (z3:((BitVec 64) × Unit))=>(some ((),(z3.1,())))))
def S_Zbt:FSpec T:=⟨[.f (.v (.rs 0))],[(.v .u64)],fun x=>Zbt x.1⟩
def E_Zbt:Env T:=⟨tab.find,cd,globs,flc,fun f ds=>match f with
    | _=>none,fun f=>match f with
    | _=>false⟩
def A_Zbt:Loc2 T:=⟨fun id=>match id with
    | 0=>some ⟨[(3,.f (.v .u64)),(6,.f (.v (.rs 0))),(7,.f (.v (.int .i64))),(8,.f (.v (.int .i64)))],[(.exit 0,[(3,.f (.v .u64))])],Zbt_L0,[]⟩
    | _=>none,fun r=>match r with
    | _=>none,fun r=>match r with
    | _=>false⟩
theorem Zbt_L0_eq (y0:(BitVec 64)) (y1:(List (UInt8))) (y2:Int) (y3:Int):run E_Zbt A_Zbt (loopAt 0 (Tryd.f72.body.getD .skip)) (layC cd [(3,.f (.v .u64)),(6,.f (.v (.rs 0))),(7,.f (.v (.int .i64))),(8,.f (.v (.int .i64)))] [] (y0,y1,y2,y3,())) (roundK cd [(3,.f (.v .u64)),(6,.f (.v (.rs 0))),(7,.f (.v (.int .i64))),(8,.f (.v (.int .i64)))] [] [(.exit 0,[(3,.f (.v .u64))])])=Zbt_L0b y0 y1 y2 y3:=by kernel_rfl
theorem Zbt_eq (x:tySs T S_Zbt.ps):run E_Zbt A_Zbt (Tryd.f72.body.getD .skip) (enterT E_Zbt.C S_Zbt.ps x) (retK E_Zbt Tryd.f72.results.toList S_Zbt.ps S_Zbt.rs)=S_Zbt.fn x:=by kernel_rfl
theorem Zbt_env:EnvOk Tryd.prog E_Zbt:=envOk (E:=E_Zbt) cd_ok tys fl_ok fun f ds S h=>by cases h
theorem Zbt_L0_ok:LoopOk Tryd.prog E_Zbt Tryd.f72.ntmps (kqOf S_Zbt.ps 0) (loopAt 0 (Tryd.f72.body.getD .skip)) ⟨[(3,.f (.v .u64)),(6,.f (.v (.rs 0))),(7,.f (.v (.int .i64))),(8,.f (.v (.int .i64)))],[(.exit 0,[(3,.f (.v .u64))])],Zbt_L0,[]⟩:=
  loop_ok (A:=A_Zbt) (done:=[]) (c0:=(Tryd.f72.body.getD .skip)) hmix Zbt_env done_nil rounds (by kernel_rfl) (by kernel_rfl) (fun x=>Zbt_L0_eq x.1 x.2.1 x.2.2.1 x.2.2.2.1) (fun _=>rfl)
theorem Zbt_ok:SoundT Tryd.prog cd gdn 72 S_Zbt:=
  sound_fn (E:=E_Zbt) (A:=A_Zbt) (done:=[0]) (c:=(Tryd.f72.body.getD .skip)) (S:=S_Zbt) (fn:=Tryd.f72) hmix Zbt_env Tryd.func72 rfl (by kernel_rfl) (by kernel_rfl) (done_cons rfl Zbt_L0_ok done_nil) (by kernel_rfl) (by kernel_rfl) Zbt_eq
def Zaf (a0:(BitVec 64)) (a1:Int):Option ((Unit) × ((BitVec 64) × Unit)):=
 (let v1:BitVec 64:=((a0 <<< ((BitVec.ofInt 64 a1) &&& 63#64).toNat) ||| (a0 >>> (64#64 - ((BitVec.ofInt 64 a1) &&& 63#64)).toNat))
 (some ((),(v1,()))))
def S_Zaf:FSpec T:=⟨[.f (.v .u64),.f (.v (.int .i64))],[(.v .u64)],fun x=>Zaf x.1 x.2.1⟩
def E_Zaf:Env T:=⟨tab.find,cd,globs,flc,fun f ds=>match f with
    | _=>none,fun f=>match f with
    | _=>false⟩
def A_Zaf:Loc2 T:=⟨fun id=>match id with
    | _=>none,fun r=>match r with
    | _=>none,fun r=>match r with
    | _=>false⟩
theorem Zaf_eq (x:tySs T S_Zaf.ps):run E_Zaf A_Zaf (Tryd.f93.body.getD .skip) (enterT E_Zaf.C S_Zaf.ps x) (retK E_Zaf Tryd.f93.results.toList S_Zaf.ps S_Zaf.rs)=S_Zaf.fn x:=by kernel_rfl
theorem Zaf_env:EnvOk Tryd.prog E_Zaf:=envOk (E:=E_Zaf) cd_ok tys fl_ok fun f ds S h=>by cases h
theorem Zaf_ok:SoundT Tryd.prog cd gdn 93 S_Zaf:=
  sound_fn (E:=E_Zaf) (A:=A_Zaf) (done:=[]) (c:=(Tryd.f93.body.getD .skip)) (S:=S_Zaf) (fn:=Tryd.f93) hmix Zaf_env Tryd.func93 rfl (by kernel_rfl) (by kernel_rfl) done_nil (by kernel_rfl) (by kernel_rfl) Zaf_eq
def Zal_L0b (y0:(DigestState × Unit)) (y1:Int) (y2:Int):Option (((DigestState × Unit) × Int × Int × Unit) ⊕ ((DigestState × Unit) × Unit)):=
 (bif (decide (y2 < y1)) then ((Zaf y0.1.v1 (13:Int)).bind fun r1=>((Zaf (y0.1.v0 + y0.1.v1) (32:Int)).bind fun r2=>((Zaf y0.1.v3 (16:Int)).bind fun r3=>((Zaf (r3.2.1 ^^^ (y0.1.v2 + y0.1.v3)) (21:Int)).bind fun r4=>((Zaf (r1.2.1 ^^^ (y0.1.v0 + y0.1.v1)) (17:Int)).bind fun r5=>(let v6:BitVec 64:=(r5.2.1 ^^^ ((y0.1.v2 + y0.1.v3) + (r1.2.1 ^^^ (y0.1.v0 + y0.1.v1))))
 ((Zaf ((y0.1.v2 + y0.1.v3) + (r1.2.1 ^^^ (y0.1.v0 + y0.1.v1))) (32:Int)).bind fun r7=>(some (Sum.inl (((⟨(r2.2.1 + (r3.2.1 ^^^ (y0.1.v2 + y0.1.v3))),v6,r7.2.1,(r4.2.1 ^^^ (r2.2.1 + (r3.2.1 ^^^ (y0.1.v2 + y0.1.v3))))⟩:DigestState),()),y1,(IntKind.wrap .i64 (y2 + (1:Int))),()))))))))))
 else (some (Sum.inr ((y0.1,()),()))))
def Zal_L0 (y:((DigestState × Unit) × Int × Int × Unit)):Option ((DigestState × Unit) × Unit):=iter (fun (y:((DigestState × Unit) × Int × Int × Unit))=>Zal_L0b y.1 y.2.1 y.2.2.1) rounds y
def Zal (a0:(DigestState × Unit)) (a1:Int):Option (((DigestState × Unit) × Unit) × (Unit)):=
 ((Zal_L0 ((a0.1,()),a1,(0:Int),())).bind (fun (z8:((DigestState × Unit) × Unit))=>(some (((z8.1.1,()),()),()))))
def S_Zal:FSpec T:=⟨[.ptr [(.v (.agg 10))],.f (.v (.int .i64))],[],fun x=>Zal x.1 x.2.1⟩
def E_Zal:Env T:=⟨tab.find,cd,globs,flc,fun f ds=>match f with
    | 93=>some S_Zaf
    | _=>none,fun f=>match f with
    | 93=>true
    | _=>false⟩
def A_Zal:Loc2 T:=⟨fun id=>match id with
    | 0=>some ⟨[(0,.ptr [(.v (.agg 10))]),(4,.f (.v (.int .i64))),(5,.f (.v (.int .i64)))],[(.exit 0,[(0,.ptr [(.v (.agg 10))])])],Zal_L0,[]⟩
    | _=>none,fun r=>match r with
    | _=>none,fun r=>match r with
    | _=>false⟩
theorem Zal_L0_eq (y0:(DigestState × Unit)) (y1:Int) (y2:Int):run E_Zal A_Zal (loopAt 0 (Tryd.f73.body.getD .skip)) (layC cd [(0,.ptr [(.v (.agg 10))]),(4,.f (.v (.int .i64))),(5,.f (.v (.int .i64)))] [] (y0,y1,y2,())) (roundK cd [(0,.ptr [(.v (.agg 10))]),(4,.f (.v (.int .i64))),(5,.f (.v (.int .i64)))] [] [(.exit 0,[(0,.ptr [(.v (.agg 10))])])])=Zal_L0b y0 y1 y2:=by kernel_rfl
theorem Zal_eq (x:tySs T S_Zal.ps):run E_Zal A_Zal (Tryd.f73.body.getD .skip) (enterT E_Zal.C S_Zal.ps x) (retK E_Zal Tryd.f73.results.toList S_Zal.ps S_Zal.rs)=S_Zal.fn x:=by kernel_rfl
theorem Zal_env:EnvOk Tryd.prog E_Zal:=envOk (E:=E_Zal) cd_ok tys fl_ok fun f ds S h=>by
    dsimp only [E_Zal] at h
    split at h
    · cases h; exact Zaf_ok
    · cases h
theorem Zal_L0_ok:LoopOk Tryd.prog E_Zal Tryd.f73.ntmps (kqOf S_Zal.ps 0) (loopAt 0 (Tryd.f73.body.getD .skip)) ⟨[(0,.ptr [(.v (.agg 10))]),(4,.f (.v (.int .i64))),(5,.f (.v (.int .i64)))],[(.exit 0,[(0,.ptr [(.v (.agg 10))])])],Zal_L0,[]⟩:=
  loop_ok (A:=A_Zal) (done:=[]) (c0:=(Tryd.f73.body.getD .skip)) hmix Zal_env done_nil rounds (by kernel_rfl) (by kernel_rfl) (fun x=>Zal_L0_eq x.1 x.2.1 x.2.2.1) (fun _=>rfl)
theorem Zal_ok:SoundT Tryd.prog cd gdn 73 S_Zal:=
  sound_fn (E:=E_Zal) (A:=A_Zal) (done:=[0]) (c:=(Tryd.f73.body.getD .skip)) (S:=S_Zal) (fn:=Tryd.f73) hmix Zal_env Tryd.func73 rfl (by kernel_rfl) (by kernel_rfl) (done_cons rfl Zal_L0_ok done_nil) (by kernel_rfl) (by kernel_rfl) Zal_eq
def Zak (a0:(DigestState × Unit)) (a1:(BitVec 64)):Option (((DigestState × Unit) × Unit) × (Unit)):=
 ((Zal ((⟨a0.1.v0,a0.1.v1,a0.1.v2,(a0.1.v3 ^^^ a1)⟩:DigestState),()) (2:Int)).bind fun r1=>(some ((((⟨(r1.1.1.1.v0 ^^^ a1),r1.1.1.1.v1,r1.1.1.1.v2,r1.1.1.1.v3⟩:DigestState),()),()),())))
def S_Zak:FSpec T:=⟨[.ptr [(.v (.agg 10))],.f (.v .u64)],[],fun x=>Zak x.1 x.2.1⟩
def E_Zak:Env T:=⟨tab.find,cd,globs,flc,fun f ds=>match f with
    | 73=>some S_Zal
    | _=>none,fun f=>match f with
    | _=>false⟩
def A_Zak:Loc2 T:=⟨fun id=>match id with
    | _=>none,fun r=>match r with
    | _=>none,fun r=>match r with
    | _=>false⟩
theorem Zak_eq (x:tySs T S_Zak.ps):run E_Zak A_Zak (Tryd.f71.body.getD .skip) (enterT E_Zak.C S_Zak.ps x) (retK E_Zak Tryd.f71.results.toList S_Zak.ps S_Zak.rs)=S_Zak.fn x:=by kernel_rfl
theorem Zak_env:EnvOk Tryd.prog E_Zak:=envOk (E:=E_Zak) cd_ok tys fl_ok fun f ds S h=>by
    dsimp only [E_Zak] at h
    split at h
    · cases h; exact Zal_ok
    · cases h
theorem Zak_ok:SoundT Tryd.prog cd gdn 71 S_Zak:=
  sound_fn (E:=E_Zak) (A:=A_Zak) (done:=[]) (c:=(Tryd.f71.body.getD .skip)) (S:=S_Zak) (fn:=Tryd.f71) hmix Zak_env Tryd.func71 rfl (by kernel_rfl) (by kernel_rfl) done_nil (by kernel_rfl) (by kernel_rfl) Zak_eq
def Zcm_L0b (y0:(List (UInt8))) (y1:(DigestState × Unit)) (y2:Int) (y3:Int) (y4:Int):Option (((List (UInt8)) × (DigestState × Unit) × Int × Int × Int × Unit) ⊕ ((List (UInt8)) × (DigestState × Unit) × Int × Unit)):=
 (bif (decide (y4 < y3)) then (let v1:Int:=(IntKind.wrap .i64 ((IntKind.wrap .i64 ((8:Int) * y4)) + (8:Int)))
 (bif (decide ((0:Int) ≤ v1) && decide (v1 ≤ ((y0).length:Int))) then (bif (decide ((0:Int) ≤ (IntKind.wrap .i64 ((8:Int) * y4))) && decide ((IntKind.wrap .i64 ((8:Int) * y4)) ≤ ((v1).toNat:Int))) then (let v2:List (UInt8):=(List.drop ((IntKind.wrap .i64 ((8:Int) * y4))).toNat (List.take (v1).toNat y0))
 ((Zbt v2).bind fun r3=>((Zak (y1.1,()) r3.2.1).bind fun r4=>(some (Sum.inl (y0,(r4.1.1.1,()),y2,y3,(IntKind.wrap .i64 (y4 + (1:Int))),()))))))
 else none)
 else none))
 else (some (Sum.inr (y0,(y1.1,()),y2,()))))
def Zcm_L0 (y:((List (UInt8)) × (DigestState × Unit) × Int × Int × Int × Unit)):Option ((List (UInt8)) × (DigestState × Unit) × Int × Unit):=iter (fun (y:((List (UInt8)) × (DigestState × Unit) × Int × Int × Int × Unit))=>Zcm_L0b y.1 y.2.1 y.2.2.1 y.2.2.2.1 y.2.2.2.2.1) rounds y
def Zcm (a0:(BitVec 64)) (a1:(BitVec 64)) (a2:(List (UInt8))):Option ((Unit) × ((BitVec 64) × Unit)):=
 ((Zcm_L0 (a2,((⟨(a0 ^^^ 8317987319222330741#64),(a1 ^^^ 7237128888997146477#64),(a0 ^^^ 7816392313619706465#64),(a1 ^^^ 8387220255154660723#64)⟩:DigestState),()),(IntKind.wrap .i64 (Int.tdiv ((a2).length:Int) (8:Int))),(IntKind.wrap .i64 (Int.tdiv ((a2).length:Int) (8:Int))),(0:Int),())).bind (fun (z5:((List (UInt8)) × (DigestState × Unit) × Int × Unit))=>(bif (decide ((0:Int) ≤ (IntKind.wrap .i64 ((8:Int) * z5.2.2.1))) && decide ((IntKind.wrap .i64 ((8:Int) * z5.2.2.1)) ≤ ((z5.1).length:Int))) then (let v6:List (UInt8):=(List.drop ((IntKind.wrap .i64 ((8:Int) * z5.2.2.1))).toNat z5.1)
 ((Zbt v6).bind fun r7=>(let v8:BitVec 64:=(r7.2.1 ||| ((BitVec.ofInt 64 ((z5.1).length:Int)) <<< 56))
 ((Zak (z5.2.1.1,()) v8).bind fun r9=>((Zal ((⟨r9.1.1.1.v0,r9.1.1.1.v1,(r9.1.1.1.v2 ^^^ 255#64),r9.1.1.1.v3⟩:DigestState),()) (4:Int)).bind fun r10=>(let v11:BitVec 64:=(((r10.1.1.1.v0 ^^^ r10.1.1.1.v1) ^^^ r10.1.1.1.v2) ^^^ r10.1.1.1.v3)
 (some ((),(v11,())))))))))
 else none)))
def S_Zcm:FSpec T:=⟨[.f (.v .u64),.f (.v .u64),.f (.v (.rs 0))],[(.v .u64)],fun x=>Zcm x.1 x.2.1 x.2.2.1⟩
def E_Zcm:Env T:=⟨tab.find,cd,globs,flc,fun f ds=>match f with
    | 71=>some S_Zak
    | 72=>some S_Zbt
    | 73=>some S_Zal
    | _=>none,fun f=>match f with
    | 72=>true
    | _=>false⟩
def A_Zcm:Loc2 T:=⟨fun id=>match id with
    | 0=>some ⟨[(2,.f (.v (.rs 0))),(7,.ptr [(.v (.agg 10))]),(8,.f (.v (.int .i64))),(22,.f (.v (.int .i64))),(23,.f (.v (.int .i64)))],[(.exit 0,[(2,.f (.v (.rs 0))),(7,.ptr [(.v (.agg 10))]),(8,.f (.v (.int .i64)))])],Zcm_L0,[]⟩
    | _=>none,fun r=>match r with
    | _=>none,fun r=>match r with
    | _=>false⟩
theorem Zcm_L0_eq (y0:(List (UInt8))) (y1:(DigestState × Unit)) (y2:Int) (y3:Int) (y4:Int):run E_Zcm A_Zcm (loopAt 0 (Tryd.f54.body.getD .skip)) (layC cd [(2,.f (.v (.rs 0))),(7,.ptr [(.v (.agg 10))]),(8,.f (.v (.int .i64))),(22,.f (.v (.int .i64))),(23,.f (.v (.int .i64)))] [] (y0,y1,y2,y3,y4,())) (roundK cd [(2,.f (.v (.rs 0))),(7,.ptr [(.v (.agg 10))]),(8,.f (.v (.int .i64))),(22,.f (.v (.int .i64))),(23,.f (.v (.int .i64)))] [] [(.exit 0,[(2,.f (.v (.rs 0))),(7,.ptr [(.v (.agg 10))]),(8,.f (.v (.int .i64)))])])=Zcm_L0b y0 y1 y2 y3 y4:=by kernel_rfl
theorem Zcm_eq (x:tySs T S_Zcm.ps):run E_Zcm A_Zcm (Tryd.f54.body.getD .skip) (enterT E_Zcm.C S_Zcm.ps x) (retK E_Zcm Tryd.f54.results.toList S_Zcm.ps S_Zcm.rs)=S_Zcm.fn x:=by kernel_rfl
theorem Zcm_env:EnvOk Tryd.prog E_Zcm:=envOk (E:=E_Zcm) cd_ok tys fl_ok fun f ds S h=>by
    dsimp only [E_Zcm] at h
    split at h
    · cases h; exact Zak_ok
    · cases h; exact Zbt_ok
    · cases h; exact Zal_ok
    · cases h
theorem Zcm_L0_ok:LoopOk Tryd.prog E_Zcm Tryd.f54.ntmps (kqOf S_Zcm.ps 0) (loopAt 0 (Tryd.f54.body.getD .skip)) ⟨[(2,.f (.v (.rs 0))),(7,.ptr [(.v (.agg 10))]),(8,.f (.v (.int .i64))),(22,.f (.v (.int .i64))),(23,.f (.v (.int .i64)))],[(.exit 0,[(2,.f (.v (.rs 0))),(7,.ptr [(.v (.agg 10))]),(8,.f (.v (.int .i64)))])],Zcm_L0,[]⟩:=
  loop_ok (A:=A_Zcm) (done:=[]) (c0:=(Tryd.f54.body.getD .skip)) hmix Zcm_env done_nil rounds (by kernel_rfl) (by kernel_rfl) (fun x=>Zcm_L0_eq x.1 x.2.1 x.2.2.1 x.2.2.2.1 x.2.2.2.2.1) (fun _=>rfl)
theorem Zcm_ok:SoundT Tryd.prog cd gdn 54 S_Zcm:=
  sound_fn (E:=E_Zcm) (A:=A_Zcm) (done:=[0]) (c:=(Tryd.f54.body.getD .skip)) (S:=S_Zcm) (fn:=Tryd.f54) hmix Zcm_env Tryd.func54 rfl (by kernel_rfl) (by kernel_rfl) (done_cons rfl Zcm_L0_ok done_nil) (by kernel_rfl) (by kernel_rfl) Zcm_eq
def Zcl (a0:(BitVec 64)) (a1:Int) (a2:(List (UInt8))):Option ((Unit) × ((BitVec 64) × Unit)):=
 ((Zcm a0 (1#64 + (BitVec.ofInt 64 a1)) a2).bind fun r1=>(some ((),(r1.2.1,()))))
def S_Zcl:FSpec T:=⟨[.f (.v .u64),.f (.v (.int .i64)),.f (.v (.rs 0))],[(.v .u64)],fun x=>Zcl x.1 x.2.1 x.2.2.1⟩
def E_Zcl:Env T:=⟨tab.find,cd,globs,flc,fun f ds=>match f with
    | 54=>some S_Zcm
    | _=>none,fun f=>match f with
    | 54=>true
    | _=>false⟩
def A_Zcl:Loc2 T:=⟨fun id=>match id with
    | _=>none,fun r=>match r with
    | _=>none,fun r=>match r with
    | _=>false⟩
theorem Zcl_eq (x:tySs T S_Zcl.ps):run E_Zcl A_Zcl (Tryd.f28.body.getD .skip) (enterT E_Zcl.C S_Zcl.ps x) (retK E_Zcl Tryd.f28.results.toList S_Zcl.ps S_Zcl.rs)=S_Zcl.fn x:=by kernel_rfl
theorem Zcl_env:EnvOk Tryd.prog E_Zcl:=envOk (E:=E_Zcl) cd_ok tys fl_ok fun f ds S h=>by
    dsimp only [E_Zcl] at h
    split at h
    · cases h; exact Zcm_ok
    · cases h
theorem Zcl_ok:SoundT Tryd.prog cd gdn 28 S_Zcl:=
  sound_fn (E:=E_Zcl) (A:=A_Zcl) (done:=[]) (c:=(Tryd.f28.body.getD .skip)) (S:=S_Zcl) (fn:=Tryd.f28) hmix Zcl_env Tryd.func28 rfl (by kernel_rfl) (by kernel_rfl) done_nil (by kernel_rfl) (by kernel_rfl) Zcl_eq
def Zbs (a0:(BitVec 64)) (a1:(List UInt8)) (a2:Int):Option ((Unit) × ((BitVec 64) × Unit)):=
 (bif small ((a1).length + (([(0:UInt8)]:List (UInt8)):List (UInt8)).length) 1 then ((Zbx ([(BitVec.ofInt 64 a2)]:List (BitVec 64))).bind fun r1=>(bif small (((a1 ++ ([(0:UInt8)]:List (UInt8)))).length + (r1.2.1:List (UInt8)).length) 1 then (let v2:List (UInt8):=((a1 ++ ([(0:UInt8)]:List (UInt8))) ++ r1.2.1)
 ((Zcl a0 (4:Int) v2).bind fun r3=>(some ((),(r3.2.1,())))))
 else none))
 else none)
def S_Zbs:FSpec T:=⟨[.f (.v .u64),.f (.v .str),.f (.v (.int .i64))],[(.v .u64)],fun x=>Zbs x.1 x.2.1 x.2.2.1⟩
def E_Zbs:Env T:=⟨tab.find,cd,globs,flc,fun f ds=>match f with
    | 28=>some S_Zcl
    | 29=>some S_Zbx
    | _=>none,fun f=>match f with
    | 28=>true
    | _=>false⟩
def A_Zbs:Loc2 T:=⟨fun id=>match id with
    | _=>none,fun r=>match r with
    | _=>none,fun r=>match r with
    | _=>false⟩
theorem Zbs_eq (x:tySs T S_Zbs.ps):run E_Zbs A_Zbs (Tryd.f13.body.getD .skip) (enterT E_Zbs.C S_Zbs.ps x) (retK E_Zbs Tryd.f13.results.toList S_Zbs.ps S_Zbs.rs)=S_Zbs.fn x:=by kernel_rfl
theorem Zbs_env:EnvOk Tryd.prog E_Zbs:=envOk (E:=E_Zbs) cd_ok tys fl_ok fun f ds S h=>by
    dsimp only [E_Zbs] at h
    split at h
    · cases h; exact Zcl_ok
    · cases h; exact Zbx_ok
    · cases h
theorem Zbs_ok:SoundT Tryd.prog cd gdn 13 S_Zbs:=
  sound_fn (E:=E_Zbs) (A:=A_Zbs) (done:=[]) (c:=(Tryd.f13.body.getD .skip)) (S:=S_Zbs) (fn:=Tryd.f13) hmix Zbs_env Tryd.func13 rfl (by kernel_rfl) (by kernel_rfl) done_nil (by kernel_rfl) (by kernel_rfl) Zbs_eq
def Zcg_L0b (y0:(BitVec 64)) (y1:(BitVec 64)) (y2:Int) (y3:(List (UInt8))) (y4:(BitVec 64)):Option (((BitVec 64) × (BitVec 64) × Int × (List (UInt8)) × (BitVec 64) × Unit) ⊕ (Int × (List (UInt8)) × Unit)):=
 (bif (decide (((y3).length:Int) < y2)) then ((Zbx ([y1,y4]:List (BitVec 64))).bind fun r2=>((Zcl y0 (5:Int) r2.2.1).bind fun r3=>((Zbx ([r3.2.1]:List (BitVec 64))).bind fun r4=>(bif small ((y3).length + (r4.2.1:List (UInt8)).length) 1 then (some (Sum.inl (y0,y1,y2,(y3 ++ r4.2.1),(y4 + 1#64),())))
 else none))))
 else (some (Sum.inr (y2,y3,()))))
def Zcg_L0 (y:((BitVec 64) × (BitVec 64) × Int × (List (UInt8)) × (BitVec 64) × Unit)):Option (Int × (List (UInt8)) × Unit):=iter (fun (y:((BitVec 64) × (BitVec 64) × Int × (List (UInt8)) × (BitVec 64) × Unit))=>Zcg_L0b y.1 y.2.1 y.2.2.1 y.2.2.2.1 y.2.2.2.2.1) rounds y
def Zcg (a0:(BitVec 64)) (a1:(BitVec 64)) (a2:Int):Option ((Unit) × ((List (UInt8)) × Unit)):=
 (let v1:Int:=(bif decide ((1024:Int) < (bif decide (a2 < (0:Int)) then (0:Int) else a2)) then (1024:Int) else (bif decide (a2 < (0:Int)) then (0:Int) else a2))
 (bif (decide ((0:Int) ≤ (0:Int)) && (decide ((0:Int) ≤ (IntKind.wrap .i64 (v1 + (8:Int)))) && decide ((1:Int) * (IntKind.wrap .i64 (v1 + (8:Int))) ≤ 281474976710656 ∧ (IntKind.wrap .i64 (v1 + (8:Int))) ≤ 9223372036854775807))) then ((Zcg_L0 (a0,a1,v1,(List.replicate 0 (0:UInt8)),0#64,())).bind (fun (z5:(Int × (List (UInt8)) × Unit))=>(bif (decide ((0:Int) ≤ z5.1) && decide (z5.1 ≤ ((z5.2.1).length:Int))) then (bif decide ((z5.1).toNat ≤ (z5.2.1).length) then (some ((),((List.take (z5.1).toNat z5.2.1),())))
 else none)
 else none)))
 else none))
def S_Zcg:FSpec T:=⟨[.f (.v .u64),.f (.v .u64),.f (.v (.int .i64))],[(.own 0)],fun x=>Zcg x.1 x.2.1 x.2.2.1⟩
def E_Zcg:Env T:=⟨tab.find,cd,globs,flc,fun f ds=>match f with
    | 28=>some S_Zcl
    | 29=>some S_Zbx
    | _=>none,fun f=>match f with
    | 28=>true
    | _=>false⟩
def A_Zcg:Loc2 T:=⟨fun id=>match id with
    | 0=>some ⟨[(0,.f (.v .u64)),(1,.f (.v .u64)),(2,.f (.v (.int .i64))),(7,.f (.own 0)),(8,.f (.v .u64))],[(.exit 0,[(2,.f (.v (.int .i64))),(7,.f (.own 0))])],Zcg_L0,[]⟩
    | _=>none,fun r=>match r with
    | _=>none,fun r=>match r with
    | _=>false⟩
theorem Zcg_L0_eq (y0:(BitVec 64)) (y1:(BitVec 64)) (y2:Int) (y3:(List (UInt8))) (y4:(BitVec 64)):run E_Zcg A_Zcg (loopAt 0 (Tryd.f12.body.getD .skip)) (layC cd [(0,.f (.v .u64)),(1,.f (.v .u64)),(2,.f (.v (.int .i64))),(7,.f (.own 0)),(8,.f (.v .u64))] [] (y0,y1,y2,y3,y4,())) (roundK cd [(0,.f (.v .u64)),(1,.f (.v .u64)),(2,.f (.v (.int .i64))),(7,.f (.own 0)),(8,.f (.v .u64))] [] [(.exit 0,[(2,.f (.v (.int .i64))),(7,.f (.own 0))])])=Zcg_L0b y0 y1 y2 y3 y4:=by kernel_rfl
theorem Zcg_eq (x:tySs T S_Zcg.ps):run E_Zcg A_Zcg (Tryd.f12.body.getD .skip) (enterT E_Zcg.C S_Zcg.ps x) (retK E_Zcg Tryd.f12.results.toList S_Zcg.ps S_Zcg.rs)=S_Zcg.fn x:=by kernel_rfl
theorem Zcg_env:EnvOk Tryd.prog E_Zcg:=envOk (E:=E_Zcg) cd_ok tys fl_ok fun f ds S h=>by
    dsimp only [E_Zcg] at h
    split at h
    · cases h; exact Zcl_ok
    · cases h; exact Zbx_ok
    · cases h
theorem Zcg_L0_ok:LoopOk Tryd.prog E_Zcg Tryd.f12.ntmps (kqOf S_Zcg.ps 0) (loopAt 0 (Tryd.f12.body.getD .skip)) ⟨[(0,.f (.v .u64)),(1,.f (.v .u64)),(2,.f (.v (.int .i64))),(7,.f (.own 0)),(8,.f (.v .u64))],[(.exit 0,[(2,.f (.v (.int .i64))),(7,.f (.own 0))])],Zcg_L0,[]⟩:=
  loop_ok (A:=A_Zcg) (done:=[]) (c0:=(Tryd.f12.body.getD .skip)) hmix Zcg_env done_nil rounds (by kernel_rfl) (by kernel_rfl) (fun x=>Zcg_L0_eq x.1 x.2.1 x.2.2.1 x.2.2.2.1 x.2.2.2.2.1) (fun _=>rfl)
theorem Zcg_ok:SoundT Tryd.prog cd gdn 12 S_Zcg:=
  sound_fn (E:=E_Zcg) (A:=A_Zcg) (done:=[0]) (c:=(Tryd.f12.body.getD .skip)) (S:=S_Zcg) (fn:=Tryd.f12) hmix Zcg_env Tryd.func12 rfl (by kernel_rfl) (by kernel_rfl) (done_cons rfl Zcg_L0_ok done_nil) (by kernel_rfl) (by kernel_rfl) Zcg_eq
def Zap (a0:(BitVec 64)):Option ((Unit) × ((BitVec 64) × Unit)):=
 ((Zbs a0 ([119,114,97,112]:List UInt8) (0:Int)).bind fun r1=>(some ((),(r1.2.1,()))))
def S_Zap:FSpec T:=⟨[.f (.v .u64)],[(.v .u64)],fun x=>Zap x.1⟩
def E_Zap:Env T:=⟨tab.find,cd,globs,flc,fun f ds=>match f with
    | 13=>some S_Zbs
    | _=>none,fun f=>match f with
    | 13=>true
    | _=>false⟩
def A_Zap:Loc2 T:=⟨fun id=>match id with
    | _=>none,fun r=>match r with
    | _=>none,fun r=>match r with
    | _=>false⟩
theorem Zap_eq (x:tySs T S_Zap.ps):run E_Zap A_Zap (Tryd.f15.body.getD .skip) (enterT E_Zap.C S_Zap.ps x) (retK E_Zap Tryd.f15.results.toList S_Zap.ps S_Zap.rs)=S_Zap.fn x:=by kernel_rfl
theorem Zap_env:EnvOk Tryd.prog E_Zap:=envOk (E:=E_Zap) cd_ok tys fl_ok fun f ds S h=>by
    dsimp only [E_Zap] at h
    split at h
    · cases h; exact Zbs_ok
    · cases h
theorem Zap_ok:SoundT Tryd.prog cd gdn 15 S_Zap:=
  sound_fn (E:=E_Zap) (A:=A_Zap) (done:=[]) (c:=(Tryd.f15.body.getD .skip)) (S:=S_Zap) (fn:=Tryd.f15) hmix Zap_env Tryd.func15 rfl (by kernel_rfl) (by kernel_rfl) done_nil (by kernel_rfl) (by kernel_rfl) Zap_eq
def Zcf (a0:Int) (a1:(List (UInt8))):Option ((Unit) × ((BitVec 64) × Unit)):=
 ((Zcm (BitVec.ofInt 64 a0) (0#64) a1).bind fun r1=>(some ((),(r1.2.1,()))))
def S_Zcf:FSpec T:=⟨[.f (.v (.int .i64)),.f (.v (.rs 0))],[(.v .u64)],fun x=>Zcf x.1 x.2.1⟩
def E_Zcf:Env T:=⟨tab.find,cd,globs,flc,fun f ds=>match f with
    | 54=>some S_Zcm
    | _=>none,fun f=>match f with
    | 54=>true
    | _=>false⟩
def A_Zcf:Loc2 T:=⟨fun id=>match id with
    | _=>none,fun r=>match r with
    | _=>none,fun r=>match r with
    | _=>false⟩
theorem Zcf_eq (x:tySs T S_Zcf.ps):run E_Zcf A_Zcf (Tryd.f56.body.getD .skip) (enterT E_Zcf.C S_Zcf.ps x) (retK E_Zcf Tryd.f56.results.toList S_Zcf.ps S_Zcf.rs)=S_Zcf.fn x:=by kernel_rfl
theorem Zcf_env:EnvOk Tryd.prog E_Zcf:=envOk (E:=E_Zcf) cd_ok tys fl_ok fun f ds S h=>by
    dsimp only [E_Zcf] at h
    split at h
    · cases h; exact Zcm_ok
    · cases h
theorem Zcf_ok:SoundT Tryd.prog cd gdn 56 S_Zcf:=
  sound_fn (E:=E_Zcf) (A:=A_Zcf) (done:=[]) (c:=(Tryd.f56.body.getD .skip)) (S:=S_Zcf) (fn:=Tryd.f56) hmix Zcf_env Tryd.func56 rfl (by kernel_rfl) (by kernel_rfl) done_nil (by kernel_rfl) (by kernel_rfl) Zcf_eq
def Zbg (a0:(List UInt8)):Option ((Unit) × ((BitVec 64) × Unit)):=
 ((Zcf (9:Int) a0).bind fun r1=>(some ((),(r1.2.1,()))))
def S_Zbg:FSpec T:=⟨[.f (.v .str)],[(.v .u64)],fun x=>Zbg x.1⟩
def E_Zbg:Env T:=⟨tab.find,cd,globs,flc,fun f ds=>match f with
    | 56=>some S_Zcf
    | _=>none,fun f=>match f with
    | 56=>true
    | _=>false⟩
def A_Zbg:Loc2 T:=⟨fun id=>match id with
    | _=>none,fun r=>match r with
    | _=>none,fun r=>match r with
    | _=>false⟩
theorem Zbg_eq (x:tySs T S_Zbg.ps):run E_Zbg A_Zbg (Tryd.f33.body.getD .skip) (enterT E_Zbg.C S_Zbg.ps x) (retK E_Zbg Tryd.f33.results.toList S_Zbg.ps S_Zbg.rs)=S_Zbg.fn x:=by kernel_rfl
theorem Zbg_env:EnvOk Tryd.prog E_Zbg:=envOk (E:=E_Zbg) cd_ok tys fl_ok fun f ds S h=>by
    dsimp only [E_Zbg] at h
    split at h
    · cases h; exact Zcf_ok
    · cases h
theorem Zbg_ok:SoundT Tryd.prog cd gdn 33 S_Zbg:=
  sound_fn (E:=E_Zbg) (A:=A_Zbg) (done:=[]) (c:=(Tryd.f33.body.getD .skip)) (S:=S_Zbg) (fn:=Tryd.f33) hmix Zbg_env Tryd.func33 rfl (by kernel_rfl) (by kernel_rfl) done_nil (by kernel_rfl) (by kernel_rfl) Zbg_eq
def Zbb (a0:(List UInt8)):Option ((Unit) × ((List (UInt8)) × Unit)):=
 ((Zbg a0).bind fun r1=>((Zbx ([r1.2.1]:List (BitVec 64))).bind fun r2=>(some ((),(r2.2.1,())))))
def S_Zbb:FSpec T:=⟨[.f (.v .str)],[(.own 0)],fun x=>Zbb x.1⟩
def E_Zbb:Env T:=⟨tab.find,cd,globs,flc,fun f ds=>match f with
    | 29=>some S_Zbx
    | 33=>some S_Zbg
    | _=>none,fun f=>match f with
    | 33=>true
    | _=>false⟩
def A_Zbb:Loc2 T:=⟨fun id=>match id with
    | _=>none,fun r=>match r with
    | _=>none,fun r=>match r with
    | _=>false⟩
theorem Zbb_eq (x:tySs T S_Zbb.ps):run E_Zbb A_Zbb (Tryd.f16.body.getD .skip) (enterT E_Zbb.C S_Zbb.ps x) (retK E_Zbb Tryd.f16.results.toList S_Zbb.ps S_Zbb.rs)=S_Zbb.fn x:=by kernel_rfl
theorem Zbb_env:EnvOk Tryd.prog E_Zbb:=envOk (E:=E_Zbb) cd_ok tys fl_ok fun f ds S h=>by
    dsimp only [E_Zbb] at h
    split at h
    · cases h; exact Zbx_ok
    · cases h; exact Zbg_ok
    · cases h
theorem Zbb_ok:SoundT Tryd.prog cd gdn 16 S_Zbb:=
  sound_fn (E:=E_Zbb) (A:=A_Zbb) (done:=[]) (c:=(Tryd.f16.body.getD .skip)) (S:=S_Zbb) (fn:=Tryd.f16) hmix Zbb_env Tryd.func16 rfl (by kernel_rfl) (by kernel_rfl) done_nil (by kernel_rfl) (by kernel_rfl) Zbb_eq
def Zcs_L0b (y0:(List (UInt8))) (y1:(List (UInt8))) (y2:Int) (y3:Int):Option (((List (UInt8)) × (List (UInt8)) × Int × Int × Unit) ⊕ ((List (UInt8)) × Unit)):=
 (bif (decide (y3 < y2)) then (bif (decide ((0:Int) ≤ y3) && decide (y3 < ((y1).length:Int))) then (((y1)[(y3).toNat]?).bind fun x2=>((getI y0 y3).bind fun x3=>(bif (decide ((0:Int) ≤ y3) && decide (y3 < ((y1).length:Int))) then (((y1)[(y3).toNat]?).bind fun x4=>(let v5:List (UInt8):=(List.set y1 (y3).toNat (UInt8.ofBitVec (x2.toBitVec ^^^ x3.toBitVec)))
 (some (Sum.inl (y0,v5,y2,(IntKind.wrap .i64 (y3 + (1:Int))),())))))
 else none)))
 else none)
 else (some (Sum.inr (y1,()))))
def Zcs_L0 (y:((List (UInt8)) × (List (UInt8)) × Int × Int × Unit)):Option ((List (UInt8)) × Unit):=iter (fun (y:((List (UInt8)) × (List (UInt8)) × Int × Int × Unit))=>Zcs_L0b y.1 y.2.1 y.2.2.1 y.2.2.2.1) rounds y
def Zcs (a0:(BitVec 64)) (a1:(BitVec 64)) (a2:(List (UInt8))):Option ((Unit) × ((List (UInt8)) × Unit)):=
 ((Zcg a0 a1 ((a2).length:Int)).bind fun r1=>((Zcs_L0 (a2,r1.2.1,((r1.2.1).length:Int),(0:Int),())).bind (fun (z6:((List (UInt8)) × Unit))=>(some ((),(z6.1,()))))))
def S_Zcs:FSpec T:=⟨[.f (.v .u64),.f (.v .u64),.f (.v (.rs 0))],[(.own 0)],fun x=>Zcs x.1 x.2.1 x.2.2.1⟩
def E_Zcs:Env T:=⟨tab.find,cd,globs,flc,fun f ds=>match f with
    | 12=>some S_Zcg
    | _=>none,fun f=>match f with
    | _=>false⟩
def A_Zcs:Loc2 T:=⟨fun id=>match id with
    | 0=>some ⟨[(2,.f (.v (.rs 0))),(7,.f (.own 0)),(15,.f (.v (.int .i64))),(16,.f (.v (.int .i64)))],[(.exit 0,[(7,.f (.own 0))])],Zcs_L0,[]⟩
    | _=>none,fun r=>match r with
    | _=>none,fun r=>match r with
    | _=>false⟩
theorem Zcs_L0_eq (y0:(List (UInt8))) (y1:(List (UInt8))) (y2:Int) (y3:Int):run E_Zcs A_Zcs (loopAt 0 (Tryd.f30.body.getD .skip)) (layC cd [(2,.f (.v (.rs 0))),(7,.f (.own 0)),(15,.f (.v (.int .i64))),(16,.f (.v (.int .i64)))] [] (y0,y1,y2,y3,())) (roundK cd [(2,.f (.v (.rs 0))),(7,.f (.own 0)),(15,.f (.v (.int .i64))),(16,.f (.v (.int .i64)))] [] [(.exit 0,[(7,.f (.own 0))])])=Zcs_L0b y0 y1 y2 y3:=by kernel_rfl
theorem Zcs_eq (x:tySs T S_Zcs.ps):run E_Zcs A_Zcs (Tryd.f30.body.getD .skip) (enterT E_Zcs.C S_Zcs.ps x) (retK E_Zcs Tryd.f30.results.toList S_Zcs.ps S_Zcs.rs)=S_Zcs.fn x:=by kernel_rfl
theorem Zcs_env:EnvOk Tryd.prog E_Zcs:=envOk (E:=E_Zcs) cd_ok tys fl_ok fun f ds S h=>by
    dsimp only [E_Zcs] at h
    split at h
    · cases h; exact Zcg_ok
    · cases h
theorem Zcs_L0_ok:LoopOk Tryd.prog E_Zcs Tryd.f30.ntmps (kqOf S_Zcs.ps 0) (loopAt 0 (Tryd.f30.body.getD .skip)) ⟨[(2,.f (.v (.rs 0))),(7,.f (.own 0)),(15,.f (.v (.int .i64))),(16,.f (.v (.int .i64)))],[(.exit 0,[(7,.f (.own 0))])],Zcs_L0,[]⟩:=
  loop_ok (A:=A_Zcs) (done:=[]) (c0:=(Tryd.f30.body.getD .skip)) hmix Zcs_env done_nil rounds (by kernel_rfl) (by kernel_rfl) (fun x=>Zcs_L0_eq x.1 x.2.1 x.2.2.1 x.2.2.2.1) (fun _=>rfl)
theorem Zcs_ok:SoundT Tryd.prog cd gdn 30 S_Zcs:=
  sound_fn (E:=E_Zcs) (A:=A_Zcs) (done:=[0]) (c:=(Tryd.f30.body.getD .skip)) (S:=S_Zcs) (fn:=Tryd.f30) hmix Zcs_env Tryd.func30 rfl (by kernel_rfl) (by kernel_rfl) (done_cons rfl Zcs_L0_ok done_nil) (by kernel_rfl) (by kernel_rfl) Zcs_eq
def Zah (a0:Unit) (a1:Int):Option ((Unit) × ((List (UInt8)) × Unit)):=
 (bif (decide (a1 < (0:Int))) then none
 else (bif (decide ((0:Int) < (IntKind.wrap .i64 (a1 - (0:Int))))) then (bif (decide ((0:Int) < (IntKind.wrap .i64 (a1 - (0:Int)))) && (decide ((IntKind.wrap .i64 (a1 - (0:Int))) ≤ 9223372036854775807) && small ((IntKind.wrap .i64 (a1 - (0:Int)))).toNat 1)) then (bif decide ((0:Int) ≤ (((IntKind.wrap .i64 (a1 - (0:Int)))).toNat:Int)) then (bif decide (0 ≤ ((List.replicate ((IntKind.wrap .i64 (a1 - (0:Int)))).toNat (0:UInt8))).length) then (some ((),((List.take 0 (List.replicate ((IntKind.wrap .i64 (a1 - (0:Int)))).toNat (0:UInt8))),())))
 else none)
 else none)
 else none)
 else (some ((),([],())))))
def S_Zah:FSpec T:=⟨[.f (.v .kn),.f (.v (.int .i64))],[(.own 0)],fun x=>Zah x.1 x.2.1⟩
def E_Zah:Env T:=⟨tab.find,cd,globs,flc,fun f ds=>match f with
    | _=>none,fun f=>match f with
    | _=>false⟩
def A_Zah:Loc2 T:=⟨fun id=>match id with
    | _=>none,fun r=>match r with
    | _=>none,fun r=>match r with
    | _=>false⟩
theorem Zah_eq (x:tySs T S_Zah.ps):run E_Zah A_Zah (Tryd.f55.body.getD .skip) (enterT E_Zah.C S_Zah.ps x) (retK E_Zah Tryd.f55.results.toList S_Zah.ps S_Zah.rs)=S_Zah.fn x:=by kernel_rfl
theorem Zah_env:EnvOk Tryd.prog E_Zah:=envOk (E:=E_Zah) cd_ok tys fl_ok fun f ds S h=>by cases h
theorem Zah_ok:SoundT Tryd.prog cd gdn 55 S_Zah:=
  sound_fn (E:=E_Zah) (A:=A_Zah) (done:=[]) (c:=(Tryd.f55.body.getD .skip)) (S:=S_Zah) (fn:=Tryd.f55) hmix Zah_env Tryd.func55 rfl (by kernel_rfl) (by kernel_rfl) done_nil (by kernel_rfl) (by kernel_rfl) Zah_eq
def Zad_L0b (y0:(List (List UInt8))) (y1:Int) (y2:(List (List UInt8))) (y3:Int) (y4:Int):Option (((List (List UInt8)) × Int × (List (List UInt8)) × Int × Int × Unit) ⊕ ((List (List UInt8)) × Int × Unit)):=
 (bif (decide (y4 < y3)) then ((getI y2 y4).bind fun x1=>(bif (decide ((IntKind.wrap .i64 (y1 + ((x1).length:Int))) < (0:Int))) then none
 else (some (Sum.inl (y0,(IntKind.wrap .i64 (y1 + ((x1).length:Int))),y2,y3,(IntKind.wrap .i64 (y4 + (1:Int))),())))))
 else (some (Sum.inr (y0,y1,()))))
def Zad_L0 (y:((List (List UInt8)) × Int × (List (List UInt8)) × Int × Int × Unit)):Option ((List (List UInt8)) × Int × Unit):=iter (fun (y:((List (List UInt8)) × Int × (List (List UInt8)) × Int × Int × Unit))=>Zad_L0b y.1 y.2.1 y.2.2.1 y.2.2.2.1 y.2.2.2.2.1) rounds y
def Zad_L2b (y0:(List (UInt8))) (y1:(List (List UInt8))) (y2:Int) (y3:Int):Option (((List (UInt8)) × (List (List UInt8)) × Int × Int × Unit) ⊕ ((List (UInt8)) × Unit)):=
 (bif (decide (y3 < y2)) then ((getI y1 y3).bind fun x4=>(bif small ((y0).length + (x4:List (UInt8)).length) 1 then (some (Sum.inl ((y0 ++ x4),y1,y2,(IntKind.wrap .i64 (y3 + (1:Int))),())))
 else none))
 else (some (Sum.inr (y0,()))))
def Zad_L2 (y:((List (UInt8)) × (List (List UInt8)) × Int × Int × Unit)):Option ((List (UInt8)) × Unit):=iter (fun (y:((List (UInt8)) × (List (List UInt8)) × Int × Int × Unit))=>Zad_L2b y.1 y.2.1 y.2.2.1 y.2.2.2.1) rounds y
def Zad (a0:(List (List UInt8))):Option ((Unit) × ((List (UInt8)) × Unit)):=
 ((Zad_L0 (a0,(0:Int),a0,((a0).length:Int),(0:Int),())).bind (fun (z2:((List (List UInt8)) × Int × Unit))=>((Zah () z2.2.1).bind fun r3=>((Zad_L2 (r3.2.1,z2.1,((z2.1).length:Int),(0:Int),())).bind (fun (z5:((List (UInt8)) × Unit))=>(some ((),(z5.1,()))))))))
def S_Zad:FSpec T:=⟨[.f (.v (.rs 11))],[(.own 0)],fun x=>Zad x.1⟩
def E_Zad:Env T:=⟨tab.find,cd,globs,flc,fun f ds=>match f with
    | 55=>some S_Zah
    | _=>none,fun f=>match f with
    | _=>false⟩
def A_Zad:Loc2 T:=⟨fun id=>match id with
    | 0=>some ⟨[(0,.f (.v (.rs 11))),(3,.f (.v (.int .i64))),(9,.f (.v (.rs 11))),(10,.f (.v (.int .i64))),(11,.f (.v (.int .i64)))],[(.exit 0,[(0,.f (.v (.rs 11))),(3,.f (.v (.int .i64)))])],Zad_L0,[]⟩
    | 2=>some ⟨[(6,.f (.own 0)),(25,.f (.v (.rs 11))),(26,.f (.v (.int .i64))),(27,.f (.v (.int .i64)))],[(.exit 2,[(6,.f (.own 0))])],Zad_L2,[]⟩
    | _=>none,fun r=>match r with
    | _=>none,fun r=>match r with
    | _=>false⟩
theorem Zad_L0_eq (y0:(List (List UInt8))) (y1:Int) (y2:(List (List UInt8))) (y3:Int) (y4:Int):run E_Zad A_Zad (loopAt 0 (Tryd.f32.body.getD .skip)) (layC cd [(0,.f (.v (.rs 11))),(3,.f (.v (.int .i64))),(9,.f (.v (.rs 11))),(10,.f (.v (.int .i64))),(11,.f (.v (.int .i64)))] [] (y0,y1,y2,y3,y4,())) (roundK cd [(0,.f (.v (.rs 11))),(3,.f (.v (.int .i64))),(9,.f (.v (.rs 11))),(10,.f (.v (.int .i64))),(11,.f (.v (.int .i64)))] [] [(.exit 0,[(0,.f (.v (.rs 11))),(3,.f (.v (.int .i64)))])])=Zad_L0b y0 y1 y2 y3 y4:=by kernel_rfl
theorem Zad_L2_eq (y0:(List (UInt8))) (y1:(List (List UInt8))) (y2:Int) (y3:Int):run E_Zad A_Zad (loopAt 2 (Tryd.f32.body.getD .skip)) (layC cd [(6,.f (.own 0)),(25,.f (.v (.rs 11))),(26,.f (.v (.int .i64))),(27,.f (.v (.int .i64)))] [] (y0,y1,y2,y3,())) (roundK cd [(6,.f (.own 0)),(25,.f (.v (.rs 11))),(26,.f (.v (.int .i64))),(27,.f (.v (.int .i64)))] [] [(.exit 2,[(6,.f (.own 0))])])=Zad_L2b y0 y1 y2 y3:=by kernel_rfl
theorem Zad_eq (x:tySs T S_Zad.ps):run E_Zad A_Zad (Tryd.f32.body.getD .skip) (enterT E_Zad.C S_Zad.ps x) (retK E_Zad Tryd.f32.results.toList S_Zad.ps S_Zad.rs)=S_Zad.fn x:=by kernel_rfl
theorem Zad_env:EnvOk Tryd.prog E_Zad:=envOk (E:=E_Zad) cd_ok tys fl_ok fun f ds S h=>by
    dsimp only [E_Zad] at h
    split at h
    · cases h; exact Zah_ok
    · cases h
theorem Zad_L0_ok:LoopOk Tryd.prog E_Zad Tryd.f32.ntmps (kqOf S_Zad.ps 0) (loopAt 0 (Tryd.f32.body.getD .skip)) ⟨[(0,.f (.v (.rs 11))),(3,.f (.v (.int .i64))),(9,.f (.v (.rs 11))),(10,.f (.v (.int .i64))),(11,.f (.v (.int .i64)))],[(.exit 0,[(0,.f (.v (.rs 11))),(3,.f (.v (.int .i64)))])],Zad_L0,[]⟩:=
  loop_ok (A:=A_Zad) (done:=[]) (c0:=(Tryd.f32.body.getD .skip)) hmix Zad_env done_nil rounds (by kernel_rfl) (by kernel_rfl) (fun x=>Zad_L0_eq x.1 x.2.1 x.2.2.1 x.2.2.2.1 x.2.2.2.2.1) (fun _=>rfl)
theorem Zad_L2_ok:LoopOk Tryd.prog E_Zad Tryd.f32.ntmps (kqOf S_Zad.ps 0) (loopAt 2 (Tryd.f32.body.getD .skip)) ⟨[(6,.f (.own 0)),(25,.f (.v (.rs 11))),(26,.f (.v (.int .i64))),(27,.f (.v (.int .i64)))],[(.exit 2,[(6,.f (.own 0))])],Zad_L2,[]⟩:=
  loop_ok (A:=A_Zad) (done:=[0]) (c0:=(Tryd.f32.body.getD .skip)) hmix Zad_env (done_cons rfl Zad_L0_ok done_nil) rounds (by kernel_rfl) (by kernel_rfl) (fun x=>Zad_L2_eq x.1 x.2.1 x.2.2.1 x.2.2.2.1) (fun _=>rfl)
theorem Zad_ok:SoundT Tryd.prog cd gdn 32 S_Zad:=
  sound_fn (E:=E_Zad) (A:=A_Zad) (done:=[0,2]) (c:=(Tryd.f32.body.getD .skip)) (S:=S_Zad) (fn:=Tryd.f32) hmix Zad_env Tryd.func32 rfl (by kernel_rfl) (by kernel_rfl) (done_cons rfl Zad_L0_ok (done_cons rfl Zad_L2_ok done_nil)) (by kernel_rfl) (by kernel_rfl) Zad_eq
def Zct (a0:(BitVec 64)) (a1:(BitVec 64)) (a2:(List (UInt8))) (a3:(List (UInt8))):Option ((Unit) × (Arr8_UInt8 × Unit)):=
 (let v1:List (BitVec 64):=([a1,(BitVec.ofInt 64 ((a2).length:Int))]:List (BitVec 64))
 ((Zbx v1).bind fun r2=>((Zad ([r2.2.1,a2,a3]:List (List UInt8))).bind fun r3=>((Zcl a0 (6:Int) r3.2.1).bind fun r4=>((Zbx ([r4.2.1]:List (BitVec 64))).bind fun r5=>(bif decide (8 ≤ (r5.2.1).length) then (((r5.2.1)[0]?).bind fun x6=>(((r5.2.1)[1]?).bind fun x7=>(((r5.2.1)[2]?).bind fun x8=>(((r5.2.1)[3]?).bind fun x9=>(((r5.2.1)[4]?).bind fun x10=>(((r5.2.1)[5]?).bind fun x11=>(((r5.2.1)[6]?).bind fun x12=>(((r5.2.1)[7]?).bind fun x13=>(((([x6,x7,x8,x9,x10,x11,x12,x13]:List (UInt8)))[0]?).bind fun x14=>(((([x6,x7,x8,x9,x10,x11,x12,x13]:List (UInt8)))[1]?).bind fun x15=>(((([x6,x7,x8,x9,x10,x11,x12,x13]:List (UInt8)))[2]?).bind fun x16=>(((([x6,x7,x8,x9,x10,x11,x12,x13]:List (UInt8)))[3]?).bind fun x17=>(((([x6,x7,x8,x9,x10,x11,x12,x13]:List (UInt8)))[4]?).bind fun x18=>(((([x6,x7,x8,x9,x10,x11,x12,x13]:List (UInt8)))[5]?).bind fun x19=>(((([x6,x7,x8,x9,x10,x11,x12,x13]:List (UInt8)))[6]?).bind fun x20=>(((([x6,x7,x8,x9,x10,x11,x12,x13]:List (UInt8)))[7]?).bind fun x21=>(some ((),((⟨x14,x15,x16,x17,x18,x19,x20,x21⟩:Arr8_UInt8),())))))))))))))))))))
 else none))))))
def S_Zct:FSpec T:=⟨[.f (.v .u64),.f (.v .u64),.f (.v (.rs 0)),.f (.v (.rs 0))],[(.v (.agg 12))],fun x=>Zct x.1 x.2.1 x.2.2.1 x.2.2.2.1⟩
def E_Zct:Env T:=⟨tab.find,cd,globs,flc,fun f ds=>match f with
    | 28=>some S_Zcl
    | 29=>some S_Zbx
    | 32=>some S_Zad
    | _=>none,fun f=>match f with
    | 28=>true
    | _=>false⟩
def A_Zct:Loc2 T:=⟨fun id=>match id with
    | _=>none,fun r=>match r with
    | _=>none,fun r=>match r with
    | _=>false⟩
theorem Zct_eq (x:tySs T S_Zct.ps):run E_Zct A_Zct (Tryd.f31.body.getD .skip) (enterT E_Zct.C S_Zct.ps x) (retK E_Zct Tryd.f31.results.toList S_Zct.ps S_Zct.rs)=S_Zct.fn x:=by kernel_rfl
theorem Zct_env:EnvOk Tryd.prog E_Zct:=envOk (E:=E_Zct) cd_ok tys fl_ok fun f ds S h=>by
    dsimp only [E_Zct] at h
    split at h
    · cases h; exact Zcl_ok
    · cases h; exact Zbx_ok
    · cases h; exact Zad_ok
    · cases h
theorem Zct_ok:SoundT Tryd.prog cd gdn 31 S_Zct:=
  sound_fn (E:=E_Zct) (A:=A_Zct) (done:=[]) (c:=(Tryd.f31.body.getD .skip)) (S:=S_Zct) (fn:=Tryd.f31) hmix Zct_env Tryd.func31 rfl (by kernel_rfl) (by kernel_rfl) done_nil (by kernel_rfl) (by kernel_rfl) Zct_eq
def Zcr (a0:(BitVec 64)) (a1:(BitVec 64)) (a2:(List (UInt8))) (a3:(List (UInt8))):Option ((Unit) × ((List (UInt8)) × Int × Unit)):=
 (bif (decide ((1024:Int) < ((a3).length:Int))) then (some ((),([],(8:Int),())))
 else (bif (decide ((1024:Int) < ((a2).length:Int))) then (some ((),([],(8:Int),())))
 else ((Zcs a0 a1 a3).bind fun r1=>((Zct a0 a1 a2 r1.2.1).bind fun r2=>((Zbx ([a1]:List (BitVec 64))).bind fun r3=>(let v4:List (List UInt8):=([r3.2.1,r1.2.1,([r2.2.1.a0,r2.2.1.a1,r2.2.1.a2,r2.2.1.a3,r2.2.1.a4,r2.2.1.a5,r2.2.1.a6,r2.2.1.a7]:List (UInt8))]:List (List UInt8))
 ((Zad v4).bind fun r5=>(some ((),(r5.2.1,(0:Int),()))))))))))
def S_Zcr:FSpec T:=⟨[.f (.v .u64),.f (.v .u64),.f (.v (.rs 0)),.f (.v (.rs 0))],[(.own 0),(.v (.int .i64))],fun x=>Zcr x.1 x.2.1 x.2.2.1 x.2.2.2.1⟩
def E_Zcr:Env T:=⟨tab.find,cd,globs,flc,fun f ds=>match f with
    | 29=>some S_Zbx
    | 30=>some S_Zcs
    | 31=>some S_Zct
    | 32=>some S_Zad
    | _=>none,fun f=>match f with
    | 31=>true
    | _=>false⟩
def A_Zcr:Loc2 T:=⟨fun id=>match id with
    | _=>none,fun r=>match r with
    | _=>none,fun r=>match r with
    | 5=>true
    | _=>false⟩
theorem Zcr_eq (x:tySs T S_Zcr.ps):run E_Zcr A_Zcr (Tryd.f14.body.getD .skip) (enterT E_Zcr.C S_Zcr.ps x) (retK E_Zcr Tryd.f14.results.toList S_Zcr.ps S_Zcr.rs)=S_Zcr.fn x:=by kernel_rfl
theorem Zcr_env:EnvOk Tryd.prog E_Zcr:=envOk (E:=E_Zcr) cd_ok tys fl_ok fun f ds S h=>by
    dsimp only [E_Zcr] at h
    split at h
    · cases h; exact Zbx_ok
    · cases h; exact Zcs_ok
    · cases h; exact Zct_ok
    · cases h; exact Zad_ok
    · cases h
theorem Zcr_ok:SoundT Tryd.prog cd gdn 14 S_Zcr:=
  sound_fn (E:=E_Zcr) (A:=A_Zcr) (done:=[]) (c:=(Tryd.f14.body.getD .skip)) (S:=S_Zcr) (fn:=Tryd.f14) hmix Zcr_env Tryd.func14 rfl (by kernel_rfl) (by kernel_rfl) done_nil (by kernel_rfl) (by kernel_rfl) Zcr_eq
def Zbr (a0:(BitVec 64)) (a1:(BitVec 64)) (a2:ApiCredential):Option ((Unit) × ((List (UInt8)) × Int × Unit)):=
 ((Zat a2).bind fun r1=>(bif (!decide (r1.2.2.1=(0:Int))) then (some ((),([],r1.2.2.1,())))
 else (bif a2.resident then ((Zbs a2.seed ([105,100]:List UInt8) (0:Int)).bind fun r2=>((Zcg r2.2.1 (0#64) (176:Int)).bind fun r3=>(some ((),(r3.2.1,(0:Int),())))))
 else (let v4:List (UInt8):=(List.replicate 160 (0:UInt8))
 (bif decide ((r1.2.1:List (UInt8)).length ≤ (v4).length) then (let v5:List (UInt8):=(r1.2.1 ++ List.drop (r1.2.1:List (UInt8)).length v4)
 ((Zap a0).bind fun r6=>((Zbb a2.rP).bind fun r7=>((Zcr r6.2.1 a1 r7.2.1 v5).bind fun r8=>(some ((),(r8.2.1,r8.2.2.1,())))))))
 else none)))))
def S_Zbr:FSpec T:=⟨[.f (.v .u64),.f (.v .u64),.f (.v (.agg 3))],[(.own 0),(.v (.int .i64))],fun x=>Zbr x.1 x.2.1 x.2.2.1⟩
def E_Zbr:Env T:=⟨tab.find,cd,globs,flc,fun f ds=>match f with
    | 11=>some S_Zat
    | 12=>some S_Zcg
    | 13=>some S_Zbs
    | 14=>some S_Zcr
    | 15=>some S_Zap
    | 16=>some S_Zbb
    | _=>none,fun f=>match f with
    | 13=>true
    | 15=>true
    | _=>false⟩
def A_Zbr:Loc2 T:=⟨fun id=>match id with
    | _=>none,fun r=>match r with
    | _=>none,fun r=>match r with
    | _=>false⟩
theorem Zbr_eq (x:tySs T S_Zbr.ps):run E_Zbr A_Zbr (Tryd.f5.body.getD .skip) (enterT E_Zbr.C S_Zbr.ps x) (retK E_Zbr Tryd.f5.results.toList S_Zbr.ps S_Zbr.rs)=S_Zbr.fn x:=by kernel_rfl
theorem Zbr_env:EnvOk Tryd.prog E_Zbr:=envOk (E:=E_Zbr) cd_ok tys fl_ok fun f ds S h=>by
    dsimp only [E_Zbr] at h
    split at h
    · cases h; exact Zat_ok
    · cases h; exact Zcg_ok
    · cases h; exact Zbs_ok
    · cases h; exact Zcr_ok
    · cases h; exact Zap_ok
    · cases h; exact Zbb_ok
    · cases h
theorem Zbr_ok:SoundT Tryd.prog cd gdn 5 S_Zbr:=
  sound_fn (E:=E_Zbr) (A:=A_Zbr) (done:=[]) (c:=(Tryd.f5.body.getD .skip)) (S:=S_Zbr) (fn:=Tryd.f5) hmix Zbr_env Tryd.func5 rfl (by kernel_rfl) (by kernel_rfl) done_nil (by kernel_rfl) (by kernel_rfl) Zbr_eq
def Zcq_L0b (y0:(BitVec 64)) (y1:(List (UInt8))) (y2:(List (UInt8))) (y3:(BitVec 64)) (y4:(List (UInt8))) (y5:Int) (y6:Int):Option (((BitVec 64) × (List (UInt8)) × (List (UInt8)) × (BitVec 64) × (List (UInt8)) × Int × Int × Unit) ⊕ ((BitVec 64) × (List (UInt8)) × (List (UInt8)) × (BitVec 64) × Unit)):=
 (bif (decide (y6 < y5)) then ((getI y4 y6).bind fun x1=>(some (Sum.inl (y0,y1,y2,((y3 <<< 8) ||| (BitVec.setWidth 64 x1.toBitVec)),y4,y5,(IntKind.wrap .i64 (y6 + (1:Int))),()))))
 else (some (Sum.inr (y0,y1,y2,y3,()))))
def Zcq_L0 (y:((BitVec 64) × (List (UInt8)) × (List (UInt8)) × (BitVec 64) × (List (UInt8)) × Int × Int × Unit)):Option ((BitVec 64) × (List (UInt8)) × (List (UInt8)) × (BitVec 64) × Unit):=iter (fun (y:((BitVec 64) × (List (UInt8)) × (List (UInt8)) × (BitVec 64) × (List (UInt8)) × Int × Int × Unit))=>Zcq_L0b y.1 y.2.1 y.2.2.1 y.2.2.2.1 y.2.2.2.2.1 y.2.2.2.2.2.1 y.2.2.2.2.2.2.1) rounds y
def Zcq (a0:(BitVec 64)) (a1:(List (UInt8))) (a2:(List (UInt8))):Option ((Unit) × ((List (UInt8)) × Int × Unit)):=
 (bif (decide (((a2).length:Int) < (16:Int))) then (some ((),([],(1:Int),())))
 else (bif (decide ((1040:Int) < ((a2).length:Int))) then (some ((),([],(8:Int),())))
 else (bif (decide ((1024:Int) < ((a1).length:Int))) then (some ((),([],(8:Int),())))
 else (bif decide ((8:Int) ≤ ((a2).length:Int)) then ((Zcq_L0 (a0,a1,a2,0#64,(List.take 8 a2),(((List.take 8 a2)).length:Int),(0:Int),())).bind (fun (z2:((BitVec 64) × (List (UInt8)) × (List (UInt8)) × (BitVec 64) × Unit))=>(bif (decide ((0:Int) ≤ (IntKind.wrap .i64 (((z2.2.2.1).length:Int) - (8:Int)))) && decide ((IntKind.wrap .i64 (((z2.2.2.1).length:Int) - (8:Int))) ≤ ((z2.2.2.1).length:Int))) then (let v3:List (UInt8):=(List.drop ((IntKind.wrap .i64 (((z2.2.2.1).length:Int) - (8:Int)))).toNat z2.2.2.1)
 (((v3)[0]?).bind fun x4=>(((v3)[1]?).bind fun x5=>(((v3)[2]?).bind fun x6=>(((v3)[3]?).bind fun x7=>(((v3)[4]?).bind fun x8=>(((v3)[5]?).bind fun x9=>(((v3)[6]?).bind fun x10=>(((v3)[7]?).bind fun x11=>(bif (decide ((0:Int) ≤ (IntKind.wrap .i64 (((z2.2.2.1).length:Int) - (8:Int)))) && decide ((IntKind.wrap .i64 (((z2.2.2.1).length:Int) - (8:Int))) ≤ ((z2.2.2.1).length:Int))) then (bif decide ((8:Int) ≤ (((IntKind.wrap .i64 (((z2.2.2.1).length:Int) - (8:Int)))).toNat:Int)) then (let v12:List (UInt8):=(List.drop 8 (List.take ((IntKind.wrap .i64 (((z2.2.2.1).length:Int) - (8:Int)))).toNat z2.2.2.1))
 ((Zct z2.1 z2.2.2.2.1 z2.2.1 v12).bind fun r13=>(let v14:Bool:=(!(decide (x4=r13.2.1.a0) && (decide (x5=r13.2.1.a1) && (decide (x6=r13.2.1.a2) && (decide (x7=r13.2.1.a3) && (decide (x8=r13.2.1.a4) && (decide (x9=r13.2.1.a5) && (decide (x10=r13.2.1.a6) && (decide (x11=r13.2.1.a7) && true)))))))))
 (bif v14 then (some ((),([],(14:Int),())))
 else (bif (decide ((0:Int) ≤ (IntKind.wrap .i64 (((z2.2.2.1).length:Int) - (8:Int)))) && decide ((IntKind.wrap .i64 (((z2.2.2.1).length:Int) - (8:Int))) ≤ ((z2.2.2.1).length:Int))) then (bif decide ((8:Int) ≤ (((IntKind.wrap .i64 (((z2.2.2.1).length:Int) - (8:Int)))).toNat:Int)) then (let v15:List (UInt8):=(List.drop 8 (List.take ((IntKind.wrap .i64 (((z2.2.2.1).length:Int) - (8:Int)))).toNat z2.2.2.1))
 ((Zcs z2.1 z2.2.2.2.1 v15).bind fun r16=>(some ((),(r16.2.1,(0:Int),())))))
 else none)
 else none)))))
 else none)
 else none))))))))))
 else none)))
 else none))))
def S_Zcq:FSpec T:=⟨[.f (.v .u64),.f (.v (.rs 0)),.f (.v (.rs 0))],[(.own 0),(.v (.int .i64))],fun x=>Zcq x.1 x.2.1 x.2.2.1⟩
def E_Zcq:Env T:=⟨tab.find,cd,globs,flc,fun f ds=>match f with
    | 30=>some S_Zcs
    | 31=>some S_Zct
    | _=>none,fun f=>match f with
    | 31=>true
    | _=>false⟩
def A_Zcq:Loc2 T:=⟨fun id=>match id with
    | 0=>some ⟨[(0,.f (.v .u64)),(1,.f (.v (.rs 0))),(2,.f (.v (.rs 0))),(8,.f (.v .u64)),(24,.f (.v (.rs 0))),(25,.f (.v (.int .i64))),(26,.f (.v (.int .i64)))],[(.exit 0,[(0,.f (.v .u64)),(1,.f (.v (.rs 0))),(2,.f (.v (.rs 0))),(8,.f (.v .u64))])],Zcq_L0,[]⟩
    | _=>none,fun r=>match r with
    | _=>none,fun r=>match r with
    | _=>false⟩
theorem Zcq_L0_eq (y0:(BitVec 64)) (y1:(List (UInt8))) (y2:(List (UInt8))) (y3:(BitVec 64)) (y4:(List (UInt8))) (y5:Int) (y6:Int):run E_Zcq A_Zcq (loopAt 0 (Tryd.f18.body.getD .skip)) (layC cd [(0,.f (.v .u64)),(1,.f (.v (.rs 0))),(2,.f (.v (.rs 0))),(8,.f (.v .u64)),(24,.f (.v (.rs 0))),(25,.f (.v (.int .i64))),(26,.f (.v (.int .i64)))] [] (y0,y1,y2,y3,y4,y5,y6,())) (roundK cd [(0,.f (.v .u64)),(1,.f (.v (.rs 0))),(2,.f (.v (.rs 0))),(8,.f (.v .u64)),(24,.f (.v (.rs 0))),(25,.f (.v (.int .i64))),(26,.f (.v (.int .i64)))] [] [(.exit 0,[(0,.f (.v .u64)),(1,.f (.v (.rs 0))),(2,.f (.v (.rs 0))),(8,.f (.v .u64))])])=Zcq_L0b y0 y1 y2 y3 y4 y5 y6:=by kernel_rfl
theorem Zcq_eq (x:tySs T S_Zcq.ps):run E_Zcq A_Zcq (Tryd.f18.body.getD .skip) (enterT E_Zcq.C S_Zcq.ps x) (retK E_Zcq Tryd.f18.results.toList S_Zcq.ps S_Zcq.rs)=S_Zcq.fn x:=by kernel_rfl
theorem Zcq_env:EnvOk Tryd.prog E_Zcq:=envOk (E:=E_Zcq) cd_ok tys fl_ok fun f ds S h=>by
    dsimp only [E_Zcq] at h
    split at h
    · cases h; exact Zcs_ok
    · cases h; exact Zct_ok
    · cases h
theorem Zcq_L0_ok:LoopOk Tryd.prog E_Zcq Tryd.f18.ntmps (kqOf S_Zcq.ps 0) (loopAt 0 (Tryd.f18.body.getD .skip)) ⟨[(0,.f (.v .u64)),(1,.f (.v (.rs 0))),(2,.f (.v (.rs 0))),(8,.f (.v .u64)),(24,.f (.v (.rs 0))),(25,.f (.v (.int .i64))),(26,.f (.v (.int .i64)))],[(.exit 0,[(0,.f (.v .u64)),(1,.f (.v (.rs 0))),(2,.f (.v (.rs 0))),(8,.f (.v .u64))])],Zcq_L0,[]⟩:=
  loop_ok (A:=A_Zcq) (done:=[]) (c0:=(Tryd.f18.body.getD .skip)) hmix Zcq_env done_nil rounds (by kernel_rfl) (by kernel_rfl) (fun x=>Zcq_L0_eq x.1 x.2.1 x.2.2.1 x.2.2.2.1 x.2.2.2.2.1 x.2.2.2.2.2.1 x.2.2.2.2.2.2.1) (fun _=>rfl)
theorem Zcq_ok:SoundT Tryd.prog cd gdn 18 S_Zcq:=
  sound_fn (E:=E_Zcq) (A:=A_Zcq) (done:=[0]) (c:=(Tryd.f18.body.getD .skip)) (S:=S_Zcq) (fn:=Tryd.f18) hmix Zcq_env Tryd.func18 rfl (by kernel_rfl) (by kernel_rfl) (done_cons rfl Zcq_L0_ok done_nil) (by kernel_rfl) (by kernel_rfl) Zcq_eq
def Zck (a0:(BitVec 64)):Option ((Unit) × (Int × Unit)):=
 (bif (decide (a0.toNat < (24#64).toNat)) then (some ((),((0:Int),())))
 else (bif (decide (a0.toNat < (256#64).toNat)) then (some ((),((1:Int),())))
 else (bif (decide (a0.toNat < (65536#64).toNat)) then (some ((),((2:Int),())))
 else (bif (decide (a0.toNat < (4294967296#64).toNat)) then (some ((),((4:Int),())))
 else (some ((),((8:Int),())))))))
def S_Zck:FSpec T:=⟨[.f (.v .u64)],[(.v (.int .i64))],fun x=>Zck x.1⟩
def E_Zck:Env T:=⟨tab.find,cd,globs,flc,fun f ds=>match f with
    | _=>none,fun f=>match f with
    | _=>false⟩
def A_Zck:Loc2 T:=⟨fun id=>match id with
    | _=>none,fun r=>match r with
    | _=>none,fun r=>match r with
    | _=>false⟩
theorem Zck_eq (x:tySs T S_Zck.ps):run E_Zck A_Zck (Tryd.f74.body.getD .skip) (enterT E_Zck.C S_Zck.ps x) (retK E_Zck Tryd.f74.results.toList S_Zck.ps S_Zck.rs)=S_Zck.fn x:=by kernel_rfl
theorem Zck_env:EnvOk Tryd.prog E_Zck:=envOk (E:=E_Zck) cd_ok tys fl_ok fun f ds S h=>by cases h
theorem Zck_ok:SoundT Tryd.prog cd gdn 74 S_Zck:=
  sound_fn (E:=E_Zck) (A:=A_Zck) (done:=[]) (c:=(Tryd.f74.body.getD .skip)) (S:=S_Zck) (fn:=Tryd.f74) hmix Zck_env Tryd.func74 rfl (by kernel_rfl) (by kernel_rfl) done_nil (by kernel_rfl) (by kernel_rfl) Zck_eq
def Zaw_L1b (y0:((List (CborFrame)) × Int × (List (UInt8)) × Int × Unit)) (y1:Int) (y2:(BitVec 64)) (y3:Int) (y4:(List (UInt8))) (y5:Int) (y6:Int):Option ((((List (CborFrame)) × Int × (List (UInt8)) × Int × Unit) × Int × (BitVec 64) × Int × (List (UInt8)) × Int × Int × Unit) ⊕ (((List (CborFrame)) × Int × (List (UInt8)) × Int × Unit) × Int × (BitVec 64) × Int × Unit)):=
 (bif (decide (y6 < y5)) then ((getI y4 y6).bind fun x10=>(some (Sum.inl ((y0.1,y0.2.1,y0.2.2.1,y0.2.2.2.1,()),y1,((y2 <<< 8) ||| (BitVec.setWidth 64 x10.toBitVec)),y3,y4,y5,(IntKind.wrap .i64 (y6 + (1:Int))),()))))
 else (some (Sum.inr ((y0.1,y0.2.1,y0.2.2.1,y0.2.2.2.1,()),y1,y2,y3,()))))
def Zaw_L1 (y:(((List (CborFrame)) × Int × (List (UInt8)) × Int × Unit) × Int × (BitVec 64) × Int × (List (UInt8)) × Int × Int × Unit)):Option (((List (CborFrame)) × Int × (List (UInt8)) × Int × Unit) × Int × (BitVec 64) × Int × Unit):=iter (fun (y:(((List (CborFrame)) × Int × (List (UInt8)) × Int × Unit) × Int × (BitVec 64) × Int × (List (UInt8)) × Int × Int × Unit))=>Zaw_L1b y.1 y.2.1 y.2.2.1 y.2.2.2.1 y.2.2.2.2.1 y.2.2.2.2.2.1 y.2.2.2.2.2.2.1) rounds y
def Zaw (a0:((List (CborFrame)) × Int × (List (UInt8)) × Int × Unit)):Option ((((List (CborFrame)) × Int × (List (UInt8)) × Int × Unit) × Unit) × (Int × (BitVec 64) × Int × Unit)):=
 (bif (decide (((a0.2.2.1).length:Int) ≤ a0.2.2.2.1)) then (some (((a0.1,a0.2.1,a0.2.2.1,a0.2.2.2.1,()),()),((0:Int),0#64,(1:Int),())))
 else ((getI a0.2.2.1 a0.2.2.2.1).bind fun x1=>((bif (decide (x1.toBitVec=(244:UInt8).toBitVec)) then (bif (decide (x1.toBitVec=(244:UInt8).toBitVec)) then (let v2:BitVec 64:=(BitVec.setWidth 64 (UInt8.ofBitVec (x1.toBitVec - (244:UInt8).toBitVec)).toBitVec)
 (((some (((a0.1,a0.2.1,a0.2.2.1,(IntKind.wrap .i64 (a0.2.2.2.1 + (1:Int))),()),()),((7:Int),v2,(0:Int),())))).bind fun q=>some (Sum.inr q)))
 else (bif (decide (x1.toBitVec=(246:UInt8).toBitVec)) then (((some (((a0.1,a0.2.1,a0.2.2.1,(IntKind.wrap .i64 (a0.2.2.2.1 + (1:Int))),()),()),((8:Int),0#64,(0:Int),())))).bind fun q=>some (Sum.inr q))
 else (some (Sum.inl ((a0.1,a0.2.1,a0.2.2.1,(IntKind.wrap .i64 (a0.2.2.2.1 + (1:Int))),()),0#64,x1,())))))
 else (bif (decide (x1.toBitVec=(245:UInt8).toBitVec)) then (let v3:BitVec 64:=(BitVec.setWidth 64 (UInt8.ofBitVec (x1.toBitVec - (244:UInt8).toBitVec)).toBitVec)
 (((some (((a0.1,a0.2.1,a0.2.2.1,(IntKind.wrap .i64 (a0.2.2.2.1 + (1:Int))),()),()),((7:Int),v3,(0:Int),())))).bind fun q=>some (Sum.inr q)))
 else (bif (decide (x1.toBitVec=(246:UInt8).toBitVec)) then (((some (((a0.1,a0.2.1,a0.2.2.1,(IntKind.wrap .i64 (a0.2.2.2.1 + (1:Int))),()),()),((8:Int),0#64,(0:Int),())))).bind fun q=>some (Sum.inr q))
 else (some (Sum.inl ((a0.1,a0.2.1,a0.2.2.1,(IntKind.wrap .i64 (a0.2.2.2.1 + (1:Int))),()),0#64,x1,())))))).bind (Sum.elim (fun (j4:(((List (CborFrame)) × Int × (List (UInt8)) × Int × Unit) × (BitVec 64) × UInt8 × Unit))=>(let v5:UInt8:=(UInt8.ofBitVec (j4.2.2.1.toBitVec &&& (31:UInt8).toBitVec))
 (bif (decide ((5:UInt8).toBitVec.toNat < (UInt8.ofBitVec (j4.2.2.1.toBitVec >>> 5)).toBitVec.toNat)) then (some (((j4.1.1,j4.1.2.1,j4.1.2.2.1,j4.1.2.2.2.1,()),()),((0:Int),0#64,(2:Int),())))
 else (bif (decide ((27:UInt8).toBitVec.toNat < v5.toBitVec.toNat)) then (some (((j4.1.1,j4.1.2.1,j4.1.2.2.1,j4.1.2.2.2.1,()),()),((0:Int),0#64,(2:Int),())))
 else (let v6:Int:=((UInt8.ofBitVec (j4.2.2.1.toBitVec >>> 5)).toBitVec.toNat:Int)
 (bif (decide (v5.toBitVec.toNat < (24:UInt8).toBitVec.toNat)) then (some (((j4.1.1,j4.1.2.1,j4.1.2.2.1,j4.1.2.2.2.1,()),()),((IntKind.wrap .i64 ((1:Int) + v6)),(BitVec.setWidth 64 v5.toBitVec),(0:Int),())))
 else (let v7:Int:=(IntKind.wrap .i64 ((1:Int) * 2 ^ (min (UInt8.ofBitVec (v5.toBitVec - (24:UInt8).toBitVec)).toNat (IntKind.bits .i64))))
 (let v8:Int:=(IntKind.wrap .i64 (((j4.1.2.2.1).length:Int) - j4.1.2.2.2.1))
 (bif (decide (v8 < v7)) then (some (((j4.1.1,j4.1.2.1,j4.1.2.2.1,j4.1.2.2.2.1,()),()),((0:Int),0#64,(1:Int),())))
 else (bif (decide ((0:Int) ≤ (IntKind.wrap .i64 (j4.1.2.2.2.1 + v7))) && decide ((IntKind.wrap .i64 (j4.1.2.2.2.1 + v7)) ≤ ((j4.1.2.2.1).length:Int))) then (bif (decide ((0:Int) ≤ j4.1.2.2.2.1) && decide (j4.1.2.2.2.1 ≤ (((IntKind.wrap .i64 (j4.1.2.2.2.1 + v7))).toNat:Int))) then (let v9:List (UInt8):=(List.drop (j4.1.2.2.2.1).toNat (List.take ((IntKind.wrap .i64 (j4.1.2.2.2.1 + v7))).toNat j4.1.2.2.1))
 ((Zaw_L1 ((j4.1.1,j4.1.2.1,j4.1.2.2.1,j4.1.2.2.2.1,()),(IntKind.wrap .i64 ((1:Int) + v6)),j4.2.1,v7,v9,((v9).length:Int),(0:Int),())).bind (fun (z11:(((List (CborFrame)) × Int × (List (UInt8)) × Int × Unit) × Int × (BitVec 64) × Int × Unit))=>((Zck z11.2.2.1).bind fun r12=>(bif (decide (r12.2.1 < z11.2.2.2.1)) then (some (((z11.1.1,z11.1.2.1,z11.1.2.2.1,(IntKind.wrap .i64 (z11.1.2.2.2.1 + z11.2.2.2.1)),()),()),((0:Int),0#64,(2:Int),())))
 else (some (((z11.1.1,z11.1.2.1,z11.1.2.2.1,(IntKind.wrap .i64 (z11.1.2.2.2.1 + z11.2.2.2.1)),()),()),(z11.2.1,z11.2.2.1,(0:Int),()))))))))
 else none)
 else none)))))))))) some))))
def S_Zaw:FSpec T:=⟨[.ptr [(.own 7),(.v (.int .i64)),(.v (.rs 0)),(.v (.int .i64))]],[(.v (.int .i64)),(.v .u64),(.v (.int .i64))],fun x=>Zaw x.1⟩
def E_Zaw:Env T:=⟨tab.find,cd,globs,flc,fun f ds=>match f with
    | 74=>some S_Zck
    | _=>none,fun f=>match f with
    | 74=>true
    | _=>false⟩
def A_Zaw:Loc2 T:=⟨fun id=>match id with
    | 1=>some ⟨[(0,.ptr [(.own 7),(.v (.int .i64)),(.v (.rs 0)),(.v (.int .i64))]),(2,.f (.v (.int .i64))),(3,.f (.v .u64)),(8,.f (.v (.int .i64))),(94,.f (.v (.rs 0))),(95,.f (.v (.int .i64))),(96,.f (.v (.int .i64)))],[(.exit 1,[(0,.ptr [(.own 7),(.v (.int .i64)),(.v (.rs 0)),(.v (.int .i64))]),(2,.f (.v (.int .i64))),(3,.f (.v .u64)),(8,.f (.v (.int .i64)))])],Zaw_L1,[]⟩
    | _=>none,fun r=>match r with
    | 11=>some ([(0,.ptr [(.own 7),(.v (.int .i64)),(.v (.rs 0)),(.v (.int .i64))]),(3,.f (.v .u64)),(5,.f (.v .u8))],false)
    | _=>none,fun r=>match r with
    | _=>false⟩
theorem Zaw_L1_eq (y0:((List (CborFrame)) × Int × (List (UInt8)) × Int × Unit)) (y1:Int) (y2:(BitVec 64)) (y3:Int) (y4:(List (UInt8))) (y5:Int) (y6:Int):run E_Zaw A_Zaw (loopAt 1 (Tryd.f58.body.getD .skip)) (layC cd [(0,.ptr [(.own 7),(.v (.int .i64)),(.v (.rs 0)),(.v (.int .i64))]),(2,.f (.v (.int .i64))),(3,.f (.v .u64)),(8,.f (.v (.int .i64))),(94,.f (.v (.rs 0))),(95,.f (.v (.int .i64))),(96,.f (.v (.int .i64)))] [] (y0,y1,y2,y3,y4,y5,y6,())) (roundK cd [(0,.ptr [(.own 7),(.v (.int .i64)),(.v (.rs 0)),(.v (.int .i64))]),(2,.f (.v (.int .i64))),(3,.f (.v .u64)),(8,.f (.v (.int .i64))),(94,.f (.v (.rs 0))),(95,.f (.v (.int .i64))),(96,.f (.v (.int .i64)))] [] [(.exit 1,[(0,.ptr [(.own 7),(.v (.int .i64)),(.v (.rs 0)),(.v (.int .i64))]),(2,.f (.v (.int .i64))),(3,.f (.v .u64)),(8,.f (.v (.int .i64)))])])=Zaw_L1b y0 y1 y2 y3 y4 y5 y6:=by kernel_rfl
theorem Zaw_eq (x:tySs T S_Zaw.ps):run E_Zaw A_Zaw (Tryd.f58.body.getD .skip) (enterT E_Zaw.C S_Zaw.ps x) (retK E_Zaw Tryd.f58.results.toList S_Zaw.ps S_Zaw.rs)=S_Zaw.fn x:=by kernel_rfl
theorem Zaw_env:EnvOk Tryd.prog E_Zaw:=envOk (E:=E_Zaw) cd_ok tys fl_ok fun f ds S h=>by
    dsimp only [E_Zaw] at h
    split at h
    · cases h; exact Zck_ok
    · cases h
theorem Zaw_L1_ok:LoopOk Tryd.prog E_Zaw Tryd.f58.ntmps (kqOf S_Zaw.ps 0) (loopAt 1 (Tryd.f58.body.getD .skip)) ⟨[(0,.ptr [(.own 7),(.v (.int .i64)),(.v (.rs 0)),(.v (.int .i64))]),(2,.f (.v (.int .i64))),(3,.f (.v .u64)),(8,.f (.v (.int .i64))),(94,.f (.v (.rs 0))),(95,.f (.v (.int .i64))),(96,.f (.v (.int .i64)))],[(.exit 1,[(0,.ptr [(.own 7),(.v (.int .i64)),(.v (.rs 0)),(.v (.int .i64))]),(2,.f (.v (.int .i64))),(3,.f (.v .u64)),(8,.f (.v (.int .i64)))])],Zaw_L1,[]⟩:=
  loop_ok (A:=A_Zaw) (done:=[]) (c0:=(Tryd.f58.body.getD .skip)) hmix Zaw_env done_nil rounds (by kernel_rfl) (by kernel_rfl) (fun x=>Zaw_L1_eq x.1 x.2.1 x.2.2.1 x.2.2.2.1 x.2.2.2.2.1 x.2.2.2.2.2.1 x.2.2.2.2.2.2.1) (fun _=>rfl)
theorem Zaw_ok:SoundT Tryd.prog cd gdn 58 S_Zaw:=
  sound_fn (E:=E_Zaw) (A:=A_Zaw) (done:=[1]) (c:=(Tryd.f58.body.getD .skip)) (S:=S_Zaw) (fn:=Tryd.f58) hmix Zaw_env Tryd.func58 rfl (by kernel_rfl) (by kernel_rfl) (done_cons rfl Zaw_L1_ok done_nil) (by kernel_rfl) (by kernel_rfl) Zaw_eq
def Zaz_L0b (y0:((List (CborFrame)) × Int × (List (UInt8)) × Int × Unit)) (y1:Int):Option ((((List (CborFrame)) × Int × (List (UInt8)) × Int × Unit) × Int × Unit) ⊕ (((List (CborFrame)) × Int × (List (UInt8)) × Int × Unit) × Unit)):=
 (bif (decide ((0:Int) < y1)) then (bif (decide ((0:Int) ≤ (IntKind.wrap .i64 (y1 - (1:Int)))) && decide ((IntKind.wrap .i64 (y1 - (1:Int))) < ((y0.1).length:Int))) then (((y0.1)[((IntKind.wrap .i64 (y1 - (1:Int)))).toNat]?).bind fun x10=>(bif (decide (x10.left=(0:Int))) then (bif (decide ((0:Int) ≤ (IntKind.wrap .i64 (y1 - (1:Int)))) && decide ((IntKind.wrap .i64 (y1 - (1:Int))) ≤ ((y0.1).length:Int))) then (bif decide (((IntKind.wrap .i64 (y1 - (1:Int)))).toNat ≤ (y0.1).length) then (some (Sum.inl (((List.take ((IntKind.wrap .i64 (y1 - (1:Int)))).toNat y0.1),y0.2.1,y0.2.2.1,y0.2.2.2.1,()),(IntKind.wrap .i64 (y1 - (1:Int))),())))
 else none)
 else none)
 else (some (Sum.inr ((y0.1,y0.2.1,y0.2.2.1,y0.2.2.2.1,()),())))))
 else none)
 else (some (Sum.inr ((y0.1,y0.2.1,y0.2.2.1,y0.2.2.2.1,()),()))))
def Zaz_L0 (y:(((List (CborFrame)) × Int × (List (UInt8)) × Int × Unit) × Int × Unit)):Option (((List (CborFrame)) × Int × (List (UInt8)) × Int × Unit) × Unit):=iter (fun (y:(((List (CborFrame)) × Int × (List (UInt8)) × Int × Unit) × Int × Unit))=>Zaz_L0b y.1 y.2.1) rounds y
def Zaz (a0:((List (CborFrame)) × Int × (List (UInt8)) × Int × Unit)) (a1:ApiItem):Option ((((List (CborFrame)) × Int × (List (UInt8)) × Int × Unit) × Unit) × (Unit)):=
 ((bif (decide ((0:Int) < ((a0.1).length:Int))) then (bif (decide ((0:Int) ≤ (IntKind.wrap .i64 (((a0.1).length:Int) - (1:Int)))) && decide ((IntKind.wrap .i64 (((a0.1).length:Int) - (1:Int))) < ((a0.1).length:Int))) then (((a0.1)[((IntKind.wrap .i64 (((a0.1).length:Int) - (1:Int)))).toNat]?).bind fun x1=>(bif (decide ((0:Int) ≤ (IntKind.wrap .i64 (((a0.1).length:Int) - (1:Int)))) && decide ((IntKind.wrap .i64 (((a0.1).length:Int) - (1:Int))) < ((a0.1).length:Int))) then (((a0.1)[((IntKind.wrap .i64 (((a0.1).length:Int) - (1:Int)))).toNat]?).bind fun x2=>(let v3:List (CborFrame):=(List.set a0.1 ((IntKind.wrap .i64 (((a0.1).length:Int) - (1:Int)))).toNat (⟨x2.pairs,(IntKind.wrap .i64 (x1.left - (1:Int))),x2.last_⟩:CborFrame))
 (some ((v3,(IntKind.wrap .i64 (a0.2.1 + (1:Int))),a0.2.2.1,a0.2.2.2.1,()),(a1,()),()))))
 else none))
 else none)
 else (some ((a0.1,(IntKind.wrap .i64 (a0.2.1 + (1:Int))),a0.2.2.1,a0.2.2.2.1,()),(a1,()),()))).bind (fun (j4:(((List (CborFrame)) × Int × (List (UInt8)) × Int × Unit) × (ApiItem × Unit) × Unit))=>((bif (decide (j4.2.1.1.kind=(5:Int))) then (bif (decide ((0#64).toNat < j4.2.1.1.number.toNat)) then (let v5:List (CborFrame):=([(⟨false,(IntKind.wrap .i64 (j4.2.1.1.number.toNat:Int)),[]⟩:CborFrame)]:List (CborFrame))
 (bif small ((j4.1.1).length + (v5:List (CborFrame)).length) 40 then (some (((j4.1.1 ++ v5),j4.1.2.1,j4.1.2.2.1,j4.1.2.2.2.1,()),(j4.2.1.1,()),()))
 else none))
 else (some ((j4.1.1,j4.1.2.1,j4.1.2.2.1,j4.1.2.2.2.1,()),(j4.2.1.1,()),())))
 else (some ((j4.1.1,j4.1.2.1,j4.1.2.2.1,j4.1.2.2.2.1,()),(j4.2.1.1,()),()))).bind (fun (j6:(((List (CborFrame)) × Int × (List (UInt8)) × Int × Unit) × (ApiItem × Unit) × Unit))=>((bif (decide (j6.2.1.1.kind=(6:Int))) then (bif (decide ((0#64).toNat < j6.2.1.1.number.toNat)) then (let v7:Int:=(IntKind.wrap .i64 ((2:Int) * (IntKind.wrap .i64 (j6.2.1.1.number.toNat:Int))))
 (bif small ((j6.1.1).length + (([(⟨true,v7,[]⟩:CborFrame)]:List (CborFrame)):List (CborFrame)).length) 40 then (let v8:List (CborFrame):=(j6.1.1 ++ ([(⟨true,v7,[]⟩:CborFrame)]:List (CborFrame)))
 (some ((v8,j6.1.2.1,j6.1.2.2.1,j6.1.2.2.2.1,()),())))
 else none))
 else (some ((j6.1.1,j6.1.2.1,j6.1.2.2.1,j6.1.2.2.2.1,()),())))
 else (some ((j6.1.1,j6.1.2.1,j6.1.2.2.1,j6.1.2.2.2.1,()),()))).bind (fun (j9:(((List (CborFrame)) × Int × (List (UInt8)) × Int × Unit) × Unit))=>((Zaz_L0 ((j9.1.1,j9.1.2.1,j9.1.2.2.1,j9.1.2.2.2.1,()),((j9.1.1).length:Int),())).bind (fun (z11:(((List (CborFrame)) × Int × (List (UInt8)) × Int × Unit) × Unit))=>(some (((z11.1.1,z11.1.2.1,z11.1.2.2.1,z11.1.2.2.2.1,()),()),()))))))))))
def S_Zaz:FSpec T:=⟨[.ptr [(.own 7),(.v (.int .i64)),(.v (.rs 0)),(.v (.int .i64))],.f (.v (.agg 1))],[],fun x=>Zaz x.1 x.2.1⟩
def E_Zaz:Env T:=⟨tab.find,cd,globs,flc,fun f ds=>match f with
    | _=>none,fun f=>match f with
    | _=>false⟩
def A_Zaz:Loc2 T:=⟨fun id=>match id with
    | 0=>some ⟨[(0,.ptr [(.own 7),(.v (.int .i64)),(.v (.rs 0)),(.v (.int .i64))]),(5,.f (.v (.int .i64)))],[(.exit 0,[(0,.ptr [(.own 7),(.v (.int .i64)),(.v (.rs 0)),(.v (.int .i64))])])],Zaz_L0,[]⟩
    | _=>none,fun r=>match r with
    | 5=>some ([(0,.ptr [(.own 7),(.v (.int .i64)),(.v (.rs 0)),(.v (.int .i64))]),(3,.ptr [(.v (.agg 1))])],true)
    | 7=>some ([(0,.ptr [(.own 7),(.v (.int .i64)),(.v (.rs 0)),(.v (.int .i64))]),(3,.ptr [(.v (.agg 1))])],true)
    | 9=>some ([(0,.ptr [(.own 7),(.v (.int .i64)),(.v (.rs 0)),(.v (.int .i64))])],true)
    | _=>none,fun r=>match r with
    | 6=>true
    | 8=>true
    | _=>false⟩
theorem Zaz_L0_eq (y0:((List (CborFrame)) × Int × (List (UInt8)) × Int × Unit)) (y1:Int):run E_Zaz A_Zaz (loopAt 0 (Tryd.f77.body.getD .skip)) (layC cd [(0,.ptr [(.own 7),(.v (.int .i64)),(.v (.rs 0)),(.v (.int .i64))]),(5,.f (.v (.int .i64)))] [] (y0,y1,())) (roundK cd [(0,.ptr [(.own 7),(.v (.int .i64)),(.v (.rs 0)),(.v (.int .i64))]),(5,.f (.v (.int .i64)))] [] [(.exit 0,[(0,.ptr [(.own 7),(.v (.int .i64)),(.v (.rs 0)),(.v (.int .i64))])])])=Zaz_L0b y0 y1:=by kernel_rfl
theorem Zaz_eq (x:tySs T S_Zaz.ps):run E_Zaz A_Zaz (Tryd.f77.body.getD .skip) (enterT E_Zaz.C S_Zaz.ps x) (retK E_Zaz Tryd.f77.results.toList S_Zaz.ps S_Zaz.rs)=S_Zaz.fn x:=by kernel_rfl
theorem Zaz_env:EnvOk Tryd.prog E_Zaz:=envOk (E:=E_Zaz) cd_ok tys fl_ok fun f ds S h=>by cases h
theorem Zaz_L0_ok:LoopOk Tryd.prog E_Zaz Tryd.f77.ntmps (kqOf S_Zaz.ps 0) (loopAt 0 (Tryd.f77.body.getD .skip)) ⟨[(0,.ptr [(.own 7),(.v (.int .i64)),(.v (.rs 0)),(.v (.int .i64))]),(5,.f (.v (.int .i64)))],[(.exit 0,[(0,.ptr [(.own 7),(.v (.int .i64)),(.v (.rs 0)),(.v (.int .i64))])])],Zaz_L0,[]⟩:=
  loop_ok (A:=A_Zaz) (done:=[]) (c0:=(Tryd.f77.body.getD .skip)) hmix Zaz_env done_nil rounds (by kernel_rfl) (by kernel_rfl) (fun x=>Zaz_L0_eq x.1 x.2.1) (fun _=>rfl)
theorem Zaz_ok:SoundT Tryd.prog cd gdn 77 S_Zaz:=
  sound_fn (E:=E_Zaz) (A:=A_Zaz) (done:=[0]) (c:=(Tryd.f77.body.getD .skip)) (S:=S_Zaz) (fn:=Tryd.f77) hmix Zaz_env Tryd.func77 rfl (by kernel_rfl) (by kernel_rfl) (done_cons rfl Zaz_L0_ok done_nil) (by kernel_rfl) (by kernel_rfl) Zaz_eq
def Zan (a0:((List (CborFrame)) × Int × (List (UInt8)) × Int × Unit)) (a1:ApiItem):Option ((((List (CborFrame)) × Int × (List (UInt8)) × Int × Unit) × Unit) × (Int × Unit)):=
 (bif (decide (a1.kind=(4:Int))) then ((Zbf a1.data).bind fun r1=>(bif (!r1.2.1) then (some (((a0.1,a0.2.1,a0.2.2.1,a0.2.2.2.1,()),()),((6:Int),())))
 else ((Zbk (⟨a0.1,a0.2.1⟩:CborWalk)).bind fun r2=>(bif r2.2.1 then (bif (decide ((0:Int) ≤ (IntKind.wrap .i64 (((a0.1).length:Int) - (1:Int)))) && decide ((IntKind.wrap .i64 (((a0.1).length:Int) - (1:Int))) < ((a0.1).length:Int))) then ((Zbi [] a1).bind fun r3=>(((a0.1)[((IntKind.wrap .i64 (((a0.1).length:Int) - (1:Int)))).toNat]?).bind fun x4=>(bif (!(x4.last_).isEmpty) then (((a0.1)[((IntKind.wrap .i64 (((a0.1).length:Int) - (1:Int)))).toNat]?).bind fun x5=>((Zbw x5.last_ r3.2.1).bind fun r6=>(bif (!r6.2.1) then (some (((a0.1,a0.2.1,a0.2.2.1,a0.2.2.2.1,()),()),((7:Int),())))
 else (((a0.1)[((IntKind.wrap .i64 (((a0.1).length:Int) - (1:Int)))).toNat]?).bind fun x7=>(bif (r3.2.1).isEmpty then none
 else (let v8:List (CborFrame):=(List.set a0.1 ((IntKind.wrap .i64 (((a0.1).length:Int) - (1:Int)))).toNat (⟨x7.pairs,x7.left,r3.2.1⟩:CborFrame))
 ((Zaz (v8,a0.2.1,a0.2.2.1,a0.2.2.2.1,()) a1).bind fun r9=>(some (((r9.1.1.1,r9.1.1.2.1,r9.1.1.2.2.1,r9.1.1.2.2.2.1,()),()),((0:Int),()))))))))))
 else (((a0.1)[((IntKind.wrap .i64 (((a0.1).length:Int) - (1:Int)))).toNat]?).bind fun x10=>(bif (r3.2.1).isEmpty then none
 else (let v11:List (CborFrame):=(List.set a0.1 ((IntKind.wrap .i64 (((a0.1).length:Int) - (1:Int)))).toNat (⟨x10.pairs,x10.left,r3.2.1⟩:CborFrame))
 ((Zaz (v11,a0.2.1,a0.2.2.1,a0.2.2.2.1,()) a1).bind fun r12=>(some (((r12.1.1.1,r12.1.1.2.1,r12.1.1.2.2.1,r12.1.1.2.2.2.1,()),()),((0:Int),()))))))))))
 else none)
 else ((Zaz (a0.1,a0.2.1,a0.2.2.1,a0.2.2.2.1,()) a1).bind fun r13=>(some (((r13.1.1.1,r13.1.1.2.1,r13.1.1.2.2.1,r13.1.1.2.2.2.1,()),()),((0:Int),()))))))))
 else ((Zbk (⟨a0.1,a0.2.1⟩:CborWalk)).bind fun r14=>(bif r14.2.1 then (bif (decide ((0:Int) ≤ (IntKind.wrap .i64 (((a0.1).length:Int) - (1:Int)))) && decide ((IntKind.wrap .i64 (((a0.1).length:Int) - (1:Int))) < ((a0.1).length:Int))) then ((Zbi [] a1).bind fun r15=>(((a0.1)[((IntKind.wrap .i64 (((a0.1).length:Int) - (1:Int)))).toNat]?).bind fun x16=>(bif (!(x16.last_).isEmpty) then (((a0.1)[((IntKind.wrap .i64 (((a0.1).length:Int) - (1:Int)))).toNat]?).bind fun x17=>((Zbw x17.last_ r15.2.1).bind fun r18=>(bif (!r18.2.1) then (some (((a0.1,a0.2.1,a0.2.2.1,a0.2.2.2.1,()),()),((7:Int),())))
 else (((a0.1)[((IntKind.wrap .i64 (((a0.1).length:Int) - (1:Int)))).toNat]?).bind fun x19=>(bif (r15.2.1).isEmpty then none
 else (let v20:List (CborFrame):=(List.set a0.1 ((IntKind.wrap .i64 (((a0.1).length:Int) - (1:Int)))).toNat (⟨x19.pairs,x19.left,r15.2.1⟩:CborFrame))
 ((Zaz (v20,a0.2.1,a0.2.2.1,a0.2.2.2.1,()) a1).bind fun r21=>(some (((r21.1.1.1,r21.1.1.2.1,r21.1.1.2.2.1,r21.1.1.2.2.2.1,()),()),((0:Int),()))))))))))
 else (((a0.1)[((IntKind.wrap .i64 (((a0.1).length:Int) - (1:Int)))).toNat]?).bind fun x22=>(bif (r15.2.1).isEmpty then none
 else (let v23:List (CborFrame):=(List.set a0.1 ((IntKind.wrap .i64 (((a0.1).length:Int) - (1:Int)))).toNat (⟨x22.pairs,x22.left,r15.2.1⟩:CborFrame))
 ((Zaz (v23,a0.2.1,a0.2.2.1,a0.2.2.2.1,()) a1).bind fun r24=>(some (((r24.1.1.1,r24.1.1.2.1,r24.1.1.2.2.1,r24.1.1.2.2.2.1,()),()),((0:Int),()))))))))))
 else none)
 else ((Zaz (a0.1,a0.2.1,a0.2.2.1,a0.2.2.2.1,()) a1).bind fun r25=>(some (((r25.1.1.1,r25.1.1.2.1,r25.1.1.2.2.1,r25.1.1.2.2.2.1,()),()),((0:Int),())))))))
def S_Zan:FSpec T:=⟨[.ptr [(.own 7),(.v (.int .i64)),(.v (.rs 0)),(.v (.int .i64))],.f (.v (.agg 1))],[(.v (.int .i64))],fun x=>Zan x.1 x.2.1⟩
def E_Zan:Env T:=⟨tab.find,cd,globs,flc,fun f ds=>match f with
    | 35=>some S_Zbf
    | 53=>some S_Zbi
    | 75=>some S_Zbk
    | 76=>some S_Zbw
    | 77=>some S_Zaz
    | _=>none,fun f=>match f with
    | 35=>true
    | 75=>true
    | 76=>true
    | _=>false⟩
def A_Zan:Loc2 T:=⟨fun id=>match id with
    | _=>none,fun r=>match r with
    | _=>none,fun r=>match r with
    | _=>false⟩
theorem Zan_eq (x:tySs T S_Zan.ps):run E_Zan A_Zan (Tryd.f60.body.getD .skip) (enterT E_Zan.C S_Zan.ps x) (retK E_Zan Tryd.f60.results.toList S_Zan.ps S_Zan.rs)=S_Zan.fn x:=by kernel_rfl
theorem Zan_env:EnvOk Tryd.prog E_Zan:=envOk (E:=E_Zan) cd_ok tys fl_ok fun f ds S h=>by
    dsimp only [E_Zan] at h
    split at h
    · cases h; exact Zbf_ok
    · cases h; exact Zbi_ok
    · cases h; exact Zbk_ok
    · cases h; exact Zbw_ok
    · cases h; exact Zaz_ok
    · cases h
theorem Zan_ok:SoundT Tryd.prog cd gdn 60 S_Zan:=
  sound_fn (E:=E_Zan) (A:=A_Zan) (done:=[]) (c:=(Tryd.f60.body.getD .skip)) (S:=S_Zan) (fn:=Tryd.f60) hmix Zan_env Tryd.func60 rfl (by kernel_rfl) (by kernel_rfl) done_nil (by kernel_rfl) (by kernel_rfl) Zan_eq
def Zax (a0:((List (CborFrame)) × Int × (List (UInt8)) × Int × Unit)):Option ((((List (CborFrame)) × Int × (List (UInt8)) × Int × Unit) × Unit) × (ApiItem × Int × Unit)):=
 ((Zaw (a0.1,a0.2.1,a0.2.2.1,a0.2.2.2.1,())).bind fun r1=>(bif (!decide (r1.2.2.2.1=(0:Int))) then (some (((r1.1.1.1,r1.1.1.2.1,r1.1.1.2.2.1,r1.1.1.2.2.2.1,()),()),((⟨(0:Int),0#64,([]:List UInt8)⟩:ApiItem),r1.2.2.2.1,())))
 else ((Zbj (⟨r1.1.1.1,r1.1.1.2.1⟩:CborWalk) r1.2.1).bind fun r2=>(bif (!decide (r2.2.1=(0:Int))) then (some (((r1.1.1.1,r1.1.1.2.1,r1.1.1.2.2.1,r1.1.1.2.2.2.1,()),()),((⟨(0:Int),0#64,([]:List UInt8)⟩:ApiItem),r2.2.1,())))
 else ((bif (decide (r1.2.1=(5:Int))) then (bif (decide (r1.2.1=(5:Int))) then (bif (decide ((512#64).toNat < r1.2.2.1.toNat)) then (((some (((r1.1.1.1,r1.1.1.2.1,r1.1.1.2.2.1,r1.1.1.2.2.2.1,()),()),((⟨(0:Int),0#64,([]:List UInt8)⟩:ApiItem),(8:Int),())))).bind fun q=>some (Sum.inr q))
 else (some (Sum.inl ((r1.1.1.1,r1.1.1.2.1,r1.1.1.2.2.1,r1.1.1.2.2.2.1,()),((⟨(0:Int),0#64,([]:List UInt8)⟩:ApiItem),()),((⟨r1.2.1,r1.2.2.1,([]:List UInt8)⟩:ApiItem),()),()))))
 else (bif (decide (r1.2.1=(3:Int))) then (bif (decide (r1.2.1=(3:Int))) then (bif (decide ((1024#64).toNat < r1.2.2.1.toNat)) then (((some (((r1.1.1.1,r1.1.1.2.1,r1.1.1.2.2.1,r1.1.1.2.2.2.1,()),()),((⟨(0:Int),0#64,([]:List UInt8)⟩:ApiItem),(8:Int),())))).bind fun q=>some (Sum.inr q))
 else (let v3:Int:=(IntKind.wrap .i64 (((r1.1.1.2.2.1).length:Int) - r1.1.1.2.2.2.1))
 (bif (decide (v3 < (IntKind.wrap .i64 (r1.2.2.1.toNat:Int)))) then (((some (((r1.1.1.1,r1.1.1.2.1,r1.1.1.2.2.1,r1.1.1.2.2.2.1,()),()),((⟨(0:Int),0#64,([]:List UInt8)⟩:ApiItem),(1:Int),())))).bind fun q=>some (Sum.inr q))
 else (let v4:Int:=(IntKind.wrap .i64 (r1.1.1.2.2.2.1 + (IntKind.wrap .i64 (r1.2.2.1.toNat:Int))))
 (bif (decide ((0:Int) ≤ v4) && decide (v4 ≤ ((r1.1.1.2.2.1).length:Int))) then (bif (decide ((0:Int) ≤ r1.1.1.2.2.2.1) && decide (r1.1.1.2.2.2.1 ≤ ((v4).toNat:Int))) then (let v5:List (UInt8):=(List.drop (r1.1.1.2.2.2.1).toNat (List.take (v4).toNat r1.1.1.2.2.1))
 (let v6:Int:=(IntKind.wrap .i64 (r1.1.1.2.2.2.1 + (IntKind.wrap .i64 (r1.2.2.1.toNat:Int))))
 (some (Sum.inl ((r1.1.1.1,r1.1.1.2.1,r1.1.1.2.2.1,v6,()),((⟨(0:Int),0#64,([]:List UInt8)⟩:ApiItem),()),((⟨r1.2.1,0#64,v5⟩:ApiItem),()),())))))
 else none)
 else none)))))
 else (some (Sum.inl ((r1.1.1.1,r1.1.1.2.1,r1.1.1.2.2.1,r1.1.1.2.2.2.1,()),((⟨(0:Int),0#64,([]:List UInt8)⟩:ApiItem),()),((⟨r1.2.1,r1.2.2.1,([]:List UInt8)⟩:ApiItem),()),()))))
 else (bif (decide (r1.2.1=(4:Int))) then (bif (decide ((1024#64).toNat < r1.2.2.1.toNat)) then (((some (((r1.1.1.1,r1.1.1.2.1,r1.1.1.2.2.1,r1.1.1.2.2.2.1,()),()),((⟨(0:Int),0#64,([]:List UInt8)⟩:ApiItem),(8:Int),())))).bind fun q=>some (Sum.inr q))
 else (let v7:Int:=(IntKind.wrap .i64 (((r1.1.1.2.2.1).length:Int) - r1.1.1.2.2.2.1))
 (bif (decide (v7 < (IntKind.wrap .i64 (r1.2.2.1.toNat:Int)))) then (((some (((r1.1.1.1,r1.1.1.2.1,r1.1.1.2.2.1,r1.1.1.2.2.2.1,()),()),((⟨(0:Int),0#64,([]:List UInt8)⟩:ApiItem),(1:Int),())))).bind fun q=>some (Sum.inr q))
 else (let v8:Int:=(IntKind.wrap .i64 (r1.1.1.2.2.2.1 + (IntKind.wrap .i64 (r1.2.2.1.toNat:Int))))
 (bif (decide ((0:Int) ≤ v8) && decide (v8 ≤ ((r1.1.1.2.2.1).length:Int))) then (bif (decide ((0:Int) ≤ r1.1.1.2.2.2.1) && decide (r1.1.1.2.2.2.1 ≤ ((v8).toNat:Int))) then (let v9:List (UInt8):=(List.drop (r1.1.1.2.2.2.1).toNat (List.take (v8).toNat r1.1.1.2.2.1))
 (let v10:Int:=(IntKind.wrap .i64 (r1.1.1.2.2.2.1 + (IntKind.wrap .i64 (r1.2.2.1.toNat:Int))))
 (some (Sum.inl ((r1.1.1.1,r1.1.1.2.1,r1.1.1.2.2.1,v10,()),((⟨(0:Int),0#64,([]:List UInt8)⟩:ApiItem),()),((⟨r1.2.1,0#64,v9⟩:ApiItem),()),())))))
 else none)
 else none)))))
 else (some (Sum.inl ((r1.1.1.1,r1.1.1.2.1,r1.1.1.2.2.1,r1.1.1.2.2.2.1,()),((⟨(0:Int),0#64,([]:List UInt8)⟩:ApiItem),()),((⟨r1.2.1,r1.2.2.1,([]:List UInt8)⟩:ApiItem),()),()))))))
 else (bif (decide (r1.2.1=(6:Int))) then (bif (decide ((512#64).toNat < r1.2.2.1.toNat)) then (((some (((r1.1.1.1,r1.1.1.2.1,r1.1.1.2.2.1,r1.1.1.2.2.2.1,()),()),((⟨(0:Int),0#64,([]:List UInt8)⟩:ApiItem),(8:Int),())))).bind fun q=>some (Sum.inr q))
 else (some (Sum.inl ((r1.1.1.1,r1.1.1.2.1,r1.1.1.2.2.1,r1.1.1.2.2.2.1,()),((⟨(0:Int),0#64,([]:List UInt8)⟩:ApiItem),()),((⟨r1.2.1,r1.2.2.1,([]:List UInt8)⟩:ApiItem),()),()))))
 else (bif (decide (r1.2.1=(3:Int))) then (bif (decide (r1.2.1=(3:Int))) then (bif (decide ((1024#64).toNat < r1.2.2.1.toNat)) then (((some (((r1.1.1.1,r1.1.1.2.1,r1.1.1.2.2.1,r1.1.1.2.2.2.1,()),()),((⟨(0:Int),0#64,([]:List UInt8)⟩:ApiItem),(8:Int),())))).bind fun q=>some (Sum.inr q))
 else (let v11:Int:=(IntKind.wrap .i64 (((r1.1.1.2.2.1).length:Int) - r1.1.1.2.2.2.1))
 (bif (decide (v11 < (IntKind.wrap .i64 (r1.2.2.1.toNat:Int)))) then (((some (((r1.1.1.1,r1.1.1.2.1,r1.1.1.2.2.1,r1.1.1.2.2.2.1,()),()),((⟨(0:Int),0#64,([]:List UInt8)⟩:ApiItem),(1:Int),())))).bind fun q=>some (Sum.inr q))
 else (let v12:Int:=(IntKind.wrap .i64 (r1.1.1.2.2.2.1 + (IntKind.wrap .i64 (r1.2.2.1.toNat:Int))))
 (bif (decide ((0:Int) ≤ v12) && decide (v12 ≤ ((r1.1.1.2.2.1).length:Int))) then (bif (decide ((0:Int) ≤ r1.1.1.2.2.2.1) && decide (r1.1.1.2.2.2.1 ≤ ((v12).toNat:Int))) then (let v13:List (UInt8):=(List.drop (r1.1.1.2.2.2.1).toNat (List.take (v12).toNat r1.1.1.2.2.1))
 (let v14:Int:=(IntKind.wrap .i64 (r1.1.1.2.2.2.1 + (IntKind.wrap .i64 (r1.2.2.1.toNat:Int))))
 (some (Sum.inl ((r1.1.1.1,r1.1.1.2.1,r1.1.1.2.2.1,v14,()),((⟨(0:Int),0#64,([]:List UInt8)⟩:ApiItem),()),((⟨r1.2.1,0#64,v13⟩:ApiItem),()),())))))
 else none)
 else none)))))
 else (some (Sum.inl ((r1.1.1.1,r1.1.1.2.1,r1.1.1.2.2.1,r1.1.1.2.2.2.1,()),((⟨(0:Int),0#64,([]:List UInt8)⟩:ApiItem),()),((⟨r1.2.1,r1.2.2.1,([]:List UInt8)⟩:ApiItem),()),()))))
 else (bif (decide (r1.2.1=(4:Int))) then (bif (decide ((1024#64).toNat < r1.2.2.1.toNat)) then (((some (((r1.1.1.1,r1.1.1.2.1,r1.1.1.2.2.1,r1.1.1.2.2.2.1,()),()),((⟨(0:Int),0#64,([]:List UInt8)⟩:ApiItem),(8:Int),())))).bind fun q=>some (Sum.inr q))
 else (let v15:Int:=(IntKind.wrap .i64 (((r1.1.1.2.2.1).length:Int) - r1.1.1.2.2.2.1))
 (bif (decide (v15 < (IntKind.wrap .i64 (r1.2.2.1.toNat:Int)))) then (((some (((r1.1.1.1,r1.1.1.2.1,r1.1.1.2.2.1,r1.1.1.2.2.2.1,()),()),((⟨(0:Int),0#64,([]:List UInt8)⟩:ApiItem),(1:Int),())))).bind fun q=>some (Sum.inr q))
 else (let v16:Int:=(IntKind.wrap .i64 (r1.1.1.2.2.2.1 + (IntKind.wrap .i64 (r1.2.2.1.toNat:Int))))
 (bif (decide ((0:Int) ≤ v16) && decide (v16 ≤ ((r1.1.1.2.2.1).length:Int))) then (bif (decide ((0:Int) ≤ r1.1.1.2.2.2.1) && decide (r1.1.1.2.2.2.1 ≤ ((v16).toNat:Int))) then (let v17:List (UInt8):=(List.drop (r1.1.1.2.2.2.1).toNat (List.take (v16).toNat r1.1.1.2.2.1))
 (let v18:Int:=(IntKind.wrap .i64 (r1.1.1.2.2.2.1 + (IntKind.wrap .i64 (r1.2.2.1.toNat:Int))))
 (some (Sum.inl ((r1.1.1.1,r1.1.1.2.1,r1.1.1.2.2.1,v18,()),((⟨(0:Int),0#64,([]:List UInt8)⟩:ApiItem),()),((⟨r1.2.1,0#64,v17⟩:ApiItem),()),())))))
 else none)
 else none)))))
 else (some (Sum.inl ((r1.1.1.1,r1.1.1.2.1,r1.1.1.2.2.1,r1.1.1.2.2.2.1,()),((⟨(0:Int),0#64,([]:List UInt8)⟩:ApiItem),()),((⟨r1.2.1,r1.2.2.1,([]:List UInt8)⟩:ApiItem),()),()))))))).bind (Sum.elim (fun (j19:(((List (CborFrame)) × Int × (List (UInt8)) × Int × Unit) × (ApiItem × Unit) × (ApiItem × Unit) × Unit))=>((Zan (j19.1.1,j19.1.2.1,j19.1.2.2.1,j19.1.2.2.2.1,()) j19.2.2.1.1).bind fun r20=>(bif (!decide (r20.2.1=(0:Int))) then (some (((r20.1.1.1,r20.1.1.2.1,r20.1.1.2.2.1,r20.1.1.2.2.2.1,()),()),((⟨(0:Int),0#64,([]:List UInt8)⟩:ApiItem),r20.2.1,())))
 else (some (((r20.1.1.1,r20.1.1.2.1,r20.1.1.2.2.1,r20.1.1.2.2.2.1,()),()),(j19.2.2.1.1,(0:Int),())))))) some))))))
def S_Zax:FSpec T:=⟨[.ptr [(.own 7),(.v (.int .i64)),(.v (.rs 0)),(.v (.int .i64))]],[(.v (.agg 1)),(.v (.int .i64))],fun x=>Zax x.1⟩
def E_Zax:Env T:=⟨tab.find,cd,globs,flc,fun f ds=>match f with
    | 58=>some S_Zaw
    | 59=>some S_Zbj
    | 60=>some S_Zan
    | _=>none,fun f=>match f with
    | 59=>true
    | _=>false⟩
def A_Zax:Loc2 T:=⟨fun id=>match id with
    | _=>none,fun r=>match r with
    | 21=>some ([(0,.ptr [(.own 7),(.v (.int .i64)),(.v (.rs 0)),(.v (.int .i64))]),(2,.ptr [(.v (.agg 1))]),(8,.ptr [(.v (.agg 1))])],false)
    | _=>none,fun r=>match r with
    | 19=>true
    | _=>false⟩
theorem Zax_eq (x:tySs T S_Zax.ps):run E_Zax A_Zax (Tryd.f37.body.getD .skip) (enterT E_Zax.C S_Zax.ps x) (retK E_Zax Tryd.f37.results.toList S_Zax.ps S_Zax.rs)=S_Zax.fn x:=by kernel_rfl
theorem Zax_env:EnvOk Tryd.prog E_Zax:=envOk (E:=E_Zax) cd_ok tys fl_ok fun f ds S h=>by
    dsimp only [E_Zax] at h
    split at h
    · cases h; exact Zaw_ok
    · cases h; exact Zbj_ok
    · cases h; exact Zan_ok
    · cases h
theorem Zax_ok:SoundT Tryd.prog cd gdn 37 S_Zax:=
  sound_fn (E:=E_Zax) (A:=A_Zax) (done:=[]) (c:=(Tryd.f37.body.getD .skip)) (S:=S_Zax) (fn:=Tryd.f37) hmix Zax_env Tryd.func37 rfl (by kernel_rfl) (by kernel_rfl) done_nil (by kernel_rfl) (by kernel_rfl) Zax_eq
def Zca_L0b (y0:(List (ApiItem))) (y1:((List (CborFrame)) × Int × (List (UInt8)) × Int × Unit)):Option (((List (ApiItem)) × ((List (CborFrame)) × Int × (List (UInt8)) × Int × Unit) × Unit) ⊕ (((List (ApiItem)) × Int × Int × Unit) ⊕ ((List (ApiItem)) × ((List (CborFrame)) × Int × (List (UInt8)) × Int × Unit) × Unit))):=
 ((Zbm (⟨y1.1,y1.2.1⟩:CborWalk)).bind fun r1=>(bif (!r1.2.1) then ((Zax (y1.1,y1.2.1,y1.2.2.1,y1.2.2.2.1,())).bind fun r2=>(bif (!decide (r2.2.2.1=(0:Int))) then (some (Sum.inr (Sum.inl ([],(0:Int),r2.2.2.1,()))))
 else (bif small ((y0).length + (([r2.2.1]:List (ApiItem)):List (ApiItem)).length) 32 then (some (Sum.inl ((y0 ++ ([r2.2.1]:List (ApiItem))),(r2.1.1.1,r2.1.1.2.1,r2.1.1.2.2.1,r2.1.1.2.2.2.1,()),())))
 else none)))
 else (some (Sum.inr (Sum.inr (y0,(y1.1,y1.2.1,y1.2.2.1,y1.2.2.2.1,()),()))))))
def Zca_L0 (y:((List (ApiItem)) × ((List (CborFrame)) × Int × (List (UInt8)) × Int × Unit) × Unit)):Option (((List (ApiItem)) × Int × Int × Unit) ⊕ ((List (ApiItem)) × ((List (CborFrame)) × Int × (List (UInt8)) × Int × Unit) × Unit)):=iter (fun (y:((List (ApiItem)) × ((List (CborFrame)) × Int × (List (UInt8)) × Int × Unit) × Unit))=>Zca_L0b y.1 y.2.1) rounds y
def Zca (a0:(List (UInt8))):Option ((Unit) × ((List (ApiItem)) × Int × Int × Unit)):=
 ((Zca_L0 ([],([],(0:Int),a0,(0:Int),()),())).bind (Sum.elim (fun (z3:((List (ApiItem)) × Int × Int × Unit))=>(some ((),(z3.1,z3.2.1,z3.2.2.1,())))) (fun (z4:((List (ApiItem)) × ((List (CborFrame)) × Int × (List (UInt8)) × Int × Unit) × Unit))=>(some ((),(z4.1,z4.2.1.2.2.2.1,(0:Int),()))))))
def S_Zca:FSpec T:=⟨[.f (.v (.rs 0))],[(.own 1),(.v (.int .i64)),(.v (.int .i64))],fun x=>Zca x.1⟩
def E_Zca:Env T:=⟨tab.find,cd,globs,flc,fun f ds=>match f with
    | 36=>some S_Zbm
    | 37=>some S_Zax
    | _=>none,fun f=>match f with
    | 36=>true
    | _=>false⟩
def A_Zca:Loc2 T:=⟨fun id=>match id with
    | 0=>some ⟨[(2,.f (.own 1)),(5,.ptr [(.own 7),(.v (.int .i64)),(.v (.rs 0)),(.v (.int .i64))])],[(.ret,[(2,.f (.own 1)),(3,.f (.v (.int .i64))),(4,.f (.v (.int .i64)))]),(.exit 0,[(2,.f (.own 1)),(5,.ptr [(.own 7),(.v (.int .i64)),(.v (.rs 0)),(.v (.int .i64))])])],Zca_L0,[]⟩
    | _=>none,fun r=>match r with
    | _=>none,fun r=>match r with
    | _=>false⟩
theorem Zca_L0_eq (y0:(List (ApiItem))) (y1:((List (CborFrame)) × Int × (List (UInt8)) × Int × Unit)):run E_Zca A_Zca (loopAt 0 (Tryd.f19.body.getD .skip)) (layC cd [(2,.f (.own 1)),(5,.ptr [(.own 7),(.v (.int .i64)),(.v (.rs 0)),(.v (.int .i64))])] [] (y0,y1,())) (roundK cd [(2,.f (.own 1)),(5,.ptr [(.own 7),(.v (.int .i64)),(.v (.rs 0)),(.v (.int .i64))])] [] [(.ret,[(2,.f (.own 1)),(3,.f (.v (.int .i64))),(4,.f (.v (.int .i64)))]),(.exit 0,[(2,.f (.own 1)),(5,.ptr [(.own 7),(.v (.int .i64)),(.v (.rs 0)),(.v (.int .i64))])])])=Zca_L0b y0 y1:=by kernel_rfl
theorem Zca_eq (x:tySs T S_Zca.ps):run E_Zca A_Zca (Tryd.f19.body.getD .skip) (enterT E_Zca.C S_Zca.ps x) (retK E_Zca Tryd.f19.results.toList S_Zca.ps S_Zca.rs)=S_Zca.fn x:=by kernel_rfl
theorem Zca_env:EnvOk Tryd.prog E_Zca:=envOk (E:=E_Zca) cd_ok tys fl_ok fun f ds S h=>by
    dsimp only [E_Zca] at h
    split at h
    · cases h; exact Zbm_ok
    · cases h; exact Zax_ok
    · cases h
theorem Zca_L0_ok:LoopOk Tryd.prog E_Zca Tryd.f19.ntmps (kqOf S_Zca.ps 0) (loopAt 0 (Tryd.f19.body.getD .skip)) ⟨[(2,.f (.own 1)),(5,.ptr [(.own 7),(.v (.int .i64)),(.v (.rs 0)),(.v (.int .i64))])],[(.ret,[(2,.f (.own 1)),(3,.f (.v (.int .i64))),(4,.f (.v (.int .i64)))]),(.exit 0,[(2,.f (.own 1)),(5,.ptr [(.own 7),(.v (.int .i64)),(.v (.rs 0)),(.v (.int .i64))])])],Zca_L0,[]⟩:=
  loop_ok (A:=A_Zca) (done:=[]) (c0:=(Tryd.f19.body.getD .skip)) hmix Zca_env done_nil rounds (by kernel_rfl) (by kernel_rfl) (fun x=>Zca_L0_eq x.1 x.2.1) (fun _=>rfl)
theorem Zca_ok:SoundT Tryd.prog cd gdn 19 S_Zca:=
  sound_fn (E:=E_Zca) (A:=A_Zca) (done:=[0]) (c:=(Tryd.f19.body.getD .skip)) (S:=S_Zca) (fn:=Tryd.f19) hmix Zca_env Tryd.func19 rfl (by kernel_rfl) (by kernel_rfl) (done_cons rfl Zca_L0_ok done_nil) (by kernel_rfl) (by kernel_rfl) Zca_eq
def cbor_Skip_L0b (y0:(List (ApiItem))) (y1:Int) (y2:Int):Option (((List (ApiItem)) × Int × Int × Unit) ⊕ ((Int × Bool × Unit) ⊕ (Int × Unit))):=
 (bif (decide ((0:Int) < y2)) then (bif (decide (((y0).length:Int) ≤ y1)) then (some (Sum.inr (Sum.inl ((0:Int),false,()))))
 else ((getI y0 y1).bind fun x1=>(bif (!decide (x1.kind=(5:Int))) then (bif (!decide (x1.kind=(6:Int))) then (some (Sum.inl (y0,(IntKind.wrap .i64 (y1 + (1:Int))),(IntKind.wrap .i64 (y2 - (1:Int))),())))
 else (bif (decide ((512#64).toNat < x1.number.toNat)) then (some (Sum.inr (Sum.inl ((0:Int),false,()))))
 else (let v2:Int:=(IntKind.wrap .i64 ((IntKind.wrap .i64 (y2 - (1:Int))) + (IntKind.wrap .i64 (x1.number.toNat:Int))))
 (bif (decide (x1.kind=(6:Int))) then (let v3:Int:=(IntKind.wrap .i64 (v2 + (IntKind.wrap .i64 (x1.number.toNat:Int))))
 (some (Sum.inl (y0,(IntKind.wrap .i64 (y1 + (1:Int))),v3,()))))
 else (some (Sum.inl (y0,(IntKind.wrap .i64 (y1 + (1:Int))),v2,())))))))
 else (bif (decide ((512#64).toNat < x1.number.toNat)) then (some (Sum.inr (Sum.inl ((0:Int),false,()))))
 else (let v4:Int:=(IntKind.wrap .i64 ((IntKind.wrap .i64 (y2 - (1:Int))) + (IntKind.wrap .i64 (x1.number.toNat:Int))))
 (bif (decide (x1.kind=(6:Int))) then (let v5:Int:=(IntKind.wrap .i64 (v4 + (IntKind.wrap .i64 (x1.number.toNat:Int))))
 (some (Sum.inl (y0,(IntKind.wrap .i64 (y1 + (1:Int))),v5,()))))
 else (some (Sum.inl (y0,(IntKind.wrap .i64 (y1 + (1:Int))),v4,())))))))))
 else (some (Sum.inr (Sum.inr (y1,())))))
def cbor_Skip_L0 (y:((List (ApiItem)) × Int × Int × Unit)):Option ((Int × Bool × Unit) ⊕ (Int × Unit)):=iter (fun (y:((List (ApiItem)) × Int × Int × Unit))=>cbor_Skip_L0b y.1 y.2.1 y.2.2.1) rounds y
def cbor_Skip (a0:(List (ApiItem))) (a1:Int):Option ((Unit) × (Int × Bool × Unit)):=
 (bif (decide (a1 < (0:Int))) then (some ((),((0:Int),false,())))
 else (bif (decide (((a0).length:Int) ≤ a1)) then (some ((),((0:Int),false,())))
 else ((cbor_Skip_L0 (a0,a1,(1:Int),())).bind (Sum.elim (fun (z6:(Int × Bool × Unit))=>(some ((),(z6.1,z6.2.1,())))) (fun (z7:(Int × Unit))=>(some ((),(z7.1,true,()))))))))
def S_cbor_Skip:FSpec T:=⟨[.f (.v (.rs 1)),.f (.v (.int .i64))],[(.v (.int .i64)),(.v .bool)],fun x=>cbor_Skip x.1 x.2.1⟩
def E_cbor_Skip:Env T:=⟨tab.find,cd,globs,flc,fun f ds=>match f with
    | _=>none,fun f=>match f with
    | _=>false⟩
def A_cbor_Skip:Loc2 T:=⟨fun id=>match id with
    | 0=>some ⟨[(0,.f (.v (.rs 1))),(4,.f (.v (.int .i64))),(6,.f (.v (.int .i64)))],[(.ret,[(4,.f (.v (.int .i64))),(5,.f (.v .bool))]),(.exit 0,[(4,.f (.v (.int .i64)))])],cbor_Skip_L0,[]⟩
    | _=>none,fun r=>match r with
    | _=>none,fun r=>match r with
    | _=>false⟩
theorem cbor_Skip_L0_eq (y0:(List (ApiItem))) (y1:Int) (y2:Int):run E_cbor_Skip A_cbor_Skip (loopAt 0 (Tryd.f78.body.getD .skip)) (layC cd [(0,.f (.v (.rs 1))),(4,.f (.v (.int .i64))),(6,.f (.v (.int .i64)))] [] (y0,y1,y2,())) (roundK cd [(0,.f (.v (.rs 1))),(4,.f (.v (.int .i64))),(6,.f (.v (.int .i64)))] [] [(.ret,[(4,.f (.v (.int .i64))),(5,.f (.v .bool))]),(.exit 0,[(4,.f (.v (.int .i64)))])])=cbor_Skip_L0b y0 y1 y2:=by kernel_rfl
theorem cbor_Skip_eq (x:tySs T S_cbor_Skip.ps):run E_cbor_Skip A_cbor_Skip (Tryd.f78.body.getD .skip) (enterT E_cbor_Skip.C S_cbor_Skip.ps x) (retK E_cbor_Skip Tryd.f78.results.toList S_cbor_Skip.ps S_cbor_Skip.rs)=S_cbor_Skip.fn x:=by kernel_rfl
theorem cbor_Skip_env:EnvOk Tryd.prog E_cbor_Skip:=envOk (E:=E_cbor_Skip) cd_ok tys fl_ok fun f ds S h=>by cases h
theorem cbor_Skip_L0_ok:LoopOk Tryd.prog E_cbor_Skip Tryd.f78.ntmps (kqOf S_cbor_Skip.ps 0) (loopAt 0 (Tryd.f78.body.getD .skip)) ⟨[(0,.f (.v (.rs 1))),(4,.f (.v (.int .i64))),(6,.f (.v (.int .i64)))],[(.ret,[(4,.f (.v (.int .i64))),(5,.f (.v .bool))]),(.exit 0,[(4,.f (.v (.int .i64)))])],cbor_Skip_L0,[]⟩:=
  loop_ok (A:=A_cbor_Skip) (done:=[]) (c0:=(Tryd.f78.body.getD .skip)) hmix cbor_Skip_env done_nil rounds (by kernel_rfl) (by kernel_rfl) (fun x=>cbor_Skip_L0_eq x.1 x.2.1 x.2.2.1) (fun _=>rfl)
theorem cbor_Skip_ok:SoundT Tryd.prog cd gdn 78 S_cbor_Skip:=
  sound_fn (E:=E_cbor_Skip) (A:=A_cbor_Skip) (done:=[0]) (c:=(Tryd.f78.body.getD .skip)) (S:=S_cbor_Skip) (fn:=Tryd.f78) hmix cbor_Skip_env Tryd.func78 rfl (by kernel_rfl) (by kernel_rfl) (done_cons rfl cbor_Skip_L0_ok done_nil) (by kernel_rfl) (by kernel_rfl) cbor_Skip_eq
def Zcc_L0b (y0:(List (ApiItem))) (y1:(BitVec 64)) (y2:Int) (y3:(BitVec 64)) (y4:(BitVec 64)):Option (((List (ApiItem)) × (BitVec 64) × Int × (BitVec 64) × (BitVec 64) × Unit) ⊕ (((List (ApiItem)) × Bool × Unit) ⊕ (Unit))):=
 (bif (decide (y4.toNat < y3.toNat)) then ((cbor_Skip y0 (IntKind.wrap .i64 (y2 + (1:Int)))).bind fun r4=>(bif (!r4.2.2.1) then (some (Sum.inr (Sum.inl ([],false,()))))
 else ((getI y0 y2).bind fun x5=>(bif (decide (x5.kind=(1:Int))) then ((getI y0 y2).bind fun x6=>(bif (decide (x6.number=y1)) then (bif (decide ((0:Int) ≤ r4.2.1) && decide (r4.2.1 ≤ ((y0).length:Int))) then (bif (decide ((0:Int) ≤ (IntKind.wrap .i64 (y2 + (1:Int)))) && decide ((IntKind.wrap .i64 (y2 + (1:Int))) ≤ ((r4.2.1).toNat:Int))) then (let v7:List (ApiItem):=(List.drop ((IntKind.wrap .i64 (y2 + (1:Int)))).toNat (List.take (r4.2.1).toNat y0))
 ((Zby v7).bind fun r8=>(some (Sum.inr (Sum.inl (r8.2.1,true,()))))))
 else none)
 else none)
 else (some (Sum.inl (y0,y1,r4.2.1,y3,(y4 + 1#64),())))))
 else (some (Sum.inl (y0,y1,r4.2.1,y3,(y4 + 1#64),())))))))
 else (some (Sum.inr (Sum.inr ()))))
def Zcc_L0 (y:((List (ApiItem)) × (BitVec 64) × Int × (BitVec 64) × (BitVec 64) × Unit)):Option (((List (ApiItem)) × Bool × Unit) ⊕ (Unit)):=iter (fun (y:((List (ApiItem)) × (BitVec 64) × Int × (BitVec 64) × (BitVec 64) × Unit))=>Zcc_L0b y.1 y.2.1 y.2.2.1 y.2.2.2.1 y.2.2.2.2.1) rounds y
def Zcc (a0:(List (ApiItem))) (a1:(BitVec 64)):Option ((Unit) × ((List (ApiItem)) × Bool × Unit)):=
 ((Zbq a0).bind fun r1=>(bif (!decide (r1.2.1=(0:Int))) then (some ((),([],false,())))
 else ((getI a0 (0:Int)).bind fun x2=>(bif (!decide (x2.kind=(6:Int))) then (some ((),([],false,())))
 else ((getI a0 (0:Int)).bind fun x3=>((Zcc_L0 (a0,a1,(1:Int),x3.number,0#64,())).bind (Sum.elim (fun (z9:((List (ApiItem)) × Bool × Unit))=>(some ((),(z9.1,z9.2.1,())))) (fun (z10:(Unit))=>(some ((),([],false,())))))))))))
def S_Zcc:FSpec T:=⟨[.f (.v (.rs 1)),.f (.v .u64)],[(.own 1),(.v .bool)],fun x=>Zcc x.1 x.2.1⟩
def E_Zcc:Env T:=⟨tab.find,cd,globs,flc,fun f ds=>match f with
    | 52=>some S_Zbq
    | 78=>some S_cbor_Skip
    | 79=>some S_Zby
    | _=>none,fun f=>match f with
    | 52=>true
    | 78=>true
    | _=>false⟩
def A_Zcc:Loc2 T:=⟨fun id=>match id with
    | 0=>some ⟨[(0,.f (.v (.rs 1))),(1,.f (.v .u64)),(6,.f (.v (.int .i64))),(22,.f (.v .u64)),(23,.f (.v .u64))],[(.ret,[(4,.f (.own 1)),(5,.f (.v .bool))]),(.exit 0,[])],Zcc_L0,[]⟩
    | _=>none,fun r=>match r with
    | _=>none,fun r=>match r with
    | _=>false⟩
theorem Zcc_L0_eq (y0:(List (ApiItem))) (y1:(BitVec 64)) (y2:Int) (y3:(BitVec 64)) (y4:(BitVec 64)):run E_Zcc A_Zcc (loopAt 0 (Tryd.f61.body.getD .skip)) (layC cd [(0,.f (.v (.rs 1))),(1,.f (.v .u64)),(6,.f (.v (.int .i64))),(22,.f (.v .u64)),(23,.f (.v .u64))] [] (y0,y1,y2,y3,y4,())) (roundK cd [(0,.f (.v (.rs 1))),(1,.f (.v .u64)),(6,.f (.v (.int .i64))),(22,.f (.v .u64)),(23,.f (.v .u64))] [] [(.ret,[(4,.f (.own 1)),(5,.f (.v .bool))]),(.exit 0,[])])=Zcc_L0b y0 y1 y2 y3 y4:=by kernel_rfl
theorem Zcc_eq (x:tySs T S_Zcc.ps):run E_Zcc A_Zcc (Tryd.f61.body.getD .skip) (enterT E_Zcc.C S_Zcc.ps x) (retK E_Zcc Tryd.f61.results.toList S_Zcc.ps S_Zcc.rs)=S_Zcc.fn x:=by kernel_rfl
theorem Zcc_env:EnvOk Tryd.prog E_Zcc:=envOk (E:=E_Zcc) cd_ok tys fl_ok fun f ds S h=>by
    dsimp only [E_Zcc] at h
    split at h
    · cases h; exact Zbq_ok
    · cases h; exact cbor_Skip_ok
    · cases h; exact Zby_ok
    · cases h
theorem Zcc_L0_ok:LoopOk Tryd.prog E_Zcc Tryd.f61.ntmps (kqOf S_Zcc.ps 0) (loopAt 0 (Tryd.f61.body.getD .skip)) ⟨[(0,.f (.v (.rs 1))),(1,.f (.v .u64)),(6,.f (.v (.int .i64))),(22,.f (.v .u64)),(23,.f (.v .u64))],[(.ret,[(4,.f (.own 1)),(5,.f (.v .bool))]),(.exit 0,[])],Zcc_L0,[]⟩:=
  loop_ok (A:=A_Zcc) (done:=[]) (c0:=(Tryd.f61.body.getD .skip)) hmix Zcc_env done_nil rounds (by kernel_rfl) (by kernel_rfl) (fun x=>Zcc_L0_eq x.1 x.2.1 x.2.2.1 x.2.2.2.1 x.2.2.2.2.1) (fun _=>rfl)
theorem Zcc_ok:SoundT Tryd.prog cd gdn 61 S_Zcc:=
  sound_fn (E:=E_Zcc) (A:=A_Zcc) (done:=[0]) (c:=(Tryd.f61.body.getD .skip)) (S:=S_Zcc) (fn:=Tryd.f61) hmix Zcc_env Tryd.func61 rfl (by kernel_rfl) (by kernel_rfl) (done_cons rfl Zcc_L0_ok done_nil) (by kernel_rfl) (by kernel_rfl) Zcc_eq
def Zbc (a0:(List (ApiItem))) (a1:(BitVec 64)):Option ((Unit) × (ApiItem × Unit)):=
 ((Zcc a0 a1).bind fun r1=>(bif (!r1.2.2.1) then (some ((),((⟨(0:Int),0#64,([]:List UInt8)⟩:ApiItem),())))
 else (bif (decide (((r1.2.1).length:Int)=(0:Int))) then (some ((),((⟨(0:Int),0#64,([]:List UInt8)⟩:ApiItem),())))
 else (bif decide ((0:Int) < ((r1.2.1).length:Int)) then (((r1.2.1)[0]?).bind fun x2=>(some ((),(x2,()))))
 else none))))
def S_Zbc:FSpec T:=⟨[.f (.v (.rs 1)),.f (.v .u64)],[(.v (.agg 1))],fun x=>Zbc x.1 x.2.1⟩
def E_Zbc:Env T:=⟨tab.find,cd,globs,flc,fun f ds=>match f with
    | 61=>some S_Zcc
    | _=>none,fun f=>match f with
    | _=>false⟩
def A_Zbc:Loc2 T:=⟨fun id=>match id with
    | _=>none,fun r=>match r with
    | _=>none,fun r=>match r with
    | _=>false⟩
theorem Zbc_eq (x:tySs T S_Zbc.ps):run E_Zbc A_Zbc (Tryd.f38.body.getD .skip) (enterT E_Zbc.C S_Zbc.ps x) (retK E_Zbc Tryd.f38.results.toList S_Zbc.ps S_Zbc.rs)=S_Zbc.fn x:=by kernel_rfl
theorem Zbc_env:EnvOk Tryd.prog E_Zbc:=envOk (E:=E_Zbc) cd_ok tys fl_ok fun f ds S h=>by
    dsimp only [E_Zbc] at h
    split at h
    · cases h; exact Zcc_ok
    · cases h
theorem Zbc_ok:SoundT Tryd.prog cd gdn 38 S_Zbc:=
  sound_fn (E:=E_Zbc) (A:=A_Zbc) (done:=[]) (c:=(Tryd.f38.body.getD .skip)) (S:=S_Zbc) (fn:=Tryd.f38) hmix Zbc_env Tryd.func38 rfl (by kernel_rfl) (by kernel_rfl) done_nil (by kernel_rfl) (by kernel_rfl) Zbc_eq
def Zbz (a0:(List (UInt8))) (a1:(List (UInt8))):Option ((Unit) × (Bool × Unit)):=
 (some ((),((decide (a0=a1)),())))
def S_Zbz:FSpec T:=⟨[.f (.v (.rs 0)),.f (.v (.rs 0))],[(.v .bool)],fun x=>Zbz x.1 x.2.1⟩
def E_Zbz:Env T:=⟨tab.find,cd,globs,flc,fun f ds=>match f with
    | _=>none,fun f=>match f with
    | _=>false⟩
def A_Zbz:Loc2 T:=⟨fun id=>match id with
    | _=>none,fun r=>match r with
    | _=>none,fun r=>match r with
    | _=>false⟩
theorem Zbz_eq (x:tySs T S_Zbz.ps):run E_Zbz A_Zbz (Tryd.f39.body.getD .skip) (enterT E_Zbz.C S_Zbz.ps x) (retK E_Zbz Tryd.f39.results.toList S_Zbz.ps S_Zbz.rs)=S_Zbz.fn x:=by kernel_rfl
theorem Zbz_env:EnvOk Tryd.prog E_Zbz:=envOk (E:=E_Zbz) cd_ok tys fl_ok fun f ds S h=>by cases h
theorem Zbz_ok:SoundT Tryd.prog cd gdn 39 S_Zbz:=
  sound_fn (E:=E_Zbz) (A:=A_Zbz) (done:=[]) (c:=(Tryd.f39.body.getD .skip)) (S:=S_Zbz) (fn:=Tryd.f39) hmix Zbz_env Tryd.func39 rfl (by kernel_rfl) (by kernel_rfl) done_nil (by kernel_rfl) (by kernel_rfl) Zbz_eq
def Zas (a0:(List (UInt8))):Option ((Unit) × (ApiCredential × Int × Unit)):=
 ((Zca a0).bind fun r1=>(bif (!decide (r1.2.2.2.1=(0:Int))) then (some ((),((⟨([]:List UInt8),([]:List UInt8),([]:List UInt8),0#64,(0:Int),false,(0:Int),false,false⟩:ApiCredential),(2:Int),())))
 else ((Zbc r1.2.1 (1#64)).bind fun r2=>((Zbc r1.2.1 (2#64)).bind fun r3=>((Zbc r1.2.1 (3#64)).bind fun r4=>((Zbc r1.2.1 (4#64)).bind fun r5=>((Zbc r1.2.1 (5#64)).bind fun r6=>((Zbc r1.2.1 (6#64)).bind fun r7=>((Zbc r1.2.1 (7#64)).bind fun r8=>((Zbc r1.2.1 (8#64)).bind fun r9=>((Zbc r1.2.1 (9#64)).bind fun r10=>((Zat (⟨r2.2.1.data,r3.2.1.data,r4.2.1.data,r5.2.1.number,(IntKind.wrap .i64 (r6.2.1.number.toNat:Int)),(decide (r7.2.1.number=1#64)),(IntKind.wrap .i64 (r8.2.1.number.toNat:Int)),(decide (r9.2.1.number=1#64)),(decide (r10.2.1.number=1#64))⟩:ApiCredential)).bind fun r11=>(bif (!decide (r11.2.2.1=(0:Int))) then (some ((),((⟨([]:List UInt8),([]:List UInt8),([]:List UInt8),0#64,(0:Int),false,(0:Int),false,false⟩:ApiCredential),(2:Int),())))
 else ((Zbz r11.2.1 a0).bind fun r12=>(bif (!r12.2.1) then (some ((),((⟨([]:List UInt8),([]:List UInt8),([]:List UInt8),0#64,(0:Int),false,(0:Int),false,false⟩:ApiCredential),(2:Int),())))
 else (some ((),((⟨r2.2.1.data,r3.2.1.data,r4.2.1.data,r5.2.1.number,(IntKind.wrap .i64 (r6.2.1.number.toNat:Int)),(decide (r7.2.1.number=1#64)),(IntKind.wrap .i64 (r8.2.1.number.toNat:Int)),(decide (r9.2.1.number=1#64)),(decide (r10.2.1.number=1#64))⟩:ApiCredential),(0:Int),()))))))))))))))))))
def S_Zas:FSpec T:=⟨[.f (.v (.rs 0))],[(.v (.agg 3)),(.v (.int .i64))],fun x=>Zas x.1⟩
def E_Zas:Env T:=⟨tab.find,cd,globs,flc,fun f ds=>match f with
    | 11=>some S_Zat
    | 19=>some S_Zca
    | 38=>some S_Zbc
    | 39=>some S_Zbz
    | _=>none,fun f=>match f with
    | 38=>true
    | 39=>true
    | _=>false⟩
def A_Zas:Loc2 T:=⟨fun id=>match id with
    | _=>none,fun r=>match r with
    | _=>none,fun r=>match r with
    | _=>false⟩
theorem Zas_eq (x:tySs T S_Zas.ps):run E_Zas A_Zas (Tryd.f20.body.getD .skip) (enterT E_Zas.C S_Zas.ps x) (retK E_Zas Tryd.f20.results.toList S_Zas.ps S_Zas.rs)=S_Zas.fn x:=by kernel_rfl
theorem Zas_env:EnvOk Tryd.prog E_Zas:=envOk (E:=E_Zas) cd_ok tys fl_ok fun f ds S h=>by
    dsimp only [E_Zas] at h
    split at h
    · cases h; exact Zat_ok
    · cases h; exact Zca_ok
    · cases h; exact Zbc_ok
    · cases h; exact Zbz_ok
    · cases h
theorem Zas_ok:SoundT Tryd.prog cd gdn 20 S_Zas:=
  sound_fn (E:=E_Zas) (A:=A_Zas) (done:=[]) (c:=(Tryd.f20.body.getD .skip)) (S:=S_Zas) (fn:=Tryd.f20) hmix Zas_env Tryd.func20 rfl (by kernel_rfl) (by kernel_rfl) done_nil (by kernel_rfl) (by kernel_rfl) Zas_eq
def Zai_L0b (y0:(List (UInt8))) (y1:UInt8):Option (((List (UInt8)) × UInt8 × Unit) ⊕ ((List (UInt8)) × Unit)):=
 (bif (decide ((0:Int) < ((y0).length:Int))) then ((getI y0 (IntKind.wrap .i64 (((y0).length:Int) - (1:Int)))).bind fun x1=>(bif (decide (x1.toBitVec=y1.toBitVec)) then (bif (decide ((0:Int) ≤ (IntKind.wrap .i64 (((y0).length:Int) - (1:Int)))) && decide ((IntKind.wrap .i64 (((y0).length:Int) - (1:Int))) ≤ ((y0).length:Int))) then (let v2:List (UInt8):=(List.take ((IntKind.wrap .i64 (((y0).length:Int) - (1:Int)))).toNat y0)
 (some (Sum.inl (v2,y1,()))))
 else none)
 else (some (Sum.inr (y0,())))))
 else (some (Sum.inr (y0,()))))
def Zai_L0 (y:((List (UInt8)) × UInt8 × Unit)):Option ((List (UInt8)) × Unit):=iter (fun (y:((List (UInt8)) × UInt8 × Unit))=>Zai_L0b y.1 y.2.1) rounds y
def Zai (a0:(List (UInt8))) (a1:UInt8):Option ((Unit) × ((List (UInt8)) × Unit)):=
 ((Zai_L0 (a0,a1,())).bind (fun (z3:((List (UInt8)) × Unit))=>(some ((),(z3.1,())))))
def S_Zai:FSpec T:=⟨[.f (.v (.rs 0)),.f (.v .u8)],[(.v (.rs 0))],fun x=>Zai x.1 x.2.1⟩
def E_Zai:Env T:=⟨tab.find,cd,globs,flc,fun f ds=>match f with
    | _=>none,fun f=>match f with
    | _=>false⟩
def A_Zai:Loc2 T:=⟨fun id=>match id with
    | 0=>some ⟨[(0,.f (.v (.rs 0))),(1,.f (.v .u8))],[(.exit 0,[(0,.f (.v (.rs 0)))])],Zai_L0,[]⟩
    | _=>none,fun r=>match r with
    | _=>none,fun r=>match r with
    | _=>false⟩
theorem Zai_L0_eq (y0:(List (UInt8))) (y1:UInt8):run E_Zai A_Zai (loopAt 0 (Tryd.f41.body.getD .skip)) (layC cd [(0,.f (.v (.rs 0))),(1,.f (.v .u8))] [] (y0,y1,())) (roundK cd [(0,.f (.v (.rs 0))),(1,.f (.v .u8))] [] [(.exit 0,[(0,.f (.v (.rs 0)))])])=Zai_L0b y0 y1:=by kernel_rfl
theorem Zai_eq (x:tySs T S_Zai.ps):run E_Zai A_Zai (Tryd.f41.body.getD .skip) (enterT E_Zai.C S_Zai.ps x) (retK E_Zai Tryd.f41.results.toList S_Zai.ps S_Zai.rs)=S_Zai.fn x:=by kernel_rfl
theorem Zai_env:EnvOk Tryd.prog E_Zai:=envOk (E:=E_Zai) cd_ok tys fl_ok fun f ds S h=>by cases h
theorem Zai_L0_ok:LoopOk Tryd.prog E_Zai Tryd.f41.ntmps (kqOf S_Zai.ps 0) (loopAt 0 (Tryd.f41.body.getD .skip)) ⟨[(0,.f (.v (.rs 0))),(1,.f (.v .u8))],[(.exit 0,[(0,.f (.v (.rs 0)))])],Zai_L0,[]⟩:=
  loop_ok (A:=A_Zai) (done:=[]) (c0:=(Tryd.f41.body.getD .skip)) hmix Zai_env done_nil rounds (by kernel_rfl) (by kernel_rfl) (fun x=>Zai_L0_eq x.1 x.2.1) (fun _=>rfl)
theorem Zai_ok:SoundT Tryd.prog cd gdn 41 S_Zai:=
  sound_fn (E:=E_Zai) (A:=A_Zai) (done:=[0]) (c:=(Tryd.f41.body.getD .skip)) (S:=S_Zai) (fn:=Tryd.f41) hmix Zai_env Tryd.func41 rfl (by kernel_rfl) (by kernel_rfl) (done_cons rfl Zai_L0_ok done_nil) (by kernel_rfl) (by kernel_rfl) Zai_eq
end Go.Proofs.YtghfcfjnfgmkgaaDoor

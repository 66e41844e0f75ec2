/- The functions of the program, as plain functions, and that the program computes them. Written by a program. -/
import Derived.Test.YtjedfmknnkimmaaDoorLib8
import Derived.Test.YtjedfmknnkimmaaDoorLay
import Derived.Lib.LaidU8
import Derived.Lib.BytesEntry
import Derived.Lib.Bytealg
import Derived.Lib.ValidU
import Derived.Test.YtjedfmknnkimmaaDoorClone
import Derived.Test.YtjedfmknnkimmaaDoorProg
import Derived.WalkKit
set_option linter.unusedVariables false
set_option maxRecDepth 100000
namespace Go.Proofs.YtjedfmknnkimmaaDoor
open Go Go.Abs
structure ApiItem where
  kind : Int
  number : BitVec 64
  data : List UInt8
  deriving DecidableEq, Inhabited
structure CborFrame where
  pairs : Bool
  left : Int
  last_ : List UInt8
  deriving DecidableEq, Inhabited
structure CborWalk where
  open_ : List CborFrame
  count : Int
  deriving DecidableEq, Inhabited
structure CborChecker where
  walk : CborWalk
  deriving DecidableEq, Inhabited
structure CborReader where
  walk : CborWalk
  b : List UInt8
  at_ : Int
  deriving DecidableEq, Inhabited
abbrev T : Nat → Type
  | 0 => UInt8
  | 1 => ApiItem
  | 2 => CborFrame
  | 3 => CborWalk
  | 4 => CborChecker
  | 5 => BitVec 64
  | 6 => List ApiItem
  | 7 => Int
  | 8 => CborReader
  | 9 => List UInt8
  | 10 => Bool
  | _ => Unit
def lfs : Nat → List Lf
  | 0 => [.u8]
  | 1 => [.int .i64, .u64, .str]
  | 2 => [.bool, .int .i64, .rn 0]
  | 3 => [.rs 2, .int .i64]
  | 4 => [.rs 2, .int .i64]
  | 5 => [.u64]
  | 6 => [.rs 1]
  | 7 => [.int .i64]
  | 8 => [.rs 2, .int .i64, .rs 0, .int .i64]
  | 9 => [.str]
  | 10 => [.bool]
  | _ => []
def to0 (x : UInt8) : tyLs T (lfs 0) := (x, ())
def of0 (y : tyLs T (lfs 0)) : UInt8 := y.1
def eD0 (x : UInt8) : List D := [.int .u8 x.toNat]
def to1 (x : ApiItem) : tyLs T (lfs 1) := (x.kind, x.number, x.data, ())
def of1 (y : tyLs T (lfs 1)) : ApiItem := ⟨y.1, y.2.1, y.2.2.1⟩
def eD1 (x : ApiItem) : List D := [.int .i64 x.kind, .int .u64 x.number.toNat, .str x.data]
def to2 (x : CborFrame) : tyLs T (lfs 2) := (x.pairs, x.left, x.last_, ())
def of2 (y : tyLs T (lfs 2)) : CborFrame := ⟨y.1, y.2.1, y.2.2.1⟩
def eD2 (x : CborFrame) : List D := [.bool x.pairs, .int .i64 x.left, rnD 1 (x.last_.map eD0)]
def to3 (x : CborWalk) : tyLs T (lfs 3) := (x.open_, x.count, ())
def of3 (y : tyLs T (lfs 3)) : CborWalk := ⟨y.1, y.2.1⟩
def eD3 (x : CborWalk) : List D := [.rs 3 (x.open_.map eD2), .int .i64 x.count]
def to4 (x : CborChecker) : tyLs T (lfs 4) := (x.walk.open_, x.walk.count, ())
def of4 (y : tyLs T (lfs 4)) : CborChecker := ⟨⟨y.1, y.2.1⟩⟩
def eD4 (x : CborChecker) : List D := [.rs 3 (x.walk.open_.map eD2), .int .i64 x.walk.count]
def to5 (x : BitVec 64) : tyLs T (lfs 5) := (x, ())
def of5 (y : tyLs T (lfs 5)) : BitVec 64 := y.1
def eD5 (x : BitVec 64) : List D := [.int .u64 x.toNat]
def to6 (x : List ApiItem) : tyLs T (lfs 6) := (x, ())
def of6 (y : tyLs T (lfs 6)) : List ApiItem := y.1
def eD6 (x : List ApiItem) : List D := [.rs 3 (x.map eD1)]
def to7 (x : Int) : tyLs T (lfs 7) := (x, ())
def of7 (y : tyLs T (lfs 7)) : Int := y.1
def eD7 (x : Int) : List D := [.int .i64 x]
def to8 (x : CborReader) : tyLs T (lfs 8) := (x.walk.open_, x.walk.count, x.b, x.at_, ())
def of8 (y : tyLs T (lfs 8)) : CborReader := ⟨⟨y.1, y.2.1⟩, y.2.2.1, y.2.2.2.1⟩
def eD8 (x : CborReader) : List D := [.rs 3 (x.walk.open_.map eD2), .int .i64 x.walk.count, .rs 1 (x.b.map eD0), .int .i64 x.at_]
def to9 (x : List UInt8) : tyLs T (lfs 9) := (x, ())
def of9 (y : tyLs T (lfs 9)) : List UInt8 := y.1
def eD9 (x : List UInt8) : List D := [.str x]
def to10 (x : Bool) : tyLs T (lfs 10) := (x, ())
def of10 (y : tyLs T (lfs 10)) : Bool := y.1
def eD10 (x : Bool) : List D := [.bool x]
def cd : Cd T where
  sz := fun c => match c with
    | 0 => 1
    | 1 => 3
    | 2 => 3
    | 3 => 2
    | 4 => 2
    | 5 => 1
    | 6 => 1
    | 7 => 1
    | 8 => 4
    | 9 => 1
    | 10 => 1
    | _ => 0
  encD := fun c x => match c, x with
    | 0, x => eD0 x
    | 1, x => eD1 x
    | 2, x => eD2 x
    | 3, x => eD3 x
    | 4, x => eD4 x
    | 5, x => eD5 x
    | 6, x => eD6 x
    | 7, x => eD7 x
    | 8, x => eD8 x
    | 9, x => eD9 x
    | 10, x => eD10 x
    | _, _ => []
  enc := fun c x => match c, x with
    | 0, x => encL (lfs 0) (to0 x)
    | 1, x => encL (lfs 1) (to1 x)
    | 2, x => encL (lfs 2) (to2 x)
    | 3, x => encL (lfs 3) (to3 x)
    | 4, x => encL (lfs 4) (to4 x)
    | 5, x => encL (lfs 5) (to5 x)
    | 6, x => encL (lfs 6) (to6 x)
    | 7, x => encL (lfs 7) (to7 x)
    | 8, x => encL (lfs 8) (to8 x)
    | 9, x => encL (lfs 9) (to9 x)
    | 10, x => encL (lfs 10) (to10 x)
    | _, _ => []
  dec := fun c ds => match c with
    | 0 => (decL (lfs 0) ds).map of0
    | 1 => (decL (lfs 1) ds).map of1
    | 2 => (decL (lfs 2) ds).map of2
    | 3 => (decL (lfs 3) ds).map of3
    | 4 => (decL (lfs 4) ds).map of4
    | 5 => (decL (lfs 5) ds).map of5
    | 6 => (decL (lfs 6) ds).map of6
    | 7 => (decL (lfs 7) ds).map of7
    | 8 => (decL (lfs 8) ds).map of8
    | 9 => (decL (lfs 9) ds).map of9
    | 10 => (decL (lfs 10) ds).map of10
    | _ => none
  bt := 0
  hb := rfl
  rn := fun c => match c with
    | 2 => [false, false, true]
    | _ => []
  im := fun t => match t with
    | 58 => true
    | _ => false
theorem cd_ok : CdOk cd where
  len := fun c => match c with
    | 0 => fun _ => rfl
    | 1 => fun _ => rfl
    | 2 => fun _ => rfl
    | 3 => fun _ => rfl
    | 4 => fun _ => rfl
    | 5 => fun _ => rfl
    | 6 => fun _ => rfl
    | 7 => fun _ => rfl
    | 8 => fun _ => rfl
    | 9 => fun _ => rfl
    | 10 => fun _ => rfl
    | _ + 11 => fun _ => rfl
  enc := fun c => match c with
    | 0 => fun _ => rfl
    | 1 => fun _ => rfl
    | 2 => fun _ => rfl
    | 3 => fun _ => rfl
    | 4 => fun _ => rfl
    | 5 => fun _ => rfl
    | 6 => fun _ => rfl
    | 7 => fun _ => rfl
    | 8 => fun _ => rfl
    | 9 => fun _ => rfl
    | 10 => fun _ => rfl
    | _ + 11 => fun _ => rfl
  epure := fun c => match c with
    | 0 => fun _ => rfl
    | 1 => fun _ => rfl
    | 2 => fun _ => rfl
    | 3 => fun _ => rfl
    | 4 => fun _ => rfl
    | 5 => fun _ => rfl
    | 6 => fun _ => rfl
    | 7 => fun _ => rfl
    | 8 => fun _ => rfl
    | 9 => fun _ => rfl
    | 10 => fun _ => rfl
    | _ + 11 => fun _ => rfl
  byte := fun _ => rfl
  bsz := rfl
  dec := fun c => match c with
    | 0 => fun ds x h => dec_ok cd (c := 0) (lfs 0) (of := of0) (e := eD0) (fun _ => rfl) ds x h
    | 1 => fun ds x h => dec_ok cd (c := 1) (lfs 1) (of := of1) (e := eD1) (fun _ => rfl) ds x h
    | 2 => fun ds x h => dec_ok cd (c := 2) (lfs 2) (of := of2) (e := eD2) (fun _ => rfl) ds x h
    | 3 => fun ds x h => dec_ok cd (c := 3) (lfs 3) (of := of3) (e := eD3) (fun _ => rfl) ds x h
    | 4 => fun ds x h => dec_ok cd (c := 4) (lfs 4) (of := of4) (e := eD4) (fun _ => rfl) ds x h
    | 5 => fun ds x h => dec_ok cd (c := 5) (lfs 5) (of := of5) (e := eD5) (fun _ => rfl) ds x h
    | 6 => fun ds x h => dec_ok cd (c := 6) (lfs 6) (of := of6) (e := eD6) (fun _ => rfl) ds x h
    | 7 => fun ds x h => dec_ok cd (c := 7) (lfs 7) (of := of7) (e := eD7) (fun _ => rfl) ds x h
    | 8 => fun ds x h => dec_ok cd (c := 8) (lfs 8) (of := of8) (e := eD8) (fun _ => rfl) ds x h
    | 9 => fun ds x h => dec_ok cd (c := 9) (lfs 9) (of := of9) (e := eD9) (fun _ => rfl) ds x h
    | 10 => fun ds x h => dec_ok cd (c := 10) (lfs 10) (of := of10) (e := eD10) (fun _ => rfl) ds x h
    | _ + 11 => fun _ _ h => by cases h
def ti3 : TI := ⟨7, 1, 8, .int .i64, [.i .i64], [], [], none⟩
def ti4 : TI := ⟨10, 1, 1, .bool, [.b], [], [], none⟩
def ti5 : TI := ⟨0, 1, 1, .int .u8, [.i .u8], [], [], none⟩
def ti9 : TI := ⟨9, 1, 16, .str, [.s], [], [], none⟩
def ti22 : TI := ⟨6, 1, 24, .slice 44, [.ns], [], [], none⟩
def ti25 : TI := ⟨12, 1, 24, .slice 5, [.ns], [], [], none⟩
def ti26 : TI := ⟨12, 1, 8, .int .i64, [.i .i64], [], [], none⟩
def ti30 : TI := ⟨12, 1, 24, .slice 3, [.ns], [], [], none⟩
def ti41 : TI := ⟨12, 1, 2, .int .u16, [.i .u16], [], [], none⟩
def ti42 : TI := ⟨5, 1, 8, .int .u64, [.i .u64], [], [], none⟩
def ti44 : TI := ⟨1, 3, 32, .strct, [.i .i64, .i .u64, .s], [some (0, 3), some (1, 42), some (2, 9)], [(0, 1), (1, 1), (2, 1)], some [3, 3, 2]⟩
def ti53 : TI := ⟨12, 1, 8, .int .u64, [.i .u64], [], [], none⟩
def ti58 : TI := ⟨12, 1, 24, .slice 42, [.ns], [], [], none⟩
def ti59 : TI := ⟨12, 1, 24, .slice 22, [.ns], [], [], none⟩
def ti66 : TI := ⟨12, 1, 24, .slice 113, [.ns], [], [], none⟩
def ti68 : TI := ⟨3, 2, 32, .strct, [.ns, .i .i64], [some (0, 66), some (1, 3)], [(0, 1), (1, 1)], none⟩
def ti70 : TI := ⟨4, 2, 32, .strct, [.ns, .i .i64], [some (0, 68)], [(0, 2)], none⟩
def ti76 : TI := ⟨12, 1, 24, .slice 9, [.ns], [], [], none⟩
def ti78 : TI := ⟨8, 4, 64, .strct, [.ns, .i .i64, .ns, .i .i64], [some (0, 68), some (2, 25), some (3, 3)], [(0, 2), (2, 1), (3, 1)], none⟩
def ti83 : TI := ⟨12, 3, 48, .strct, [.s, .i .i64, .ns], [some (0, 9), some (1, 3), some (2, 22)], [(0, 1), (1, 1), (2, 1)], none⟩
def ti91 : TI := ⟨12, 1, 24, .slice 4, [.ns], [], [], none⟩
def ti113 : TI := ⟨2, 3, 40, .strct, [.b, .i .i64, .ns], [some (0, 4), some (1, 3), some (2, 25)], [(0, 1), (1, 1), (2, 1)], none⟩
def tab : Tr := .node (.node (.node (.node (.node .leaf 3 ti3 .leaf) 4 ti4 .leaf) 5 ti5 (.node (.node .leaf 9 ti9 .leaf) 22 ti22 .leaf)) 25 ti25 (.node (.node (.node .leaf 26 ti26 .leaf) 30 ti30 .leaf) 41 ti41 (.node (.node .leaf 42 ti42 .leaf) 44 ti44 .leaf))) 53 ti53 (.node (.node (.node (.node .leaf 58 ti58 .leaf) 59 ti59 .leaf) 66 ti66 (.node (.node .leaf 68 ti68 .leaf) 70 ti70 .leaf)) 76 ti76 (.node (.node (.node .leaf 78 ti78 .leaf) 83 ti83 .leaf) 91 ti91 (.node .leaf 113 ti113 .leaf)))
def globs : Nat → Option (List (DT T)) := fun g => match g with
  | 0 => some (Lib.firstTab.map fun z => DT.int .u8 z)
  | 1 => some (((List.range 16).flatMap fun i => [((Lib.accLo i : Nat) : Int), ((Lib.accHi i : Nat) : Int)]).map fun z => DT.int .u8 z)
  | _ => none
def flc : Nat → Bool := fun c => match c with
  | 0 => true
  | 1 => true
  | 2 => false
  | 3 => false
  | 4 => false
  | 5 => true
  | 6 => false
  | 7 => true
  | 8 => false
  | 9 => true
  | 10 => true
  | _ => false
theorem hmix : Tryd.prog.follows .mixedOrders = true := by kernel_rfl
theorem tys : TysOk Tryd.prog tab.find := tys_ok (by kernel_rfl)
abbrev gdn : Nat → Option (List D) := fun g => (globs g).map (denL cd)
theorem fl_ok : FlOk cd flc := fun c => match c with
  | 0 => fun h _ => rfl
  | 1 => fun h _ => rfl
  | 2 => fun h _ => by cases h
  | 3 => fun h _ => by cases h
  | 4 => fun h _ => by cases h
  | 5 => fun h _ => rfl
  | 6 => fun h _ => by cases h
  | 7 => fun h _ => rfl
  | 8 => fun h _ => by cases h
  | 9 => fun h _ => rfl
  | 10 => fun h _ => rfl
  | _ + 11 => fun h _ => by cases h
theorem row_lt {w : World} {b : Nat} (h : 0 < rowSize w b) : b < w.heap.size := by
  unfold rowSize at h
  cases hh : w.heap[b]? with
  | none => rw [hh] at h; cases h
  | some o => exact (Array.getElem?_eq_some_iff.1 hh).1
def accTab : List Int := (List.range 16).flatMap fun i => [Lib.accLo i, Lib.accHi i]
theorem gdn0 : gdn 0 = some (tabD .u8 Lib.firstTab) := by
  show some (denL cd _) = _
  rw [denL_map]
  simp [tabD, den, Function.comp_def]
theorem gdn1 : gdn 1 = some (tabD .u8 accTab) := by
  show some (denL cd _) = _
  rw [denL_map]
  simp [tabD, den, Function.comp_def, accTab]
theorem acc_lo : ∀ i : Fin 16, accTab[2 * i.val]? = some ((Lib.accLo i.val : Nat) : Int) := by decide
theorem acc_hi : ∀ i : Fin 16, accTab[2 * i.val + 1]? = some ((Lib.accHi i.val : Nat) : Int) := by decide
theorem tabs_of {I : Nat → Prop} {w : World} (h : Glob gdn I w) : Lib.Utf8Tabs 0 1 w := by
  refine ⟨fun c hc => glob_tab (h 0 _ gdn0).2.1 (by simp [Lib.firstTab, hc]), fun i hi => ⟨?_, ?_⟩⟩
  · exact glob_tab (h 1 _ gdn1).2.1 (acc_lo ⟨i, hi⟩)
  · exact glob_tab (h 1 _ gdn1).2.1 (acc_hi ⟨i, hi⟩)
theorem glob_of {w : World} (h : Lib.Utf8Tabs 0 1 w) (h0 : rowSize w 0 = 256) (h1 : rowSize w 1 = 32) : Glob gdn (All w) w := by
  intro g cs e
  match g, e with
  | 0, e =>
    rw [gdn0] at e; cases e
    refine ⟨row_lt (by omega), tab_glob fun i n hn => ?_, by rw [h0]; simp [tabD, Lib.firstTab]⟩
    have hi : i < 256 := by
      have := (List.getElem?_eq_some_iff.1 hn).1
      simpa [Lib.firstTab] using this
    have e2 : Lib.firstTab[i]? = some ((Lib.firstT i : Nat) : Int) := by simp [Lib.firstTab, hi]
    rw [hn] at e2; cases e2
    exact h.1 i hi
  | 1, e =>
    rw [gdn1] at e; cases e
    refine ⟨row_lt (by omega), tab_glob fun i n hn => ?_, by rw [h1]; decide⟩
    have hi : i < 32 := by
      have := (List.getElem?_eq_some_iff.1 hn).1
      have e : accTab.length = 32 := by decide
      omega
    rcases Nat.mod_two_eq_zero_or_one i with hm | hm
    · have e3 : i = 2 * (i / 2) := by omega
      have e2 := acc_lo ⟨i / 2, by omega⟩
      simp only at e2
      rw [← e3, hn] at e2; cases e2
      have := (h.2 (i / 2) (by omega)).1
      rwa [← e3] at this
    · have e3 : i = 2 * (i / 2) + 1 := by omega
      have e2 := acc_hi ⟨i / 2, by omega⟩
      simp only at e2
      rw [← e3, hn] at e2; cases e2
      have := (h.2 (i / 2) (by omega)).2
      rwa [← e3] at this
  | n + 2, e => cases e
def utf8_ValidString (a0 : List UInt8) : Option (Unit × (Bool × Unit)) := bif decide (a0.length ≤ 9223372036854775807) then some ((), Lib.validD a0, ()) else none
def S_utf8_ValidString : FSpec T := ⟨[.f (.v .str)], [.v .bool], fun x => utf8_ValidString x.1⟩
theorem utf8_ValidString_ok : SoundT Tryd.prog cd gdn 62 S_utf8_ValidString := by
  refine sound_below (vts := [.str]) (rts := [.bool]) ⟨_, Tryd.func62, by kernel_rfl, by kernel_rfl⟩ fun I own w args x r hG hv hF => ?_
  obtain ⟨v, vr, _, _, rfl, h1, rfl, _⟩ := hv
  change V I w (.str x.1) free v at h1
  simp only [V] at h1
  subst h1
  change utf8_ValidString x.1 = some r at hF
  unfold utf8_ValidString at hF
  by_cases hs : x.1.length ≤ 9223372036854775807
  · simp only [hs, decide_true, cond_true] at hF
    have hr := Option.some.inj hF
    subst hr
    refine ⟨[.bool (Lib.validD x.1)], fun I' w' => ⟨_, _, none', none', rfl, (show V I' w' (.bool (Lib.validD x.1)) free _ by simp [V]), rfl, fun _ h => h, fun _ h => h, fun _ h => h.elim⟩, ?_⟩
    exact (Any.utf8_ValidString Tryd.lays196 ⟨x.1.toArray⟩ w (by rw [show ByteArray.size ⟨List.toArray x.1⟩ = List.length x.1 from List.size_toArray]; exact hs) (tabs_of hG)).mono fun e w' h => ⟨h.1, h.2⟩
  · simp [hs] at hF
theorem bytesOf_rs {I : Nat → Prop} {w : World} {l : List UInt8} {v : Value} (h : V I w (.rs 1 (l.map byteD)) free v) : (Extern.Bytes.bytesOf v).run Tryd.prog w = .ok ⟨l.toArray⟩ w := by
  simp only [V] at h
  rcases h with ⟨hl, p, cap, rfl⟩ | ⟨b, o, cap, rfl, hcap, hIb, hvr⟩
  · have : l = [] := List.map_eq_nil_iff.1 hl
    subst this
    cases p <;> rfl
  · have := Lib.run_loadBytesX (P := Tryd.prog) w (l.map fun c => (c.toNat : Int)) ⟨b, o, none⟩ .empty (fun j x hj => by
      rw [List.getElem?_map] at hj
      obtain ⟨c, hc, rfl⟩ := Option.map_eq_some_iff.1 hj
      rw [← VR_bytes hvr hc, Addr.add_lit])
    have e : Lib.bytesOf (l.map fun c => (c.toNat : Int)) = l := by
      unfold Lib.bytesOf
      rw [List.map_map]
      conv => rhs; rw [← List.map_id l]
      apply List.map_congr_left
      intro c _
      simp
    rw [e] at this
    simp only [Extern.Bytes.bytesOf, List.length_map] at this ⊢
    rw [this]
    simp
theorem bytes_Compare_calls (v1 v2 : Value) (a b : List UInt8) (w : World) (h1 : (Extern.Bytes.bytesOf v1).run Tryd.prog w = .ok ⟨a.toArray⟩ w) (h2 : (Extern.Bytes.bytesOf v2).run Tryd.prog w = .ok ⟨b.toArray⟩ w) : Calls Tryd.prog 84 #[v1, v2] w fun e w' => e = .returned (.int .i64 (Lib.compareBytes a b)) ∧ w' = w := by
  have hx : ∀ w', w' = w → (callFunc 90 #[v1, v2]).run Tryd.prog w' = .ok (.value (.int .i64 (Lib.compareBytes a b))) w' := by
    intro w' e
    subst e
    rw [run_callFunc_extern Tryd.func90 (by kernel_rfl) (by kernel_rfl) (by kernel_rfl) (e := Extern.BytealgCompare.compare) (by kernel_rfl)]
    change Result.andThen (Sem.run Tryd.prog (do pure (goInt (Extern.BytealgCompare.cmp (← Extern.Bytes.bytesOf v1) (← Extern.Bytes.bytesOf v2)))) w') _ = _
    simp only [Sem.run_bind, h1, h2, Sem.run_pure, Result.andThen]
    rw [Lib.cmp_eq]
    rfl
  go_enter Tryd.func84, Tryd.ntmps84
  go_wp2
  go_ret
  exact ⟨rfl, rfl⟩
def bytes_Compare (a0 a1 : List UInt8) : Option (Unit × (Int × Unit)) := some ((), Lib.compareBytes a0 a1, ())
def S_bytes_Compare : FSpec T := ⟨[.f (.v (.rs 0)), .f (.v (.rs 0))], [.v (.int .i64)], fun x => bytes_Compare x.1 x.2.1⟩
theorem bytes_Compare_ok : SoundT Tryd.prog cd gdn 84 S_bytes_Compare := by
  refine sound_below (vts := [.rs 0, .rs 0]) (rts := [.int .i64]) ⟨_, Tryd.func84, by kernel_rfl, by kernel_rfl⟩ fun I own w args x r hG hv hF => ?_
  obtain ⟨v, vr, _, _, rfl, h1, ⟨v2, vr2, _, _, rfl, h2, rfl, _⟩, _⟩ := hv
  change V I w (.rs 1 (List.map byteD x.1)) free v at h1
  change V I w (.rs 1 (List.map byteD x.2.1)) free v2 at h2
  change bytes_Compare x.1 x.2.1 = some r at hF
  unfold bytes_Compare at hF
  have hr := Option.some.inj hF
  subst hr
  refine ⟨[.int .i64 (Lib.compareBytes x.1 x.2.1)], fun I' w' => ⟨_, _, none', none', rfl, (show V I' w' (.int .i64 (Lib.compareBytes x.1 x.2.1)) free _ by simp [V]), rfl, fun _ h => h, fun _ h => h, fun _ h => h.elim⟩, ?_⟩
  refine (bytes_Compare_calls _ _ _ _ w (bytesOf_rs h1) (bytesOf_rs h2)).mono fun e w' h => ?_
  obtain ⟨rfl, rfl⟩ := h
  exact ⟨rfl, RowKit.Below.refl _ _⟩
def slices_Clone (a0 : List ApiItem) : Option (Unit × (List ApiItem × Unit)) := bif decide (a0.length ≤ 1000000) then some ((), a0, ()) else none
def S_slices_Clone : FSpec T := ⟨[.f (.v (.rs 1))], [.own 1], fun x => slices_Clone x.1⟩
theorem slices_Clone_ok : SoundT Tryd.prog cd gdn 45 S_slices_Clone := by
  refine sound_cloneE (C := cd) (c := 1) (te := 44) (F := fun x => slices_Clone x.1) (by decide) ⟨_, Tryd.func45, by kernel_rfl, by kernel_rfl⟩ (fun x r h => ?_) (fun n c w => AnyE.slices_Clone_nil Tryd.laysCl n c w) (fun a n c news w h1 h2 h3 h4 => ?_)
  · change slices_Clone x.1 = some r at h
    unfold slices_Clone at h
    by_cases hs : List.length x.1 ≤ 1000000
    · simp only [hs, decide_true, cond_true] at h
      have hr := Option.some.inj h
      subst hr
      exact ⟨rfl, hs⟩
    · simp [hs] at h
  · have hi : ((Tryd.prog.info? 44).bind fun i => i.zero.bind fun z => some (i.size, i.bytes, z.cells.size)) = some (3, 32, 3) := by kernel_rfl
    cases hq : Tryd.prog.info? 44 with
    | none => rw [hq] at hi; cases hi
    | some i0 =>
    rw [hq] at hi
    cases hz : i0.zero with
    | none => rw [Option.bind_some, hz] at hi; cases hi
    | some z =>
    rw [Option.bind_some, hz, Option.bind_some] at hi
    obtain ⟨e1, e2, e3⟩ : i0.size = 3 ∧ i0.bytes = 32 ∧ z.cells.size = 3 := by
      have := Option.some.inj hi
      simpa using this
    exact clone_at Tryd.laysCl i0 z 3 32 hq hz e1 e2 e3 (by decide) Tryd.sizeOf44 a n c news w h1 (by unfold maxLen; omega) (by omega) h3 h4
def cbor_walk_done (a0 : CborWalk) : Option ((Unit) × (Bool × Unit)) :=
 (bif (decide ((0 : Int) < a0.count)) then (some ((), ((decide (((a0.open_).length : Int) = (0 : Int))), ())))
 else (some ((), (false, ()))))
def S_cbor_walk_done : FSpec T := ⟨[.f (.v (.ref (.agg 3)))], [(.v .bool)], fun x => cbor_walk_done x.1⟩
def E_cbor_walk_done : Env T := ⟨tab.find, cd, globs, flc, fun f ds => match f with
    | _ => none, fun f => match f with
    | _ => false⟩
def A_cbor_walk_done : Loc2 T := ⟨fun id => match id with
    | _ => none, fun r => match r with
    | _ => none, fun r => match r with
    | _ => false⟩
theorem cbor_walk_done_eq (x : tySs T S_cbor_walk_done.ps) : run E_cbor_walk_done A_cbor_walk_done (Tryd.f40.body.getD .skip) (enterT E_cbor_walk_done.C S_cbor_walk_done.ps x) (retK E_cbor_walk_done Tryd.f40.results.toList S_cbor_walk_done.ps S_cbor_walk_done.rs) = S_cbor_walk_done.fn x := by kernel_rfl
theorem cbor_walk_done_env : EnvOk Tryd.prog E_cbor_walk_done := envOk (E := E_cbor_walk_done) cd_ok tys fl_ok fun f ds S h => by cases h
theorem cbor_walk_done_ok : SoundT Tryd.prog cd gdn 40 S_cbor_walk_done :=
  sound_fn (E := E_cbor_walk_done) (A := A_cbor_walk_done) (done := []) (c := (Tryd.f40.body.getD .skip)) (S := S_cbor_walk_done) (fn := Tryd.f40) hmix cbor_walk_done_env Tryd.func40 rfl (by kernel_rfl) (by kernel_rfl) done_nil (by kernel_rfl) (by kernel_rfl) cbor_walk_done_eq
def cbor_walk_atKey (a0 : CborWalk) : Option ((Unit) × (Bool × Unit)) :=
 (bif (decide ((0 : Int) < ((a0.open_).length : Int))) then ((getI a0.open_ (IntKind.wrap .i64 (((a0.open_).length : Int) - (1 : Int)))).bind fun x1 => (bif x1.pairs then ((getI a0.open_ (IntKind.wrap .i64 (((a0.open_).length : Int) - (1 : Int)))).bind fun x2 => (some ((), ((decide ((Int.tmod x2.left (2 : Int)) = (0 : Int))), ()))))
 else (some ((), (false, ())))))
 else (some ((), (false, ()))))
def S_cbor_walk_atKey : FSpec T := ⟨[.f (.v (.ref (.agg 3)))], [(.v .bool)], fun x => cbor_walk_atKey x.1⟩
def E_cbor_walk_atKey : Env T := ⟨tab.find, cd, globs, flc, fun f ds => match f with
    | _ => none, fun f => match f with
    | _ => false⟩
def A_cbor_walk_atKey : Loc2 T := ⟨fun id => match id with
    | _ => none, fun r => match r with
    | _ => none, fun r => match r with
    | _ => false⟩
theorem cbor_walk_atKey_eq (x : tySs T S_cbor_walk_atKey.ps) : run E_cbor_walk_atKey A_cbor_walk_atKey (Tryd.f68.body.getD .skip) (enterT E_cbor_walk_atKey.C S_cbor_walk_atKey.ps x) (retK E_cbor_walk_atKey Tryd.f68.results.toList S_cbor_walk_atKey.ps S_cbor_walk_atKey.rs) = S_cbor_walk_atKey.fn x := by kernel_rfl
theorem cbor_walk_atKey_env : EnvOk Tryd.prog E_cbor_walk_atKey := envOk (E := E_cbor_walk_atKey) cd_ok tys fl_ok fun f ds S h => by cases h
theorem cbor_walk_atKey_ok : SoundT Tryd.prog cd gdn 68 S_cbor_walk_atKey :=
  sound_fn (E := E_cbor_walk_atKey) (A := A_cbor_walk_atKey) (done := []) (c := (Tryd.f68.body.getD .skip)) (S := S_cbor_walk_atKey) (fn := Tryd.f68) hmix cbor_walk_atKey_env Tryd.func68 rfl (by kernel_rfl) (by kernel_rfl) done_nil (by kernel_rfl) (by kernel_rfl) cbor_walk_atKey_eq
def cbor_walk_admit (a0 : CborWalk) (a1 : Int) : Option ((Unit) × (Int × Unit)) :=
 (bif (decide ((512 : Int) ≤ a0.count)) then (some ((), ((8 : Int), ())))
 else (bif (decide (a1 < (1 : Int))) then (some ((), ((3 : Int), ())))
 else (bif (decide ((8 : Int) < a1)) then (some ((), ((3 : Int), ())))
 else ((cbor_walk_atKey a0).bind fun r1 => (bif r1.2.1 then (bif (!decide (a1 = (1 : Int))) then (bif (!decide (a1 = (2 : Int))) then (bif (!decide (a1 = (4 : Int))) then (some ((), ((3 : Int), ())))
 else (bif (decide ((8 : Int) < ((a0.open_).length : Int))) then (some ((), ((5 : Int), ())))
 else (some ((), ((0 : Int), ())))))
 else (bif (decide ((8 : Int) < ((a0.open_).length : Int))) then (some ((), ((5 : Int), ())))
 else (some ((), ((0 : Int), ())))))
 else (bif (decide ((8 : Int) < ((a0.open_).length : Int))) then (some ((), ((5 : Int), ())))
 else (some ((), ((0 : Int), ())))))
 else (bif (decide ((8 : Int) < ((a0.open_).length : Int))) then (some ((), ((5 : Int), ())))
 else (some ((), ((0 : Int), ())))))))))
def S_cbor_walk_admit : FSpec T := ⟨[.f (.v (.ref (.agg 3))), .f (.v (.int .i64))], [(.v (.int .i64))], fun x => cbor_walk_admit x.1 x.2.1⟩
def E_cbor_walk_admit : Env T := ⟨tab.find, cd, globs, flc, fun f ds => match f with
    | 68 => some S_cbor_walk_atKey
    | _ => none, fun f => match f with
    | 68 => true
    | _ => false⟩
def A_cbor_walk_admit : Loc2 T := ⟨fun id => match id with
    | _ => none, fun r => match r with
    | _ => none, fun r => match r with
    | _ => false⟩
theorem cbor_walk_admit_eq (x : tySs T S_cbor_walk_admit.ps) : run E_cbor_walk_admit A_cbor_walk_admit (Tryd.f53.body.getD .skip) (enterT E_cbor_walk_admit.C S_cbor_walk_admit.ps x) (retK E_cbor_walk_admit Tryd.f53.results.toList S_cbor_walk_admit.ps S_cbor_walk_admit.rs) = S_cbor_walk_admit.fn x := by kernel_rfl
theorem cbor_walk_admit_env : EnvOk Tryd.prog E_cbor_walk_admit := envOk (E := E_cbor_walk_admit) cd_ok tys fl_ok fun f ds S h => by
    dsimp only [E_cbor_walk_admit] at h
    split at h
    · cases h; exact cbor_walk_atKey_ok
    · cases h
theorem cbor_walk_admit_ok : SoundT Tryd.prog cd gdn 53 S_cbor_walk_admit :=
  sound_fn (E := E_cbor_walk_admit) (A := A_cbor_walk_admit) (done := []) (c := (Tryd.f53.body.getD .skip)) (S := S_cbor_walk_admit) (fn := Tryd.f53) hmix cbor_walk_admit_env Tryd.func53 rfl (by kernel_rfl) (by kernel_rfl) done_nil (by kernel_rfl) (by kernel_rfl) cbor_walk_admit_eq
def cbor_shaped (a0 : ApiItem) : Option ((Unit) × (Bool × Unit)) :=
 (bif (decide (a0.kind = (3 : Int))) then (bif (decide (a0.kind = (3 : Int))) then (some ((), ((decide (a0.number = 0#64)), ())))
 else (bif (decide (a0.kind = (8 : Int))) then (bif (decide (a0.number = 0#64)) then (some ((), ((decide (a0.data = ([] : List UInt8))), ())))
 else (some ((), (false, ()))))
 else (bif (decide (a0.kind = (7 : Int))) then (bif (decide (a0.number.toNat ≤ (1#64).toNat)) then (some ((), ((decide (a0.data = ([] : List UInt8))), ())))
 else (some ((), (false, ()))))
 else (some ((), ((decide (a0.data = ([] : List UInt8))), ()))))))
 else (bif (decide (a0.kind = (4 : Int))) then (some ((), ((decide (a0.number = 0#64)), ())))
 else (bif (decide (a0.kind = (8 : Int))) then (bif (decide (a0.number = 0#64)) then (some ((), ((decide (a0.data = ([] : List UInt8))), ())))
 else (some ((), (false, ()))))
 else (bif (decide (a0.kind = (7 : Int))) then (bif (decide (a0.number.toNat ≤ (1#64).toNat)) then (some ((), ((decide (a0.data = ([] : List UInt8))), ())))
 else (some ((), (false, ()))))
 else (some ((), ((decide (a0.data = ([] : List UInt8))), ())))))))
def S_cbor_shaped : FSpec T := ⟨[.f (.v (.agg 1))], [(.v .bool)], fun x => cbor_shaped x.1⟩
def E_cbor_shaped : Env T := ⟨tab.find, cd, globs, flc, fun f ds => match f with
    | _ => none, fun f => match f with
    | _ => false⟩
def A_cbor_shaped : Loc2 T := ⟨fun id => match id with
    | _ => none, fun r => match r with
    | _ => none, fun r => match r with
    | _ => false⟩
theorem cbor_shaped_eq (x : tySs T S_cbor_shaped.ps) : run E_cbor_shaped A_cbor_shaped (Tryd.f54.body.getD .skip) (enterT E_cbor_shaped.C S_cbor_shaped.ps x) (retK E_cbor_shaped Tryd.f54.results.toList S_cbor_shaped.ps S_cbor_shaped.rs) = S_cbor_shaped.fn x := by kernel_rfl
theorem cbor_shaped_env : EnvOk Tryd.prog E_cbor_shaped := envOk (E := E_cbor_shaped) cd_ok tys fl_ok fun f ds S h => by cases h
theorem cbor_shaped_ok : SoundT Tryd.prog cd gdn 54 S_cbor_shaped :=
  sound_fn (E := E_cbor_shaped) (A := A_cbor_shaped) (done := []) (c := (Tryd.f54.body.getD .skip)) (S := S_cbor_shaped) (fn := Tryd.f54) hmix cbor_shaped_env Tryd.func54 rfl (by kernel_rfl) (by kernel_rfl) done_nil (by kernel_rfl) (by kernel_rfl) cbor_shaped_eq
def cbor_appendHead_L1b (y0 : (List (UInt8))) (y1 : (BitVec 64)) (y2 : Int) : Option (((List (UInt8)) × (BitVec 64) × Int × Unit) ⊕ ((List (UInt8)) × Unit)) :=
 (bif (decide ((0 : Int) ≤ y2)) then (bif decide ((0 : Int) ≤ (IntKind.wrap .i64 ((8 : Int) * y2))) then (let v7 : UInt8 := (UInt8.ofBitVec (BitVec.setWidth 8 (y1 >>> ((IntKind.wrap .i64 ((8 : Int) * y2))).toNat)))
 (bif small ((y0).length + (([v7] : List (UInt8)) : List (UInt8)).length) 1 then (some (Sum.inl ((y0 ++ ([v7] : List (UInt8))), y1, (IntKind.wrap .i64 (y2 - (1 : Int))), ())))
 else none))
 else none)
 else (some (Sum.inr (y0, ()))))
def cbor_appendHead_L1 (y : ((List (UInt8)) × (BitVec 64) × Int × Unit)) : Option ((List (UInt8)) × Unit) := iter (fun (y : ((List (UInt8)) × (BitVec 64) × Int × Unit)) => cbor_appendHead_L1b y.1 y.2.1 y.2.2.1) rounds y
def cbor_appendHead (a0 : (List (UInt8))) (a1 : UInt8) (a2 : (BitVec 64)) : Option ((Unit) × ((List (UInt8)) × Unit)) :=
 ((bif (decide (a2.toNat < (24#64).toNat)) then (let v1 : UInt8 := (UInt8.ofBitVec ((UInt8.ofBitVec (a1.toBitVec <<< 5)).toBitVec + (UInt8.ofBitVec (BitVec.setWidth 8 a2)).toBitVec))
 (bif small ((a0).length + (([v1] : List (UInt8)) : List (UInt8)).length) 1 then (((some ((), ((a0 ++ ([v1] : List (UInt8))), ())))).bind fun q => some (Sum.inr q))
 else none))
 else (bif (decide (a2.toNat < (256#64).toNat)) then (let v2 : UInt8 := (UInt8.ofBitVec ((UInt8.ofBitVec (a1.toBitVec <<< 5)).toBitVec + (24 : UInt8).toBitVec))
 (some (Sum.inl (a0, a2, v2, (1 : Int), ()))))
 else (bif (decide (a2.toNat < (65536#64).toNat)) then (let v3 : UInt8 := (UInt8.ofBitVec ((UInt8.ofBitVec (a1.toBitVec <<< 5)).toBitVec + (25 : UInt8).toBitVec))
 (some (Sum.inl (a0, a2, v3, (2 : Int), ()))))
 else (bif (decide (a2.toNat < (4294967296#64).toNat)) then (let v4 : UInt8 := (UInt8.ofBitVec ((UInt8.ofBitVec (a1.toBitVec <<< 5)).toBitVec + (26 : UInt8).toBitVec))
 (some (Sum.inl (a0, a2, v4, (4 : Int), ()))))
 else (let v5 : UInt8 := (UInt8.ofBitVec ((UInt8.ofBitVec (a1.toBitVec <<< 5)).toBitVec + (27 : UInt8).toBitVec))
 (some (Sum.inl (a0, a2, v5, (8 : Int), ())))))))).bind (Sum.elim (fun (j6 : ((List (UInt8)) × (BitVec 64) × UInt8 × Int × Unit)) => (bif small ((j6.1).length + (([j6.2.2.1] : List (UInt8)) : List (UInt8)).length) 1 then ((cbor_appendHead_L1 ((j6.1 ++ ([j6.2.2.1] : List (UInt8))), j6.2.1, (IntKind.wrap .i64 (j6.2.2.2.1 - (1 : Int))), ())).bind (fun (z8 : ((List (UInt8)) × Unit)) => (some ((), (z8.1, ())))))
 else none)) some))
def S_cbor_appendHead : FSpec T := ⟨[.f (.own 0), .f (.v .u8), .f (.v .u64)], [(.own 0)], fun x => cbor_appendHead x.1 x.2.1 x.2.2.1⟩
def E_cbor_appendHead : Env T := ⟨tab.find, cd, globs, flc, fun f ds => match f with
    | _ => none, fun f => match f with
    | _ => false⟩
def A_cbor_appendHead : Loc2 T := ⟨fun id => match id with
    | 1 => some ⟨[(0, .f (.own 0)), (2, .f (.v .u64)), (9, .f (.v (.int .i64)))], [(.exit 1, [(0, .f (.own 0))])], cbor_appendHead_L1, []⟩
    | _ => none, fun r => match r with
    | 12 => some ([(0, .f (.own 0)), (2, .f (.v .u64)), (7, .f (.v .u8)), (8, .f (.v (.int .i64)))], false)
    | _ => none, fun r => match r with
    | _ => false⟩
theorem cbor_appendHead_L1_eq (y0 : (List (UInt8))) (y1 : (BitVec 64)) (y2 : Int) : run E_cbor_appendHead A_cbor_appendHead (loopAt 1 (Tryd.f51.body.getD .skip)) (layC cd [(0, .f (.own 0)), (2, .f (.v .u64)), (9, .f (.v (.int .i64)))] [] (y0, y1, y2, ())) (roundK cd [(0, .f (.own 0)), (2, .f (.v .u64)), (9, .f (.v (.int .i64)))] [] [(.exit 1, [(0, .f (.own 0))])]) = cbor_appendHead_L1b y0 y1 y2 := by kernel_rfl
theorem cbor_appendHead_eq (x : tySs T S_cbor_appendHead.ps) : run E_cbor_appendHead A_cbor_appendHead (Tryd.f51.body.getD .skip) (enterT E_cbor_appendHead.C S_cbor_appendHead.ps x) (retK E_cbor_appendHead Tryd.f51.results.toList S_cbor_appendHead.ps S_cbor_appendHead.rs) = S_cbor_appendHead.fn x := by kernel_rfl
theorem cbor_appendHead_env : EnvOk Tryd.prog E_cbor_appendHead := envOk (E := E_cbor_appendHead) cd_ok tys fl_ok fun f ds S h => by cases h
theorem cbor_appendHead_L1_ok : LoopOk Tryd.prog E_cbor_appendHead Tryd.f51.ntmps (kqOf S_cbor_appendHead.ps 0) (loopAt 1 (Tryd.f51.body.getD .skip)) ⟨[(0, .f (.own 0)), (2, .f (.v .u64)), (9, .f (.v (.int .i64)))], [(.exit 1, [(0, .f (.own 0))])], cbor_appendHead_L1, []⟩ :=
  loop_ok (A := A_cbor_appendHead) (done := []) (c0 := (Tryd.f51.body.getD .skip)) hmix cbor_appendHead_env done_nil rounds (by kernel_rfl) (by kernel_rfl) (fun x => cbor_appendHead_L1_eq x.1 x.2.1 x.2.2.1) (fun _ => rfl)
theorem cbor_appendHead_ok : SoundT Tryd.prog cd gdn 51 S_cbor_appendHead :=
  sound_fn (E := E_cbor_appendHead) (A := A_cbor_appendHead) (done := [1]) (c := (Tryd.f51.body.getD .skip)) (S := S_cbor_appendHead) (fn := Tryd.f51) hmix cbor_appendHead_env Tryd.func51 rfl (by kernel_rfl) (by kernel_rfl) (done_cons rfl cbor_appendHead_L1_ok done_nil) (by kernel_rfl) (by kernel_rfl) cbor_appendHead_eq
def cbor_appendItem (a0 : (List (UInt8))) (a1 : ApiItem) : Option ((Unit) × ((List (UInt8)) × Unit)) :=
 (bif (decide (a1.kind = (7 : Int))) then (let v1 : UInt8 := (UInt8.ofBitVec ((244 : UInt8).toBitVec + (UInt8.ofBitVec (BitVec.setWidth 8 a1.number)).toBitVec))
 (bif small ((a0).length + (([v1] : List (UInt8)) : List (UInt8)).length) 1 then (some ((), ((a0 ++ ([v1] : List (UInt8))), ())))
 else none))
 else (bif (decide (a1.kind = (8 : Int))) then (bif small ((a0).length + (([(246 : UInt8)] : List (UInt8)) : List (UInt8)).length) 1 then (some ((), ((a0 ++ ([(246 : UInt8)] : List (UInt8))), ())))
 else none)
 else (bif (decide (a1.kind = (3 : Int))) then (bif (decide (a1.kind = (3 : Int))) then (let v2 : UInt8 := (UInt8.ofBitVec (BitVec.ofInt 8 (IntKind.wrap .i64 (a1.kind - (1 : Int)))))
 ((cbor_appendHead a0 v2 (BitVec.ofInt 64 ((a1.data).length : Int))).bind fun r3 => (bif small ((r3.2.1).length + (a1.data : List (UInt8)).length) 1 then (some ((), ((r3.2.1 ++ a1.data), ())))
 else none)))
 else (let v4 : UInt8 := (UInt8.ofBitVec (BitVec.ofInt 8 (IntKind.wrap .i64 (a1.kind - (1 : Int)))))
 ((cbor_appendHead a0 v4 a1.number).bind fun r5 => (some ((), (r5.2.1, ()))))))
 else (bif (decide (a1.kind = (4 : Int))) then (let v6 : UInt8 := (UInt8.ofBitVec (BitVec.ofInt 8 (IntKind.wrap .i64 (a1.kind - (1 : Int)))))
 ((cbor_appendHead a0 v6 (BitVec.ofInt 64 ((a1.data).length : Int))).bind fun r7 => (bif small ((r7.2.1).length + (a1.data : List (UInt8)).length) 1 then (some ((), ((r7.2.1 ++ a1.data), ())))
 else none)))
 else (let v8 : UInt8 := (UInt8.ofBitVec (BitVec.ofInt 8 (IntKind.wrap .i64 (a1.kind - (1 : Int)))))
 ((cbor_appendHead a0 v8 a1.number).bind fun r9 => (some ((), (r9.2.1, ())))))))))
def S_cbor_appendItem : FSpec T := ⟨[.f (.own 0), .f (.v (.agg 1))], [(.own 0)], fun x => cbor_appendItem x.1 x.2.1⟩
def E_cbor_appendItem : Env T := ⟨tab.find, cd, globs, flc, fun f ds => match f with
    | 51 => some S_cbor_appendHead
    | _ => none, fun f => match f with
    | _ => false⟩
def A_cbor_appendItem : Loc2 T := ⟨fun id => match id with
    | _ => none, fun r => match r with
    | _ => none, fun r => match r with
    | _ => false⟩
theorem cbor_appendItem_eq (x : tySs T S_cbor_appendItem.ps) : run E_cbor_appendItem A_cbor_appendItem (Tryd.f37.body.getD .skip) (enterT E_cbor_appendItem.C S_cbor_appendItem.ps x) (retK E_cbor_appendItem Tryd.f37.results.toList S_cbor_appendItem.ps S_cbor_appendItem.rs) = S_cbor_appendItem.fn x := by kernel_rfl
theorem cbor_appendItem_env : EnvOk Tryd.prog E_cbor_appendItem := envOk (E := E_cbor_appendItem) cd_ok tys fl_ok fun f ds S h => by
    dsimp only [E_cbor_appendItem] at h
    split at h
    · cases h; exact cbor_appendHead_ok
    · cases h
theorem cbor_appendItem_ok : SoundT Tryd.prog cd gdn 37 S_cbor_appendItem :=
  sound_fn (E := E_cbor_appendItem) (A := A_cbor_appendItem) (done := []) (c := (Tryd.f37.body.getD .skip)) (S := S_cbor_appendItem) (fn := Tryd.f37) hmix cbor_appendItem_env Tryd.func37 rfl (by kernel_rfl) (by kernel_rfl) done_nil (by kernel_rfl) (by kernel_rfl) cbor_appendItem_eq
def cbor_smaller (a0 : (List (UInt8))) (a1 : (List (UInt8))) : Option ((Unit) × (Bool × Unit)) :=
 (bif (!decide (((a0).length : Int) = ((a1).length : Int))) then (some ((), ((decide (((a0).length : Int) < ((a1).length : Int))), ())))
 else ((bytes_Compare a0 a1).bind fun r1 => (some ((), ((decide (r1.2.1 < (0 : Int))), ())))))
def S_cbor_smaller : FSpec T := ⟨[.f (.v (.rs 0)), .f (.v (.rs 0))], [(.v .bool)], fun x => cbor_smaller x.1 x.2.1⟩
def E_cbor_smaller : Env T := ⟨tab.find, cd, globs, flc, fun f ds => match f with
    | 84 => some S_bytes_Compare
    | _ => none, fun f => match f with
    | 84 => true
    | _ => false⟩
def A_cbor_smaller : Loc2 T := ⟨fun id => match id with
    | _ => none, fun r => match r with
    | _ => none, fun r => match r with
    | _ => false⟩
theorem cbor_smaller_eq (x : tySs T S_cbor_smaller.ps) : run E_cbor_smaller A_cbor_smaller (Tryd.f69.body.getD .skip) (enterT E_cbor_smaller.C S_cbor_smaller.ps x) (retK E_cbor_smaller Tryd.f69.results.toList S_cbor_smaller.ps S_cbor_smaller.rs) = S_cbor_smaller.fn x := by kernel_rfl
theorem cbor_smaller_env : EnvOk Tryd.prog E_cbor_smaller := envOk (E := E_cbor_smaller) cd_ok tys fl_ok fun f ds S h => by
    dsimp only [E_cbor_smaller] at h
    split at h
    · cases h; exact bytes_Compare_ok
    · cases h
theorem cbor_smaller_ok : SoundT Tryd.prog cd gdn 69 S_cbor_smaller :=
  sound_fn (E := E_cbor_smaller) (A := A_cbor_smaller) (done := []) (c := (Tryd.f69.body.getD .skip)) (S := S_cbor_smaller) (fn := Tryd.f69) hmix cbor_smaller_env Tryd.func69 rfl (by kernel_rfl) (by kernel_rfl) done_nil (by kernel_rfl) (by kernel_rfl) cbor_smaller_eq
def cbor_walk_step_L0b (y0 : ((List (CborFrame)) × Int × Unit)) (y1 : Int) : Option ((((List (CborFrame)) × Int × Unit) × Int × Unit) ⊕ (((List (CborFrame)) × Int × Unit) × Unit)) :=
 (bif (decide ((0 : Int) < y1)) then (bif (decide ((0 : Int) ≤ (IntKind.wrap .i64 (y1 - (1 : Int)))) && decide ((IntKind.wrap .i64 (y1 - (1 : Int))) < ((y0.1).length : Int))) then (((y0.1)[((IntKind.wrap .i64 (y1 - (1 : Int)))).toNat]?).bind fun x10 => (bif (decide (x10.left = (0 : Int))) then (bif (decide ((0 : Int) ≤ (IntKind.wrap .i64 (y1 - (1 : Int)))) && decide ((IntKind.wrap .i64 (y1 - (1 : Int))) ≤ ((y0.1).length : Int))) then (bif decide (((IntKind.wrap .i64 (y1 - (1 : Int)))).toNat ≤ (y0.1).length) then (some (Sum.inl (((List.take ((IntKind.wrap .i64 (y1 - (1 : Int)))).toNat y0.1), y0.2.1, ()), (IntKind.wrap .i64 (y1 - (1 : Int))), ())))
 else none)
 else none)
 else (some (Sum.inr ((y0.1, y0.2.1, ()), ())))))
 else none)
 else (some (Sum.inr ((y0.1, y0.2.1, ()), ()))))
def cbor_walk_step_L0 (y : (((List (CborFrame)) × Int × Unit) × Int × Unit)) : Option (((List (CborFrame)) × Int × Unit) × Unit) := iter (fun (y : (((List (CborFrame)) × Int × Unit) × Int × Unit)) => cbor_walk_step_L0b y.1 y.2.1) rounds y
def cbor_walk_step (a0 : ((List (CborFrame)) × Int × Unit)) (a1 : ApiItem) : Option ((((List (CborFrame)) × Int × Unit) × Unit) × (Unit)) :=
 ((bif (decide ((0 : Int) < ((a0.1).length : Int))) then (bif (decide ((0 : Int) ≤ (IntKind.wrap .i64 (((a0.1).length : Int) - (1 : Int)))) && decide ((IntKind.wrap .i64 (((a0.1).length : Int) - (1 : Int))) < ((a0.1).length : Int))) then (((a0.1)[((IntKind.wrap .i64 (((a0.1).length : Int) - (1 : Int)))).toNat]?).bind fun x1 => (bif (decide ((0 : Int) ≤ (IntKind.wrap .i64 (((a0.1).length : Int) - (1 : Int)))) && decide ((IntKind.wrap .i64 (((a0.1).length : Int) - (1 : Int))) < ((a0.1).length : Int))) then (((a0.1)[((IntKind.wrap .i64 (((a0.1).length : Int) - (1 : Int)))).toNat]?).bind fun x2 => (let v3 : List (CborFrame) := (List.set a0.1 ((IntKind.wrap .i64 (((a0.1).length : Int) - (1 : Int)))).toNat (⟨x2.pairs, (IntKind.wrap .i64 (x1.left - (1 : Int))), x2.last_⟩ : CborFrame))
 (some ((v3, (IntKind.wrap .i64 (a0.2.1 + (1 : Int))), ()), (a1, ()), ()))))
 else none))
 else none)
 else (some ((a0.1, (IntKind.wrap .i64 (a0.2.1 + (1 : Int))), ()), (a1, ()), ()))).bind (fun (j4 : (((List (CborFrame)) × Int × Unit) × (ApiItem × Unit) × Unit)) => ((bif (decide (j4.2.1.1.kind = (5 : Int))) then (bif (decide ((0#64).toNat < j4.2.1.1.number.toNat)) then (let v5 : List (CborFrame) := ([(⟨false, (IntKind.wrap .i64 (j4.2.1.1.number.toNat : Int)), []⟩ : CborFrame)] : List (CborFrame))
 (bif small ((j4.1.1).length + (v5 : List (CborFrame)).length) 40 then (some (((j4.1.1 ++ v5), j4.1.2.1, ()), (j4.2.1.1, ()), ()))
 else none))
 else (some ((j4.1.1, j4.1.2.1, ()), (j4.2.1.1, ()), ())))
 else (some ((j4.1.1, j4.1.2.1, ()), (j4.2.1.1, ()), ()))).bind (fun (j6 : (((List (CborFrame)) × Int × Unit) × (ApiItem × Unit) × Unit)) => ((bif (decide (j6.2.1.1.kind = (6 : Int))) then (bif (decide ((0#64).toNat < j6.2.1.1.number.toNat)) then (let v7 : Int := (IntKind.wrap .i64 ((2 : Int) * (IntKind.wrap .i64 (j6.2.1.1.number.toNat : Int))))
 (bif small ((j6.1.1).length + (([(⟨true, v7, []⟩ : CborFrame)] : List (CborFrame)) : List (CborFrame)).length) 40 then (let v8 : List (CborFrame) := (j6.1.1 ++ ([(⟨true, v7, []⟩ : CborFrame)] : List (CborFrame)))
 (some ((v8, j6.1.2.1, ()), ())))
 else none))
 else (some ((j6.1.1, j6.1.2.1, ()), ())))
 else (some ((j6.1.1, j6.1.2.1, ()), ()))).bind (fun (j9 : (((List (CborFrame)) × Int × Unit) × Unit)) => ((cbor_walk_step_L0 ((j9.1.1, j9.1.2.1, ()), ((j9.1.1).length : Int), ())).bind (fun (z11 : (((List (CborFrame)) × Int × Unit) × Unit)) => (some (((z11.1.1, z11.1.2.1, ()), ()), ()))))))))))
def S_cbor_walk_step : FSpec T := ⟨[.ptr [(.own 2), (.v (.int .i64))], .f (.v (.agg 1))], [], fun x => cbor_walk_step x.1 x.2.1⟩
def E_cbor_walk_step : Env T := ⟨tab.find, cd, globs, flc, fun f ds => match f with
    | _ => none, fun f => match f with
    | _ => false⟩
def A_cbor_walk_step : Loc2 T := ⟨fun id => match id with
    | 0 => some ⟨[(0, .ptr [(.own 2), (.v (.int .i64))]), (5, .f (.v (.int .i64)))], [(.exit 0, [(0, .ptr [(.own 2), (.v (.int .i64))])])], cbor_walk_step_L0, []⟩
    | _ => none, fun r => match r with
    | 5 => some ([(0, .ptr [(.own 2), (.v (.int .i64))]), (3, .ptr [(.v (.agg 1))])], true)
    | 7 => some ([(0, .ptr [(.own 2), (.v (.int .i64))]), (3, .ptr [(.v (.agg 1))])], true)
    | 9 => some ([(0, .ptr [(.own 2), (.v (.int .i64))])], true)
    | _ => none, fun r => match r with
    | 6 => true
    | 8 => true
    | _ => false⟩
theorem cbor_walk_step_L0_eq (y0 : ((List (CborFrame)) × Int × Unit)) (y1 : Int) : run E_cbor_walk_step A_cbor_walk_step (loopAt 0 (Tryd.f70.body.getD .skip)) (layC cd [(0, .ptr [(.own 2), (.v (.int .i64))]), (5, .f (.v (.int .i64)))] [] (y0, y1, ())) (roundK cd [(0, .ptr [(.own 2), (.v (.int .i64))]), (5, .f (.v (.int .i64)))] [] [(.exit 0, [(0, .ptr [(.own 2), (.v (.int .i64))])])]) = cbor_walk_step_L0b y0 y1 := by kernel_rfl
theorem cbor_walk_step_eq (x : tySs T S_cbor_walk_step.ps) : run E_cbor_walk_step A_cbor_walk_step (Tryd.f70.body.getD .skip) (enterT E_cbor_walk_step.C S_cbor_walk_step.ps x) (retK E_cbor_walk_step Tryd.f70.results.toList S_cbor_walk_step.ps S_cbor_walk_step.rs) = S_cbor_walk_step.fn x := by kernel_rfl
theorem cbor_walk_step_env : EnvOk Tryd.prog E_cbor_walk_step := envOk (E := E_cbor_walk_step) cd_ok tys fl_ok fun f ds S h => by cases h
theorem cbor_walk_step_L0_ok : LoopOk Tryd.prog E_cbor_walk_step Tryd.f70.ntmps (kqOf S_cbor_walk_step.ps 0) (loopAt 0 (Tryd.f70.body.getD .skip)) ⟨[(0, .ptr [(.own 2), (.v (.int .i64))]), (5, .f (.v (.int .i64)))], [(.exit 0, [(0, .ptr [(.own 2), (.v (.int .i64))])])], cbor_walk_step_L0, []⟩ :=
  loop_ok (A := A_cbor_walk_step) (done := []) (c0 := (Tryd.f70.body.getD .skip)) hmix cbor_walk_step_env done_nil rounds (by kernel_rfl) (by kernel_rfl) (fun x => cbor_walk_step_L0_eq x.1 x.2.1) (fun _ => rfl)
theorem cbor_walk_step_ok : SoundT Tryd.prog cd gdn 70 S_cbor_walk_step :=
  sound_fn (E := E_cbor_walk_step) (A := A_cbor_walk_step) (done := [0]) (c := (Tryd.f70.body.getD .skip)) (S := S_cbor_walk_step) (fn := Tryd.f70) hmix cbor_walk_step_env Tryd.func70 rfl (by kernel_rfl) (by kernel_rfl) (done_cons rfl cbor_walk_step_L0_ok done_nil) (by kernel_rfl) (by kernel_rfl) cbor_walk_step_eq
def cbor_walk_accept (a0 : ((List (CborFrame)) × Int × Unit)) (a1 : ApiItem) : Option ((((List (CborFrame)) × Int × Unit) × Unit) × (Int × Unit)) :=
 (bif (decide (a1.kind = (4 : Int))) then ((utf8_ValidString a1.data).bind fun r1 => (bif (!r1.2.1) then (some (((a0.1, a0.2.1, ()), ()), ((6 : Int), ())))
 else ((cbor_walk_atKey (⟨a0.1, a0.2.1⟩ : CborWalk)).bind fun r2 => (bif r2.2.1 then (bif (decide ((0 : Int) ≤ (IntKind.wrap .i64 (((a0.1).length : Int) - (1 : Int)))) && decide ((IntKind.wrap .i64 (((a0.1).length : Int) - (1 : Int))) < ((a0.1).length : Int))) then ((cbor_appendItem [] a1).bind fun r3 => (((a0.1)[((IntKind.wrap .i64 (((a0.1).length : Int) - (1 : Int)))).toNat]?).bind fun x4 => (bif (!(x4.last_).isEmpty) then (((a0.1)[((IntKind.wrap .i64 (((a0.1).length : Int) - (1 : Int)))).toNat]?).bind fun x5 => ((cbor_smaller x5.last_ r3.2.1).bind fun r6 => (bif (!r6.2.1) then (some (((a0.1, a0.2.1, ()), ()), ((7 : Int), ())))
 else (((a0.1)[((IntKind.wrap .i64 (((a0.1).length : Int) - (1 : Int)))).toNat]?).bind fun x7 => (bif (r3.2.1).isEmpty then none
 else (let v8 : List (CborFrame) := (List.set a0.1 ((IntKind.wrap .i64 (((a0.1).length : Int) - (1 : Int)))).toNat (⟨x7.pairs, x7.left, r3.2.1⟩ : CborFrame))
 ((cbor_walk_step (v8, a0.2.1, ()) a1).bind fun r9 => (some (((r9.1.1.1, r9.1.1.2.1, ()), ()), ((0 : Int), ()))))))))))
 else (((a0.1)[((IntKind.wrap .i64 (((a0.1).length : Int) - (1 : Int)))).toNat]?).bind fun x10 => (bif (r3.2.1).isEmpty then none
 else (let v11 : List (CborFrame) := (List.set a0.1 ((IntKind.wrap .i64 (((a0.1).length : Int) - (1 : Int)))).toNat (⟨x10.pairs, x10.left, r3.2.1⟩ : CborFrame))
 ((cbor_walk_step (v11, a0.2.1, ()) a1).bind fun r12 => (some (((r12.1.1.1, r12.1.1.2.1, ()), ()), ((0 : Int), ()))))))))))
 else none)
 else ((cbor_walk_step (a0.1, a0.2.1, ()) a1).bind fun r13 => (some (((r13.1.1.1, r13.1.1.2.1, ()), ()), ((0 : Int), ()))))))))
 else ((cbor_walk_atKey (⟨a0.1, a0.2.1⟩ : CborWalk)).bind fun r14 => (bif r14.2.1 then (bif (decide ((0 : Int) ≤ (IntKind.wrap .i64 (((a0.1).length : Int) - (1 : Int)))) && decide ((IntKind.wrap .i64 (((a0.1).length : Int) - (1 : Int))) < ((a0.1).length : Int))) then ((cbor_appendItem [] a1).bind fun r15 => (((a0.1)[((IntKind.wrap .i64 (((a0.1).length : Int) - (1 : Int)))).toNat]?).bind fun x16 => (bif (!(x16.last_).isEmpty) then (((a0.1)[((IntKind.wrap .i64 (((a0.1).length : Int) - (1 : Int)))).toNat]?).bind fun x17 => ((cbor_smaller x17.last_ r15.2.1).bind fun r18 => (bif (!r18.2.1) then (some (((a0.1, a0.2.1, ()), ()), ((7 : Int), ())))
 else (((a0.1)[((IntKind.wrap .i64 (((a0.1).length : Int) - (1 : Int)))).toNat]?).bind fun x19 => (bif (r15.2.1).isEmpty then none
 else (let v20 : List (CborFrame) := (List.set a0.1 ((IntKind.wrap .i64 (((a0.1).length : Int) - (1 : Int)))).toNat (⟨x19.pairs, x19.left, r15.2.1⟩ : CborFrame))
 ((cbor_walk_step (v20, a0.2.1, ()) a1).bind fun r21 => (some (((r21.1.1.1, r21.1.1.2.1, ()), ()), ((0 : Int), ()))))))))))
 else (((a0.1)[((IntKind.wrap .i64 (((a0.1).length : Int) - (1 : Int)))).toNat]?).bind fun x22 => (bif (r15.2.1).isEmpty then none
 else (let v23 : List (CborFrame) := (List.set a0.1 ((IntKind.wrap .i64 (((a0.1).length : Int) - (1 : Int)))).toNat (⟨x22.pairs, x22.left, r15.2.1⟩ : CborFrame))
 ((cbor_walk_step (v23, a0.2.1, ()) a1).bind fun r24 => (some (((r24.1.1.1, r24.1.1.2.1, ()), ()), ((0 : Int), ()))))))))))
 else none)
 else ((cbor_walk_step (a0.1, a0.2.1, ()) a1).bind fun r25 => (some (((r25.1.1.1, r25.1.1.2.1, ()), ()), ((0 : Int), ())))))))
def S_cbor_walk_accept : FSpec T := ⟨[.ptr [(.own 2), (.v (.int .i64))], .f (.v (.agg 1))], [(.v (.int .i64))], fun x => cbor_walk_accept x.1 x.2.1⟩
def E_cbor_walk_accept : Env T := ⟨tab.find, cd, globs, flc, fun f ds => match f with
    | 37 => some S_cbor_appendItem
    | 62 => some S_utf8_ValidString
    | 68 => some S_cbor_walk_atKey
    | 69 => some S_cbor_smaller
    | 70 => some S_cbor_walk_step
    | _ => none, fun f => match f with
    | 62 => true
    | 68 => true
    | 69 => true
    | _ => false⟩
def A_cbor_walk_accept : Loc2 T := ⟨fun id => match id with
    | _ => none, fun r => match r with
    | _ => none, fun r => match r with
    | _ => false⟩
theorem cbor_walk_accept_eq (x : tySs T S_cbor_walk_accept.ps) : run E_cbor_walk_accept A_cbor_walk_accept (Tryd.f55.body.getD .skip) (enterT E_cbor_walk_accept.C S_cbor_walk_accept.ps x) (retK E_cbor_walk_accept Tryd.f55.results.toList S_cbor_walk_accept.ps S_cbor_walk_accept.rs) = S_cbor_walk_accept.fn x := by kernel_rfl
theorem cbor_walk_accept_env : EnvOk Tryd.prog E_cbor_walk_accept := envOk (E := E_cbor_walk_accept) cd_ok tys fl_ok fun f ds S h => by
    dsimp only [E_cbor_walk_accept] at h
    split at h
    · cases h; exact cbor_appendItem_ok
    · cases h; exact utf8_ValidString_ok
    · cases h; exact cbor_walk_atKey_ok
    · cases h; exact cbor_smaller_ok
    · cases h; exact cbor_walk_step_ok
    · cases h
theorem cbor_walk_accept_ok : SoundT Tryd.prog cd gdn 55 S_cbor_walk_accept :=
  sound_fn (E := E_cbor_walk_accept) (A := A_cbor_walk_accept) (done := []) (c := (Tryd.f55.body.getD .skip)) (S := S_cbor_walk_accept) (fn := Tryd.f55) hmix cbor_walk_accept_env Tryd.func55 rfl (by kernel_rfl) (by kernel_rfl) done_nil (by kernel_rfl) (by kernel_rfl) cbor_walk_accept_eq
def cbor_checker_item (a0 : ((List (CborFrame)) × Int × Unit)) (a1 : ApiItem) : Option ((((List (CborFrame)) × Int × Unit) × Unit) × (Int × Unit)) :=
 ((cbor_walk_done (⟨a0.1, a0.2.1⟩ : CborWalk)).bind fun r1 => (bif r1.2.1 then (some (((a0.1, a0.2.1, ()), ()), ((2 : Int), ())))
 else ((cbor_walk_admit (⟨a0.1, a0.2.1⟩ : CborWalk) a1.kind).bind fun r2 => (bif (!decide (r2.2.1 = (0 : Int))) then (some (((a0.1, a0.2.1, ()), ()), (r2.2.1, ())))
 else ((cbor_shaped a1).bind fun r3 => (bif (!r3.2.1) then (some (((a0.1, a0.2.1, ()), ()), ((4 : Int), ())))
 else (bif (decide ((1024 : Int) < ((a1.data).length : Int))) then (some (((a0.1, a0.2.1, ()), ()), ((8 : Int), ())))
 else (bif (decide (a1.kind = (5 : Int))) then (bif (decide ((512#64).toNat < a1.number.toNat)) then (some (((a0.1, a0.2.1, ()), ()), ((8 : Int), ())))
 else ((cbor_walk_accept (a0.1, a0.2.1, ()) a1).bind fun r4 => (some (((r4.1.1.1, r4.1.1.2.1, ()), ()), (r4.2.1, ())))))
 else (bif (decide (a1.kind = (6 : Int))) then (bif (decide ((512#64).toNat < a1.number.toNat)) then (some (((a0.1, a0.2.1, ()), ()), ((8 : Int), ())))
 else ((cbor_walk_accept (a0.1, a0.2.1, ()) a1).bind fun r5 => (some (((r5.1.1.1, r5.1.1.2.1, ()), ()), (r5.2.1, ())))))
 else ((cbor_walk_accept (a0.1, a0.2.1, ()) a1).bind fun r6 => (some (((r6.1.1.1, r6.1.1.2.1, ()), ()), (r6.2.1, ())))))))))))))
def S_cbor_checker_item : FSpec T := ⟨[.ptr [(.own 2), (.v (.int .i64))], .f (.v (.agg 1))], [(.v (.int .i64))], fun x => cbor_checker_item x.1 x.2.1⟩
def E_cbor_checker_item : Env T := ⟨tab.find, cd, globs, flc, fun f ds => match f with
    | 40 => some S_cbor_walk_done
    | 53 => some S_cbor_walk_admit
    | 54 => some S_cbor_shaped
    | 55 => some S_cbor_walk_accept
    | _ => none, fun f => match f with
    | 40 => true
    | 53 => true
    | 54 => true
    | _ => false⟩
def A_cbor_checker_item : Loc2 T := ⟨fun id => match id with
    | _ => none, fun r => match r with
    | _ => none, fun r => match r with
    | _ => false⟩
theorem cbor_checker_item_eq (x : tySs T S_cbor_checker_item.ps) : run E_cbor_checker_item A_cbor_checker_item (Tryd.f39.body.getD .skip) (enterT E_cbor_checker_item.C S_cbor_checker_item.ps x) (retK E_cbor_checker_item Tryd.f39.results.toList S_cbor_checker_item.ps S_cbor_checker_item.rs) = S_cbor_checker_item.fn x := by kernel_rfl
theorem cbor_checker_item_env : EnvOk Tryd.prog E_cbor_checker_item := envOk (E := E_cbor_checker_item) cd_ok tys fl_ok fun f ds S h => by
    dsimp only [E_cbor_checker_item] at h
    split at h
    · cases h; exact cbor_walk_done_ok
    · cases h; exact cbor_walk_admit_ok
    · cases h; exact cbor_shaped_ok
    · cases h; exact cbor_walk_accept_ok
    · cases h
theorem cbor_checker_item_ok : SoundT Tryd.prog cd gdn 39 S_cbor_checker_item :=
  sound_fn (E := E_cbor_checker_item) (A := A_cbor_checker_item) (done := []) (c := (Tryd.f39.body.getD .skip)) (S := S_cbor_checker_item) (fn := Tryd.f39) hmix cbor_checker_item_env Tryd.func39 rfl (by kernel_rfl) (by kernel_rfl) done_nil (by kernel_rfl) (by kernel_rfl) cbor_checker_item_eq
def cbor_Validate_L0b (y0 : ((List (CborFrame)) × Int × Unit)) (y1 : (List (ApiItem))) (y2 : Int) (y3 : Int) : Option ((((List (CborFrame)) × Int × Unit) × (List (ApiItem)) × Int × Int × Unit) ⊕ ((Int × Unit) ⊕ (((List (CborFrame)) × Int × Unit) × Unit))) :=
 (bif (decide (y3 < y2)) then ((getI y1 y3).bind fun x1 => ((cbor_checker_item (y0.1, y0.2.1, ()) x1).bind fun r2 => (bif (!decide (r2.2.1 = (0 : Int))) then (some (Sum.inr (Sum.inl (r2.2.1, ()))))
 else (some (Sum.inl ((r2.1.1.1, r2.1.1.2.1, ()), y1, y2, (IntKind.wrap .i64 (y3 + (1 : Int))), ()))))))
 else (some (Sum.inr (Sum.inr ((y0.1, y0.2.1, ()), ())))))
def cbor_Validate_L0 (y : (((List (CborFrame)) × Int × Unit) × (List (ApiItem)) × Int × Int × Unit)) : Option ((Int × Unit) ⊕ (((List (CborFrame)) × Int × Unit) × Unit)) := iter (fun (y : (((List (CborFrame)) × Int × Unit) × (List (ApiItem)) × Int × Int × Unit)) => cbor_Validate_L0b y.1 y.2.1 y.2.2.1 y.2.2.2.1) rounds y
def cbor_Validate (a0 : (List (ApiItem))) : Option ((Unit) × (Int × Unit)) :=
 ((cbor_Validate_L0 (([], (0 : Int), ()), a0, ((a0).length : Int), (0 : Int), ())).bind (Sum.elim (fun (z3 : (Int × Unit)) => (some ((), (z3.1, ())))) (fun (z4 : (((List (CborFrame)) × Int × Unit) × Unit)) => ((cbor_walk_done (⟨z4.1.1, z4.1.2.1⟩ : CborWalk)).bind fun r5 => (bif (!r5.2.1) then (some ((), ((1 : Int), ())))
 else (some ((), ((0 : Int), ()))))))))
def S_cbor_Validate : FSpec T := ⟨[.f (.v (.rs 1))], [(.v (.int .i64))], fun x => cbor_Validate x.1⟩
def E_cbor_Validate : Env T := ⟨tab.find, cd, globs, flc, fun f ds => match f with
    | 39 => some S_cbor_checker_item
    | 40 => some S_cbor_walk_done
    | _ => none, fun f => match f with
    | 40 => true
    | _ => false⟩
def A_cbor_Validate : Loc2 T := ⟨fun id => match id with
    | 0 => some ⟨[(3, .ptr [(.own 2), (.v (.int .i64))]), (7, .f (.v (.rs 1))), (8, .f (.v (.int .i64))), (9, .f (.v (.int .i64)))], [(.ret, [(2, .f (.v (.int .i64)))]), (.exit 0, [(3, .ptr [(.own 2), (.v (.int .i64))])])], cbor_Validate_L0, []⟩
    | _ => none, fun r => match r with
    | _ => none, fun r => match r with
    | _ => false⟩
theorem cbor_Validate_L0_eq (y0 : ((List (CborFrame)) × Int × Unit)) (y1 : (List (ApiItem))) (y2 : Int) (y3 : Int) : run E_cbor_Validate A_cbor_Validate (loopAt 0 (Tryd.f18.body.getD .skip)) (layC cd [(3, .ptr [(.own 2), (.v (.int .i64))]), (7, .f (.v (.rs 1))), (8, .f (.v (.int .i64))), (9, .f (.v (.int .i64)))] [] (y0, y1, y2, y3, ())) (roundK cd [(3, .ptr [(.own 2), (.v (.int .i64))]), (7, .f (.v (.rs 1))), (8, .f (.v (.int .i64))), (9, .f (.v (.int .i64)))] [] [(.ret, [(2, .f (.v (.int .i64)))]), (.exit 0, [(3, .ptr [(.own 2), (.v (.int .i64))])])]) = cbor_Validate_L0b y0 y1 y2 y3 := by kernel_rfl
theorem cbor_Validate_eq (x : tySs T S_cbor_Validate.ps) : run E_cbor_Validate A_cbor_Validate (Tryd.f18.body.getD .skip) (enterT E_cbor_Validate.C S_cbor_Validate.ps x) (retK E_cbor_Validate Tryd.f18.results.toList S_cbor_Validate.ps S_cbor_Validate.rs) = S_cbor_Validate.fn x := by kernel_rfl
theorem cbor_Validate_env : EnvOk Tryd.prog E_cbor_Validate := envOk (E := E_cbor_Validate) cd_ok tys fl_ok fun f ds S h => by
    dsimp only [E_cbor_Validate] at h
    split at h
    · cases h; exact cbor_checker_item_ok
    · cases h; exact cbor_walk_done_ok
    · cases h
theorem cbor_Validate_L0_ok : LoopOk Tryd.prog E_cbor_Validate Tryd.f18.ntmps (kqOf S_cbor_Validate.ps 0) (loopAt 0 (Tryd.f18.body.getD .skip)) ⟨[(3, .ptr [(.own 2), (.v (.int .i64))]), (7, .f (.v (.rs 1))), (8, .f (.v (.int .i64))), (9, .f (.v (.int .i64)))], [(.ret, [(2, .f (.v (.int .i64)))]), (.exit 0, [(3, .ptr [(.own 2), (.v (.int .i64))])])], cbor_Validate_L0, []⟩ :=
  loop_ok (A := A_cbor_Validate) (done := []) (c0 := (Tryd.f18.body.getD .skip)) hmix cbor_Validate_env done_nil rounds (by kernel_rfl) (by kernel_rfl) (fun x => cbor_Validate_L0_eq x.1 x.2.1 x.2.2.1 x.2.2.2.1) (fun _ => rfl)
theorem cbor_Validate_ok : SoundT Tryd.prog cd gdn 18 S_cbor_Validate :=
  sound_fn (E := E_cbor_Validate) (A := A_cbor_Validate) (done := [0]) (c := (Tryd.f18.body.getD .skip)) (S := S_cbor_Validate) (fn := Tryd.f18) hmix cbor_Validate_env Tryd.func18 rfl (by kernel_rfl) (by kernel_rfl) (done_cons rfl cbor_Validate_L0_ok done_nil) (by kernel_rfl) (by kernel_rfl) cbor_Validate_eq
def cbor_Encode_L0b (y0 : (List (UInt8))) (y1 : (List (ApiItem))) (y2 : Int) (y3 : Int) : Option (((List (UInt8)) × (List (ApiItem)) × Int × Int × Unit) ⊕ ((List (UInt8)) × Unit)) :=
 (bif (decide (y3 < y2)) then ((getI y1 y3).bind fun x2 => ((cbor_appendItem y0 x2).bind fun r3 => (some (Sum.inl (r3.2.1, y1, y2, (IntKind.wrap .i64 (y3 + (1 : Int))), ())))))
 else (some (Sum.inr (y0, ()))))
def cbor_Encode_L0 (y : ((List (UInt8)) × (List (ApiItem)) × Int × Int × Unit)) : Option ((List (UInt8)) × Unit) := iter (fun (y : ((List (UInt8)) × (List (ApiItem)) × Int × Int × Unit)) => cbor_Encode_L0b y.1 y.2.1 y.2.2.1 y.2.2.2.1) rounds y
def cbor_Encode (a0 : (List (ApiItem))) : Option ((Unit) × ((List (UInt8)) × Int × Unit)) :=
 ((cbor_Validate a0).bind fun r1 => (bif (!decide (r1.2.1 = (0 : Int))) then (some ((), ([], r1.2.1, ())))
 else ((cbor_Encode_L0 ([], a0, ((a0).length : Int), (0 : Int), ())).bind (fun (z4 : ((List (UInt8)) × Unit)) => (some ((), (z4.1, (0 : Int), ())))))))
def S_cbor_Encode : FSpec T := ⟨[.f (.v (.rs 1))], [(.own 0), (.v (.int .i64))], fun x => cbor_Encode x.1⟩
def E_cbor_Encode : Env T := ⟨tab.find, cd, globs, flc, fun f ds => match f with
    | 18 => some S_cbor_Validate
    | 37 => some S_cbor_appendItem
    | _ => none, fun f => match f with
    | 18 => true
    | _ => false⟩
def A_cbor_Encode : Loc2 T := ⟨fun id => match id with
    | 0 => some ⟨[(5, .f (.own 0)), (13, .f (.v (.rs 1))), (14, .f (.v (.int .i64))), (15, .f (.v (.int .i64)))], [(.exit 0, [(5, .f (.own 0))])], cbor_Encode_L0, []⟩
    | _ => none, fun r => match r with
    | _ => none, fun r => match r with
    | _ => false⟩
theorem cbor_Encode_L0_eq (y0 : (List (UInt8))) (y1 : (List (ApiItem))) (y2 : Int) (y3 : Int) : run E_cbor_Encode A_cbor_Encode (loopAt 0 (Tryd.f16.body.getD .skip)) (layC cd [(5, .f (.own 0)), (13, .f (.v (.rs 1))), (14, .f (.v (.int .i64))), (15, .f (.v (.int .i64)))] [] (y0, y1, y2, y3, ())) (roundK cd [(5, .f (.own 0)), (13, .f (.v (.rs 1))), (14, .f (.v (.int .i64))), (15, .f (.v (.int .i64)))] [] [(.exit 0, [(5, .f (.own 0))])]) = cbor_Encode_L0b y0 y1 y2 y3 := by kernel_rfl
theorem cbor_Encode_eq (x : tySs T S_cbor_Encode.ps) : run E_cbor_Encode A_cbor_Encode (Tryd.f16.body.getD .skip) (enterT E_cbor_Encode.C S_cbor_Encode.ps x) (retK E_cbor_Encode Tryd.f16.results.toList S_cbor_Encode.ps S_cbor_Encode.rs) = S_cbor_Encode.fn x := by kernel_rfl
theorem cbor_Encode_env : EnvOk Tryd.prog E_cbor_Encode := envOk (E := E_cbor_Encode) cd_ok tys fl_ok fun f ds S h => by
    dsimp only [E_cbor_Encode] at h
    split at h
    · cases h; exact cbor_Validate_ok
    · cases h; exact cbor_appendItem_ok
    · cases h
theorem cbor_Encode_L0_ok : LoopOk Tryd.prog E_cbor_Encode Tryd.f16.ntmps (kqOf S_cbor_Encode.ps 0) (loopAt 0 (Tryd.f16.body.getD .skip)) ⟨[(5, .f (.own 0)), (13, .f (.v (.rs 1))), (14, .f (.v (.int .i64))), (15, .f (.v (.int .i64)))], [(.exit 0, [(5, .f (.own 0))])], cbor_Encode_L0, []⟩ :=
  loop_ok (A := A_cbor_Encode) (done := []) (c0 := (Tryd.f16.body.getD .skip)) hmix cbor_Encode_env done_nil rounds (by kernel_rfl) (by kernel_rfl) (fun x => cbor_Encode_L0_eq x.1 x.2.1 x.2.2.1 x.2.2.2.1) (fun _ => rfl)
theorem cbor_Encode_ok : SoundT Tryd.prog cd gdn 16 S_cbor_Encode :=
  sound_fn (E := E_cbor_Encode) (A := A_cbor_Encode) (done := [0]) (c := (Tryd.f16.body.getD .skip)) (S := S_cbor_Encode) (fn := Tryd.f16) hmix cbor_Encode_env Tryd.func16 rfl (by kernel_rfl) (by kernel_rfl) (done_cons rfl cbor_Encode_L0_ok done_nil) (by kernel_rfl) (by kernel_rfl) cbor_Encode_eq
def cbor_Text (a0 : (List UInt8)) : Option ((Unit) × ((List (ApiItem)) × Unit)) :=
 (some ((), (([(⟨(4 : Int), 0#64, a0⟩ : ApiItem)] : List (ApiItem)), ())))
def S_cbor_Text : FSpec T := ⟨[.f (.v .str)], [(.own 1)], fun x => cbor_Text x.1⟩
def E_cbor_Text : Env T := ⟨tab.find, cd, globs, flc, fun f ds => match f with
    | _ => none, fun f => match f with
    | _ => false⟩
def A_cbor_Text : Loc2 T := ⟨fun id => match id with
    | _ => none, fun r => match r with
    | _ => none, fun r => match r with
    | _ => false⟩
theorem cbor_Text_eq (x : tySs T S_cbor_Text.ps) : run E_cbor_Text A_cbor_Text (Tryd.f27.body.getD .skip) (enterT E_cbor_Text.C S_cbor_Text.ps x) (retK E_cbor_Text Tryd.f27.results.toList S_cbor_Text.ps S_cbor_Text.rs) = S_cbor_Text.fn x := by kernel_rfl
theorem cbor_Text_env : EnvOk Tryd.prog E_cbor_Text := envOk (E := E_cbor_Text) cd_ok tys fl_ok fun f ds S h => by cases h
theorem cbor_Text_ok : SoundT Tryd.prog cd gdn 27 S_cbor_Text :=
  sound_fn (E := E_cbor_Text) (A := A_cbor_Text) (done := []) (c := (Tryd.f27.body.getD .skip)) (S := S_cbor_Text) (fn := Tryd.f27) hmix cbor_Text_env Tryd.func27 rfl (by kernel_rfl) (by kernel_rfl) done_nil (by kernel_rfl) (by kernel_rfl) cbor_Text_eq
def math_bits_Len64 (a0 : (BitVec 64)) : Option ((Unit) × (Int × Unit)) :=
 ((bif (decide ((4294967296#64).toNat ≤ a0.toNat)) then (some ((a0 >>> 32), (32 : Int), ()))
 else (some (a0, (0 : Int), ()))).bind (fun (j1 : ((BitVec 64) × Int × Unit)) => ((bif (decide ((65536#64).toNat ≤ j1.1.toNat)) then (some ((j1.1 >>> 16), (IntKind.wrap .i64 (j1.2.1 + (16 : Int))), ()))
 else (some (j1.1, j1.2.1, ()))).bind (fun (j2 : ((BitVec 64) × Int × Unit)) => (bif (decide ((256#64).toNat ≤ j2.1.toNat)) then (((([0, 1, 2, 2, 3, 3, 3, 3, 4, 4, 4, 4, 4, 4, 4, 4, 5, 5, 5, 5, 5, 5, 5, 5, 5, 5, 5, 5, 5, 5, 5, 5, 6, 6, 6, 6, 6, 6, 6, 6, 6, 6, 6, 6, 6, 6, 6, 6, 6, 6, 6, 6, 6, 6, 6, 6, 6, 6, 6, 6, 6, 6, 6, 6, 7, 7, 7, 7, 7, 7, 7, 7, 7, 7, 7, 7, 7, 7, 7, 7, 7, 7, 7, 7, 7, 7, 7, 7, 7, 7, 7, 7, 7, 7, 7, 7, 7, 7, 7, 7, 7, 7, 7, 7, 7, 7, 7, 7, 7, 7, 7, 7, 7, 7, 7, 7, 7, 7, 7, 7, 7, 7, 7, 7, 7, 7, 7, 7, 8, 8, 8, 8, 8, 8, 8, 8, 8, 8, 8, 8, 8, 8, 8, 8, 8, 8, 8, 8, 8, 8, 8, 8, 8, 8, 8, 8, 8, 8, 8, 8, 8, 8, 8, 8, 8, 8, 8, 8, 8, 8, 8, 8, 8, 8, 8, 8, 8, 8, 8, 8, 8, 8, 8, 8, 8, 8, 8, 8, 8, 8, 8, 8, 8, 8, 8, 8, 8, 8, 8, 8, 8, 8, 8, 8, 8, 8, 8, 8, 8, 8, 8, 8, 8, 8, 8, 8, 8, 8, 8, 8, 8, 8, 8, 8, 8, 8, 8, 8, 8, 8, 8, 8, 8, 8, 8, 8, 8, 8, 8, 8, 8, 8, 8, 8, 8, 8, 8, 8, 8, 8, 8, 8, 8, 8, 8, 8] : List UInt8))[(UInt8.ofBitVec (BitVec.setWidth 8 (j2.1 >>> 8))).toNat]?).bind fun x3 => (let v4 : Int := (IntKind.wrap .i64 ((IntKind.wrap .i64 (j2.2.1 + (8 : Int))) + (x3.toBitVec.toNat : Int)))
 (some ((), (v4, ())))))
 else (((([0, 1, 2, 2, 3, 3, 3, 3, 4, 4, 4, 4, 4, 4, 4, 4, 5, 5, 5, 5, 5, 5, 5, 5, 5, 5, 5, 5, 5, 5, 5, 5, 6, 6, 6, 6, 6, 6, 6, 6, 6, 6, 6, 6, 6, 6, 6, 6, 6, 6, 6, 6, 6, 6, 6, 6, 6, 6, 6, 6, 6, 6, 6, 6, 7, 7, 7, 7, 7, 7, 7, 7, 7, 7, 7, 7, 7, 7, 7, 7, 7, 7, 7, 7, 7, 7, 7, 7, 7, 7, 7, 7, 7, 7, 7, 7, 7, 7, 7, 7, 7, 7, 7, 7, 7, 7, 7, 7, 7, 7, 7, 7, 7, 7, 7, 7, 7, 7, 7, 7, 7, 7, 7, 7, 7, 7, 7, 7, 8, 8, 8, 8, 8, 8, 8, 8, 8, 8, 8, 8, 8, 8, 8, 8, 8, 8, 8, 8, 8, 8, 8, 8, 8, 8, 8, 8, 8, 8, 8, 8, 8, 8, 8, 8, 8, 8, 8, 8, 8, 8, 8, 8, 8, 8, 8, 8, 8, 8, 8, 8, 8, 8, 8, 8, 8, 8, 8, 8, 8, 8, 8, 8, 8, 8, 8, 8, 8, 8, 8, 8, 8, 8, 8, 8, 8, 8, 8, 8, 8, 8, 8, 8, 8, 8, 8, 8, 8, 8, 8, 8, 8, 8, 8, 8, 8, 8, 8, 8, 8, 8, 8, 8, 8, 8, 8, 8, 8, 8, 8, 8, 8, 8, 8, 8, 8, 8, 8, 8, 8, 8, 8, 8, 8, 8, 8, 8] : List UInt8))[(UInt8.ofBitVec (BitVec.setWidth 8 j2.1)).toNat]?).bind fun x5 => (some ((), ((IntKind.wrap .i64 (j2.2.1 + (x5.toBitVec.toNat : Int))), ())))))))))
def S_math_bits_Len64 : FSpec T := ⟨[.f (.v .u64)], [(.v (.int .i64))], fun x => math_bits_Len64 x.1⟩
def E_math_bits_Len64 : Env T := ⟨tab.find, cd, globs, flc, fun f ds => match f with
    | _ => none, fun f => match f with
    | _ => false⟩
def A_math_bits_Len64 : Loc2 T := ⟨fun id => match id with
    | _ => none, fun r => match r with
    | 4 => some ([(0, .f (.v .u64)), (2, .f (.v (.int .i64)))], true)
    | 7 => some ([(0, .f (.v .u64)), (2, .f (.v (.int .i64)))], true)
    | _ => none, fun r => match r with
    | _ => false⟩
theorem math_bits_Len64_eq (x : tySs T S_math_bits_Len64.ps) : run E_math_bits_Len64 A_math_bits_Len64 (Tryd.f83.body.getD .skip) (enterT E_math_bits_Len64.C S_math_bits_Len64.ps x) (retK E_math_bits_Len64 Tryd.f83.results.toList S_math_bits_Len64.ps S_math_bits_Len64.rs) = S_math_bits_Len64.fn x := by kernel_rfl
theorem math_bits_Len64_env : EnvOk Tryd.prog E_math_bits_Len64 := envOk (E := E_math_bits_Len64) cd_ok tys fl_ok fun f ds S h => by cases h
theorem math_bits_Len64_ok : SoundT Tryd.prog cd gdn 83 S_math_bits_Len64 :=
  sound_fn (E := E_math_bits_Len64) (A := A_math_bits_Len64) (done := []) (c := (Tryd.f83.body.getD .skip)) (S := S_math_bits_Len64) (fn := Tryd.f83) hmix math_bits_Len64_env Tryd.func83 rfl (by kernel_rfl) (by kernel_rfl) done_nil (by kernel_rfl) (by kernel_rfl) math_bits_Len64_eq
def math_bits_Len (a0 : (BitVec 64)) : Option ((Unit) × (Int × Unit)) :=
 ((math_bits_Len64 a0).bind fun r1 => (some ((), (r1.2.1, ()))))
def S_math_bits_Len : FSpec T := ⟨[.f (.v .u64)], [(.v (.int .i64))], fun x => math_bits_Len x.1⟩
def E_math_bits_Len : Env T := ⟨tab.find, cd, globs, flc, fun f ds => match f with
    | 83 => some S_math_bits_Len64
    | _ => none, fun f => match f with
    | 83 => true
    | _ => false⟩
def A_math_bits_Len : Loc2 T := ⟨fun id => match id with
    | _ => none, fun r => match r with
    | _ => none, fun r => match r with
    | _ => false⟩
theorem math_bits_Len_eq (x : tySs T S_math_bits_Len.ps) : run E_math_bits_Len A_math_bits_Len (Tryd.f65.body.getD .skip) (enterT E_math_bits_Len.C S_math_bits_Len.ps x) (retK E_math_bits_Len Tryd.f65.results.toList S_math_bits_Len.ps S_math_bits_Len.rs) = S_math_bits_Len.fn x := by kernel_rfl
theorem math_bits_Len_env : EnvOk Tryd.prog E_math_bits_Len := envOk (E := E_math_bits_Len) cd_ok tys fl_ok fun f ds S h => by
    dsimp only [E_math_bits_Len] at h
    split at h
    · cases h; exact math_bits_Len64_ok
    · cases h
theorem math_bits_Len_ok : SoundT Tryd.prog cd gdn 65 S_math_bits_Len :=
  sound_fn (E := E_math_bits_Len) (A := A_math_bits_Len) (done := []) (c := (Tryd.f65.body.getD .skip)) (S := S_math_bits_Len) (fn := Tryd.f65) hmix math_bits_Len_env Tryd.func65 rfl (by kernel_rfl) (by kernel_rfl) done_nil (by kernel_rfl) (by kernel_rfl) math_bits_Len_eq
def cmp_isNaN_uint64 (a0 : (BitVec 64)) : Option ((Unit) × (Bool × Unit)) :=
 (some ((), ((!decide (a0 = a0)), ())))
def S_cmp_isNaN_uint64 : FSpec T := ⟨[.f (.v .u64)], [(.v .bool)], fun x => cmp_isNaN_uint64 x.1⟩
def E_cmp_isNaN_uint64 : Env T := ⟨tab.find, cd, globs, flc, fun f ds => match f with
    | _ => none, fun f => match f with
    | _ => false⟩
def A_cmp_isNaN_uint64 : Loc2 T := ⟨fun id => match id with
    | _ => none, fun r => match r with
    | _ => none, fun r => match r with
    | _ => false⟩
theorem cmp_isNaN_uint64_eq (x : tySs T S_cmp_isNaN_uint64.ps) : run E_cmp_isNaN_uint64 A_cmp_isNaN_uint64 (Tryd.f66.body.getD .skip) (enterT E_cmp_isNaN_uint64.C S_cmp_isNaN_uint64.ps x) (retK E_cmp_isNaN_uint64 Tryd.f66.results.toList S_cmp_isNaN_uint64.ps S_cmp_isNaN_uint64.rs) = S_cmp_isNaN_uint64.fn x := by kernel_rfl
theorem cmp_isNaN_uint64_env : EnvOk Tryd.prog E_cmp_isNaN_uint64 := envOk (E := E_cmp_isNaN_uint64) cd_ok tys fl_ok fun f ds S h => by cases h
theorem cmp_isNaN_uint64_ok : SoundT Tryd.prog cd gdn 66 S_cmp_isNaN_uint64 :=
  sound_fn (E := E_cmp_isNaN_uint64) (A := A_cmp_isNaN_uint64) (done := []) (c := (Tryd.f66.body.getD .skip)) (S := S_cmp_isNaN_uint64) (fn := Tryd.f66) hmix cmp_isNaN_uint64_env Tryd.func66 rfl (by kernel_rfl) (by kernel_rfl) done_nil (by kernel_rfl) (by kernel_rfl) cmp_isNaN_uint64_eq
def cmp_Compare_uint64 (a0 : (BitVec 64)) (a1 : (BitVec 64)) : Option ((Unit) × (Int × Unit)) :=
 ((cmp_isNaN_uint64 a0).bind fun r1 => ((cmp_isNaN_uint64 a1).bind fun r2 => (bif r1.2.1 then (bif r2.2.1 then (some ((), ((0 : Int), ())))
 else (some ((), ((-1 : Int), ()))))
 else (bif r2.2.1 then (some ((), ((1 : Int), ())))
 else (bif (decide (a0.toNat < a1.toNat)) then (some ((), ((-1 : Int), ())))
 else (bif (decide (a1.toNat < a0.toNat)) then (some ((), ((1 : Int), ())))
 else (some ((), ((0 : Int), ())))))))))
def S_cmp_Compare_uint64 : FSpec T := ⟨[.f (.v .u64), .f (.v .u64)], [(.v (.int .i64))], fun x => cmp_Compare_uint64 x.1 x.2.1⟩
def E_cmp_Compare_uint64 : Env T := ⟨tab.find, cd, globs, flc, fun f ds => match f with
    | 66 => some S_cmp_isNaN_uint64
    | _ => none, fun f => match f with
    | 66 => true
    | _ => false⟩
def A_cmp_Compare_uint64 : Loc2 T := ⟨fun id => match id with
    | _ => none, fun r => match r with
    | _ => none, fun r => match r with
    | _ => false⟩
theorem cmp_Compare_uint64_eq (x : tySs T S_cmp_Compare_uint64.ps) : run E_cmp_Compare_uint64 A_cmp_Compare_uint64 (Tryd.f48.body.getD .skip) (enterT E_cmp_Compare_uint64.C S_cmp_Compare_uint64.ps x) (retK E_cmp_Compare_uint64 Tryd.f48.results.toList S_cmp_Compare_uint64.ps S_cmp_Compare_uint64.rs) = S_cmp_Compare_uint64.fn x := by kernel_rfl
theorem cmp_Compare_uint64_env : EnvOk Tryd.prog E_cmp_Compare_uint64 := envOk (E := E_cmp_Compare_uint64) cd_ok tys fl_ok fun f ds S h => by
    dsimp only [E_cmp_Compare_uint64] at h
    split at h
    · cases h; exact cmp_isNaN_uint64_ok
    · cases h
theorem cmp_Compare_uint64_ok : SoundT Tryd.prog cd gdn 48 S_cmp_Compare_uint64 :=
  sound_fn (E := E_cmp_Compare_uint64) (A := A_cmp_Compare_uint64) (done := []) (c := (Tryd.f48.body.getD .skip)) (S := S_cmp_Compare_uint64) (fn := Tryd.f48) hmix cmp_Compare_uint64_env Tryd.func48 rfl (by kernel_rfl) (by kernel_rfl) done_nil (by kernel_rfl) (by kernel_rfl) cmp_Compare_uint64_eq
def cbor_Map_1 (a0 : Int) (a1 : Int) (a2 : (List (BitVec 64))) : Option ((Unit) × (Int × Unit)) :=
 ((getI a2 a0).bind fun x1 => ((getI a2 a1).bind fun x2 => ((cmp_Compare_uint64 x1 x2).bind fun r3 => (some ((), (r3.2.1, ()))))))
def S_cbor_Map_1 : FSpec T := ⟨[.f (.v (.int .i64)), .f (.v (.int .i64)), .f (.v (.ref (.rs 5)))], [(.v (.int .i64))], fun x => cbor_Map_1 x.1 x.2.1 x.2.2.1⟩
def E_cbor_Map_1 : Env T := ⟨tab.find, cd, globs, flc, fun f ds => match f with
    | 48 => some S_cmp_Compare_uint64
    | _ => none, fun f => match f with
    | 48 => true
    | _ => false⟩
def A_cbor_Map_1 : Loc2 T := ⟨fun id => match id with
    | _ => none, fun r => match r with
    | _ => none, fun r => match r with
    | _ => false⟩
theorem cbor_Map_1_eq (x : tySs T S_cbor_Map_1.ps) : run E_cbor_Map_1 A_cbor_Map_1 (Tryd.f47.body.getD .skip) (enterT E_cbor_Map_1.C S_cbor_Map_1.ps x) (retK E_cbor_Map_1 Tryd.f47.results.toList S_cbor_Map_1.ps S_cbor_Map_1.rs) = S_cbor_Map_1.fn x := by kernel_rfl
theorem cbor_Map_1_env : EnvOk Tryd.prog E_cbor_Map_1 := envOk (E := E_cbor_Map_1) cd_ok tys fl_ok fun f ds S h => by
    dsimp only [E_cbor_Map_1] at h
    split at h
    · cases h; exact cmp_Compare_uint64_ok
    · cases h
theorem cbor_Map_1_ok : SoundT Tryd.prog cd gdn 47 S_cbor_Map_1 :=
  sound_fn (E := E_cbor_Map_1) (A := A_cbor_Map_1) (done := []) (c := (Tryd.f47.body.getD .skip)) (S := S_cbor_Map_1) (fn := Tryd.f47) hmix cbor_Map_1_env Tryd.func47 rfl (by kernel_rfl) (by kernel_rfl) done_nil (by kernel_rfl) (by kernel_rfl) cbor_Map_1_eq
def slices_insertionSortCmpFunc_int_L2b (y0 : (List (Int))) (y1 : Int) (y2 : Int) (y3 : ((List (BitVec 64)) × Unit)) (y4 : Int) (y5 : Int) : Option (((List (Int)) × Int × Int × ((List (BitVec 64)) × Unit) × Int × Int × Unit) ⊕ ((List (Int)) × Int × Int × ((List (BitVec 64)) × Unit) × Int × Unit)) :=
 (bif (decide (y1 < y5)) then (bif (decide ((0 : Int) ≤ y5) && decide (y5 < ((y0).length : Int))) then (((y0)[(y5).toNat]?).bind fun x1 => (bif (decide ((0 : Int) ≤ (IntKind.wrap .i64 (y5 - (1 : Int)))) && decide ((IntKind.wrap .i64 (y5 - (1 : Int))) < ((y0).length : Int))) then (((y0)[((IntKind.wrap .i64 (y5 - (1 : Int)))).toNat]?).bind fun x2 => ((cbor_Map_1 x1 x2 y3.1).bind fun r3 => (bif (decide (r3.2.1 < (0 : Int))) then (bif (decide ((0 : Int) ≤ (IntKind.wrap .i64 (y5 - (1 : Int)))) && decide ((IntKind.wrap .i64 (y5 - (1 : Int))) < ((y0).length : Int))) then (((y0)[((IntKind.wrap .i64 (y5 - (1 : Int)))).toNat]?).bind fun x4 => (bif (decide ((0 : Int) ≤ y5) && decide (y5 < ((y0).length : Int))) then (((y0)[(y5).toNat]?).bind fun x5 => (bif (decide ((0 : Int) ≤ y5) && decide (y5 < ((y0).length : Int))) then (((y0)[(y5).toNat]?).bind fun x6 => (bif (decide ((0 : Int) ≤ (IntKind.wrap .i64 (y5 - (1 : Int)))) && decide ((IntKind.wrap .i64 (y5 - (1 : Int))) < ((y0).length : Int))) then ((((List.set y0 (y5).toNat x4))[((IntKind.wrap .i64 (y5 - (1 : Int)))).toNat]?).bind fun x7 => (let v8 : List (Int) := (List.set (List.set y0 (y5).toNat x4) ((IntKind.wrap .i64 (y5 - (1 : Int)))).toNat x5)
 (some (Sum.inl (v8, y1, y2, (y3.1, ()), y4, (IntKind.wrap .i64 (y5 - (1 : Int))), ())))))
 else none))
 else none))
 else none))
 else none)
 else (some (Sum.inr (y0, y1, y2, (y3.1, ()), y4, ()))))))
 else none))
 else none)
 else (some (Sum.inr (y0, y1, y2, (y3.1, ()), y4, ()))))
def slices_insertionSortCmpFunc_int_L2 (y : ((List (Int)) × Int × Int × ((List (BitVec 64)) × Unit) × Int × Int × Unit)) : Option ((List (Int)) × Int × Int × ((List (BitVec 64)) × Unit) × Int × Unit) := iter (fun (y : ((List (Int)) × Int × Int × ((List (BitVec 64)) × Unit) × Int × Int × Unit)) => slices_insertionSortCmpFunc_int_L2b y.1 y.2.1 y.2.2.1 y.2.2.2.1 y.2.2.2.2.1 y.2.2.2.2.2.1) rounds y
def slices_insertionSortCmpFunc_int_L0b (y0 : (List (Int))) (y1 : Int) (y2 : Int) (y3 : ((List (BitVec 64)) × Unit)) (y4 : Int) : Option (((List (Int)) × Int × Int × ((List (BitVec 64)) × Unit) × Int × Unit) ⊕ ((List (Int)) × Unit)) :=
 (bif (decide (y4 < y2)) then ((slices_insertionSortCmpFunc_int_L2 (y0, y1, y2, (y3.1, ()), y4, y4, ())).bind (fun (z1 : ((List (Int)) × Int × Int × ((List (BitVec 64)) × Unit) × Int × Unit)) => (some (Sum.inl (z1.1, z1.2.1, z1.2.2.1, (z1.2.2.2.1.1, ()), (IntKind.wrap .i64 (z1.2.2.2.2.1 + (1 : Int))), ())))))
 else (some (Sum.inr (y0, ()))))
def slices_insertionSortCmpFunc_int_L0 (y : ((List (Int)) × Int × Int × ((List (BitVec 64)) × Unit) × Int × Unit)) : Option ((List (Int)) × Unit) := iter (fun (y : ((List (Int)) × Int × Int × ((List (BitVec 64)) × Unit) × Int × Unit)) => slices_insertionSortCmpFunc_int_L0b y.1 y.2.1 y.2.2.1 y.2.2.2.1 y.2.2.2.2.1) rounds y
def slices_insertionSortCmpFunc_int (a0 : (List (Int))) (a1 : Int) (a2 : Int) (a3 : ((List (BitVec 64)) × Unit)) : Option (((List (Int)) × Unit) × (Unit)) :=
 ((slices_insertionSortCmpFunc_int_L0 (a0, a1, a2, (a3.1, ()), (IntKind.wrap .i64 (a1 + (1 : Int))), ())).bind (fun (z2 : ((List (Int)) × Unit)) => (some ((z2.1, ()), ()))))
def S_slices_insertionSortCmpFunc_int : FSpec T := ⟨[.inp 7, .f (.v (.int .i64)), .f (.v (.int .i64)), .f (.v (.fn 47 (.cons (.ref (.rs 5)) .nil)))], [], fun x => slices_insertionSortCmpFunc_int x.1 x.2.1 x.2.2.1 x.2.2.2.1⟩
def E_slices_insertionSortCmpFunc_int : Env T := ⟨tab.find, cd, globs, flc, fun f ds => match f with
    | 47 => some S_cbor_Map_1
    | _ => none, fun f => match f with
    | 47 => true
    | _ => false⟩
def A_slices_insertionSortCmpFunc_int : Loc2 T := ⟨fun id => match id with
    | 2 => some ⟨[(0, .f (.own 7)), (1, .f (.v (.int .i64))), (2, .f (.v (.int .i64))), (3, .f (.v (.fn 47 (.cons (.ref (.rs 5)) .nil)))), (8, .f (.v (.int .i64))), (9, .f (.v (.int .i64)))], [(.exit 2, [(0, .f (.own 7)), (1, .f (.v (.int .i64))), (2, .f (.v (.int .i64))), (3, .f (.v (.fn 47 (.cons (.ref (.rs 5)) .nil)))), (8, .f (.v (.int .i64)))])], slices_insertionSortCmpFunc_int_L2, []⟩
    | 0 => some ⟨[(0, .f (.own 7)), (1, .f (.v (.int .i64))), (2, .f (.v (.int .i64))), (3, .f (.v (.fn 47 (.cons (.ref (.rs 5)) .nil)))), (8, .f (.v (.int .i64)))], [(.exit 0, [(0, .f (.own 7))])], slices_insertionSortCmpFunc_int_L0, []⟩
    | _ => none, fun r => match r with
    | _ => none, fun r => match r with
    | _ => false⟩
theorem slices_insertionSortCmpFunc_int_L2_eq (y0 : (List (Int))) (y1 : Int) (y2 : Int) (y3 : ((List (BitVec 64)) × Unit)) (y4 : Int) (y5 : Int) : run E_slices_insertionSortCmpFunc_int A_slices_insertionSortCmpFunc_int (loopAt 2 (Tryd.f74.body.getD .skip)) (layC cd [(0, .f (.own 7)), (1, .f (.v (.int .i64))), (2, .f (.v (.int .i64))), (3, .f (.v (.fn 47 (.cons (.ref (.rs 5)) .nil)))), (8, .f (.v (.int .i64))), (9, .f (.v (.int .i64)))] [] (y0, y1, y2, y3, y4, y5, ())) (roundK cd [(0, .f (.own 7)), (1, .f (.v (.int .i64))), (2, .f (.v (.int .i64))), (3, .f (.v (.fn 47 (.cons (.ref (.rs 5)) .nil)))), (8, .f (.v (.int .i64))), (9, .f (.v (.int .i64)))] [] [(.exit 2, [(0, .f (.own 7)), (1, .f (.v (.int .i64))), (2, .f (.v (.int .i64))), (3, .f (.v (.fn 47 (.cons (.ref (.rs 5)) .nil)))), (8, .f (.v (.int .i64)))])]) = slices_insertionSortCmpFunc_int_L2b y0 y1 y2 y3 y4 y5 := by kernel_rfl
theorem slices_insertionSortCmpFunc_int_L0_eq (y0 : (List (Int))) (y1 : Int) (y2 : Int) (y3 : ((List (BitVec 64)) × Unit)) (y4 : Int) : run E_slices_insertionSortCmpFunc_int A_slices_insertionSortCmpFunc_int (loopAt 0 (Tryd.f74.body.getD .skip)) (layC cd [(0, .f (.own 7)), (1, .f (.v (.int .i64))), (2, .f (.v (.int .i64))), (3, .f (.v (.fn 47 (.cons (.ref (.rs 5)) .nil)))), (8, .f (.v (.int .i64)))] [] (y0, y1, y2, y3, y4, ())) (roundK cd [(0, .f (.own 7)), (1, .f (.v (.int .i64))), (2, .f (.v (.int .i64))), (3, .f (.v (.fn 47 (.cons (.ref (.rs 5)) .nil)))), (8, .f (.v (.int .i64)))] [] [(.exit 0, [(0, .f (.own 7))])]) = slices_insertionSortCmpFunc_int_L0b y0 y1 y2 y3 y4 := by kernel_rfl
theorem slices_insertionSortCmpFunc_int_eq (x : tySs T S_slices_insertionSortCmpFunc_int.ps) : run E_slices_insertionSortCmpFunc_int A_slices_insertionSortCmpFunc_int (Tryd.f74.body.getD .skip) (enterT E_slices_insertionSortCmpFunc_int.C S_slices_insertionSortCmpFunc_int.ps x) (retK E_slices_insertionSortCmpFunc_int Tryd.f74.results.toList S_slices_insertionSortCmpFunc_int.ps S_slices_insertionSortCmpFunc_int.rs) = S_slices_insertionSortCmpFunc_int.fn x := by kernel_rfl
theorem slices_insertionSortCmpFunc_int_env : EnvOk Tryd.prog E_slices_insertionSortCmpFunc_int := envOk (E := E_slices_insertionSortCmpFunc_int) cd_ok tys fl_ok fun f ds S h => by
    dsimp only [E_slices_insertionSortCmpFunc_int] at h
    split at h
    · cases h; exact cbor_Map_1_ok
    · cases h
theorem slices_insertionSortCmpFunc_int_L2_ok : LoopOk Tryd.prog E_slices_insertionSortCmpFunc_int Tryd.f74.ntmps (kqOf S_slices_insertionSortCmpFunc_int.ps 0) (loopAt 2 (Tryd.f74.body.getD .skip)) ⟨[(0, .f (.own 7)), (1, .f (.v (.int .i64))), (2, .f (.v (.int .i64))), (3, .f (.v (.fn 47 (.cons (.ref (.rs 5)) .nil)))), (8, .f (.v (.int .i64))), (9, .f (.v (.int .i64)))], [(.exit 2, [(0, .f (.own 7)), (1, .f (.v (.int .i64))), (2, .f (.v (.int .i64))), (3, .f (.v (.fn 47 (.cons (.ref (.rs 5)) .nil)))), (8, .f (.v (.int .i64)))])], slices_insertionSortCmpFunc_int_L2, []⟩ :=
  loop_ok (A := A_slices_insertionSortCmpFunc_int) (done := []) (c0 := (Tryd.f74.body.getD .skip)) hmix slices_insertionSortCmpFunc_int_env done_nil rounds (by kernel_rfl) (by kernel_rfl) (fun x => slices_insertionSortCmpFunc_int_L2_eq x.1 x.2.1 x.2.2.1 x.2.2.2.1 x.2.2.2.2.1 x.2.2.2.2.2.1) (fun _ => rfl)
theorem slices_insertionSortCmpFunc_int_L0_ok : LoopOk Tryd.prog E_slices_insertionSortCmpFunc_int Tryd.f74.ntmps (kqOf S_slices_insertionSortCmpFunc_int.ps 0) (loopAt 0 (Tryd.f74.body.getD .skip)) ⟨[(0, .f (.own 7)), (1, .f (.v (.int .i64))), (2, .f (.v (.int .i64))), (3, .f (.v (.fn 47 (.cons (.ref (.rs 5)) .nil)))), (8, .f (.v (.int .i64)))], [(.exit 0, [(0, .f (.own 7))])], slices_insertionSortCmpFunc_int_L0, []⟩ :=
  loop_ok (A := A_slices_insertionSortCmpFunc_int) (done := [2]) (c0 := (Tryd.f74.body.getD .skip)) hmix slices_insertionSortCmpFunc_int_env (done_cons rfl slices_insertionSortCmpFunc_int_L2_ok done_nil) rounds (by kernel_rfl) (by kernel_rfl) (fun x => slices_insertionSortCmpFunc_int_L0_eq x.1 x.2.1 x.2.2.1 x.2.2.2.1 x.2.2.2.2.1) (fun _ => rfl)
theorem slices_insertionSortCmpFunc_int_ok : SoundT Tryd.prog cd gdn 74 S_slices_insertionSortCmpFunc_int :=
  sound_fn (E := E_slices_insertionSortCmpFunc_int) (A := A_slices_insertionSortCmpFunc_int) (done := [2, 0]) (c := (Tryd.f74.body.getD .skip)) (S := S_slices_insertionSortCmpFunc_int) (fn := Tryd.f74) hmix slices_insertionSortCmpFunc_int_env Tryd.func74 rfl (by kernel_rfl) (by kernel_rfl) (done_cons rfl slices_insertionSortCmpFunc_int_L2_ok (done_cons rfl slices_insertionSortCmpFunc_int_L0_ok done_nil)) (by kernel_rfl) (by kernel_rfl) slices_insertionSortCmpFunc_int_eq
def slices_pdqsortCmpFunc_int_L0b (y0 : (List (Int))) (y1 : Int) (y2 : Int) (y3 : Int) (y4 : ((List (BitVec 64)) × Unit)) (y5 : Bool) (y6 : Bool) : Option (((List (Int)) × Int × Int × Int × ((List (BitVec 64)) × Unit) × Bool × Bool × Unit) ⊕ ((List (Int)) × Unit)) :=
 (bif (decide ((IntKind.wrap .i64 (y2 - y1)) ≤ (12 : Int))) then ((slices_insertionSortCmpFunc_int y0 y1 y2 (y4.1, ())).bind fun r1 => (some (Sum.inr (r1.1.1, ()))))
 else (bif (decide (y3 = (0 : Int))) then none
 else ((bif (!y5) then none
 else (some (y0, y1, y2, y3, (y4.1, ()), y5, y6, (IntKind.wrap .i64 (y2 - y1)), ()))).bind (fun (j2 : ((List (Int)) × Int × Int × Int × ((List (BitVec 64)) × Unit) × Bool × Bool × Int × Unit)) => none))))
def slices_pdqsortCmpFunc_int_L0 (y : ((List (Int)) × Int × Int × Int × ((List (BitVec 64)) × Unit) × Bool × Bool × Unit)) : Option ((List (Int)) × Unit) := iter (fun (y : ((List (Int)) × Int × Int × Int × ((List (BitVec 64)) × Unit) × Bool × Bool × Unit)) => slices_pdqsortCmpFunc_int_L0b y.1 y.2.1 y.2.2.1 y.2.2.2.1 y.2.2.2.2.1 y.2.2.2.2.2.1 y.2.2.2.2.2.2.1) rounds y
def slices_pdqsortCmpFunc_int (a0 : (List (Int))) (a1 : Int) (a2 : Int) (a3 : Int) (a4 : ((List (BitVec 64)) × Unit)) : Option (((List (Int)) × Unit) × (Unit)) :=
 ((slices_pdqsortCmpFunc_int_L0 (a0, a1, a2, a3, (a4.1, ()), true, true, ())).bind (fun (z3 : ((List (Int)) × Unit)) => (some ((z3.1, ()), ()))))
def S_slices_pdqsortCmpFunc_int : FSpec T := ⟨[.inp 7, .f (.v (.int .i64)), .f (.v (.int .i64)), .f (.v (.int .i64)), .f (.v (.fn 47 (.cons (.ref (.rs 5)) .nil)))], [], fun x => slices_pdqsortCmpFunc_int x.1 x.2.1 x.2.2.1 x.2.2.2.1 x.2.2.2.2.1⟩
def E_slices_pdqsortCmpFunc_int : Env T := ⟨tab.find, cd, globs, flc, fun f ds => match f with
    | 74 => match fnAt ds 3 with
      | some 47 => some S_slices_insertionSortCmpFunc_int
      | _ => none
    | _ => none, fun f => match f with
    | _ => false⟩
def A_slices_pdqsortCmpFunc_int : Loc2 T := ⟨fun id => match id with
    | 0 => some ⟨[(0, .f (.own 7)), (1, .f (.v (.int .i64))), (2, .f (.v (.int .i64))), (3, .f (.v (.int .i64))), (4, .f (.v (.fn 47 (.cons (.ref (.rs 5)) .nil)))), (10, .f (.v .bool)), (11, .f (.v .bool))], [(.ret, [(0, .f (.own 7))])], slices_pdqsortCmpFunc_int_L0, []⟩
    | _ => none, fun r => match r with
    | 10 => some ([(0, .f (.own 7)), (1, .f (.v (.int .i64))), (2, .f (.v (.int .i64))), (3, .f (.v (.int .i64))), (4, .f (.v (.fn 47 (.cons (.ref (.rs 5)) .nil)))), (10, .f (.v .bool)), (11, .f (.v .bool)), (12, .f (.v (.int .i64)))], true)
    | _ => none, fun r => match r with
    | _ => false⟩
theorem slices_pdqsortCmpFunc_int_L0_eq (y0 : (List (Int))) (y1 : Int) (y2 : Int) (y3 : Int) (y4 : ((List (BitVec 64)) × Unit)) (y5 : Bool) (y6 : Bool) : run E_slices_pdqsortCmpFunc_int A_slices_pdqsortCmpFunc_int (loopAt 0 (Tryd.f64.body.getD .skip)) (layC cd [(0, .f (.own 7)), (1, .f (.v (.int .i64))), (2, .f (.v (.int .i64))), (3, .f (.v (.int .i64))), (4, .f (.v (.fn 47 (.cons (.ref (.rs 5)) .nil)))), (10, .f (.v .bool)), (11, .f (.v .bool))] [] (y0, y1, y2, y3, y4, y5, y6, ())) (roundK cd [(0, .f (.own 7)), (1, .f (.v (.int .i64))), (2, .f (.v (.int .i64))), (3, .f (.v (.int .i64))), (4, .f (.v (.fn 47 (.cons (.ref (.rs 5)) .nil)))), (10, .f (.v .bool)), (11, .f (.v .bool))] [] [(.ret, [(0, .f (.own 7))])]) = slices_pdqsortCmpFunc_int_L0b y0 y1 y2 y3 y4 y5 y6 := by kernel_rfl
theorem slices_pdqsortCmpFunc_int_eq (x : tySs T S_slices_pdqsortCmpFunc_int.ps) : run E_slices_pdqsortCmpFunc_int A_slices_pdqsortCmpFunc_int (Tryd.f64.body.getD .skip) (enterT E_slices_pdqsortCmpFunc_int.C S_slices_pdqsortCmpFunc_int.ps x) (retK E_slices_pdqsortCmpFunc_int Tryd.f64.results.toList S_slices_pdqsortCmpFunc_int.ps S_slices_pdqsortCmpFunc_int.rs) = S_slices_pdqsortCmpFunc_int.fn x := by kernel_rfl
theorem slices_pdqsortCmpFunc_int_env : EnvOk Tryd.prog E_slices_pdqsortCmpFunc_int := envOk (E := E_slices_pdqsortCmpFunc_int) cd_ok tys fl_ok fun f ds S h => by
    dsimp only [E_slices_pdqsortCmpFunc_int] at h
    split at h
    · split at h
      · cases h; exact slices_insertionSortCmpFunc_int_ok
      · cases h
    · cases h
theorem slices_pdqsortCmpFunc_int_L0_ok : LoopOk Tryd.prog E_slices_pdqsortCmpFunc_int Tryd.f64.ntmps (kqOf S_slices_pdqsortCmpFunc_int.ps 0) (loopAt 0 (Tryd.f64.body.getD .skip)) ⟨[(0, .f (.own 7)), (1, .f (.v (.int .i64))), (2, .f (.v (.int .i64))), (3, .f (.v (.int .i64))), (4, .f (.v (.fn 47 (.cons (.ref (.rs 5)) .nil)))), (10, .f (.v .bool)), (11, .f (.v .bool))], [(.ret, [(0, .f (.own 7))])], slices_pdqsortCmpFunc_int_L0, []⟩ :=
  loop_ok (A := A_slices_pdqsortCmpFunc_int) (done := []) (c0 := (Tryd.f64.body.getD .skip)) hmix slices_pdqsortCmpFunc_int_env done_nil rounds (by kernel_rfl) (by kernel_rfl) (fun x => slices_pdqsortCmpFunc_int_L0_eq x.1 x.2.1 x.2.2.1 x.2.2.2.1 x.2.2.2.2.1 x.2.2.2.2.2.1 x.2.2.2.2.2.2.1) (fun _ => rfl)
theorem slices_pdqsortCmpFunc_int_ok : SoundT Tryd.prog cd gdn 64 S_slices_pdqsortCmpFunc_int :=
  sound_fn (E := E_slices_pdqsortCmpFunc_int) (A := A_slices_pdqsortCmpFunc_int) (done := [0]) (c := (Tryd.f64.body.getD .skip)) (S := S_slices_pdqsortCmpFunc_int) (fn := Tryd.f64) hmix slices_pdqsortCmpFunc_int_env Tryd.func64 rfl (by kernel_rfl) (by kernel_rfl) (done_cons rfl slices_pdqsortCmpFunc_int_L0_ok done_nil) (by kernel_rfl) (by kernel_rfl) slices_pdqsortCmpFunc_int_eq
def slices_SortFunc_int_int (a0 : (List (Int))) (a1 : ((List (BitVec 64)) × Unit)) : Option (((List (Int)) × Unit) × (Unit)) :=
 ((math_bits_Len (BitVec.ofInt 64 ((a0).length : Int))).bind fun r1 => ((slices_pdqsortCmpFunc_int a0 (0 : Int) ((a0).length : Int) r1.2.1 (a1.1, ())).bind fun r2 => (some ((r2.1.1, ()), ()))))
def S_slices_SortFunc_int_int : FSpec T := ⟨[.inp 7, .f (.v (.fn 47 (.cons (.ref (.rs 5)) .nil)))], [], fun x => slices_SortFunc_int_int x.1 x.2.1⟩
def E_slices_SortFunc_int_int : Env T := ⟨tab.find, cd, globs, flc, fun f ds => match f with
    | 64 => match fnAt ds 4 with
      | some 47 => some S_slices_pdqsortCmpFunc_int
      | _ => none
    | 65 => some S_math_bits_Len
    | _ => none, fun f => match f with
    | 65 => true
    | _ => false⟩
def A_slices_SortFunc_int_int : Loc2 T := ⟨fun id => match id with
    | _ => none, fun r => match r with
    | _ => none, fun r => match r with
    | _ => false⟩
theorem slices_SortFunc_int_int_eq (x : tySs T S_slices_SortFunc_int_int.ps) : run E_slices_SortFunc_int_int A_slices_SortFunc_int_int (Tryd.f46.body.getD .skip) (enterT E_slices_SortFunc_int_int.C S_slices_SortFunc_int_int.ps x) (retK E_slices_SortFunc_int_int Tryd.f46.results.toList S_slices_SortFunc_int_int.ps S_slices_SortFunc_int_int.rs) = S_slices_SortFunc_int_int.fn x := by kernel_rfl
theorem slices_SortFunc_int_int_env : EnvOk Tryd.prog E_slices_SortFunc_int_int := envOk (E := E_slices_SortFunc_int_int) cd_ok tys fl_ok fun f ds S h => by
    dsimp only [E_slices_SortFunc_int_int] at h
    split at h
    · split at h
      · cases h; exact slices_pdqsortCmpFunc_int_ok
      · cases h
    · cases h; exact math_bits_Len_ok
    · cases h
theorem slices_SortFunc_int_int_ok : SoundT Tryd.prog cd gdn 46 S_slices_SortFunc_int_int :=
  sound_fn (E := E_slices_SortFunc_int_int) (A := A_slices_SortFunc_int_int) (done := []) (c := (Tryd.f46.body.getD .skip)) (S := S_slices_SortFunc_int_int) (fn := Tryd.f46) hmix slices_SortFunc_int_int_env Tryd.func46 rfl (by kernel_rfl) (by kernel_rfl) done_nil (by kernel_rfl) (by kernel_rfl) slices_SortFunc_int_int_eq
def cbor_faulty_L0b (y0 : (List (List ApiItem))) (y1 : Int) (y2 : Int) : Option (((List (List ApiItem)) × Int × Int × Unit) ⊕ ((Int × Unit) ⊕ (Unit))) :=
 (bif (decide (y2 < y1)) then ((getI y0 y2).bind fun x1 => ((cbor_Validate x1).bind fun r2 => (bif (!decide (r2.2.1 = (0 : Int))) then (some (Sum.inr (Sum.inl (r2.2.1, ()))))
 else (some (Sum.inl (y0, y1, (IntKind.wrap .i64 (y2 + (1 : Int))), ()))))))
 else (some (Sum.inr (Sum.inr ()))))
def cbor_faulty_L0 (y : ((List (List ApiItem)) × Int × Int × Unit)) : Option ((Int × Unit) ⊕ (Unit)) := iter (fun (y : ((List (List ApiItem)) × Int × Int × Unit)) => cbor_faulty_L0b y.1 y.2.1 y.2.2.1) rounds y
def cbor_faulty (a0 : (List (List ApiItem))) : Option ((Unit) × (Int × Unit)) :=
 ((cbor_faulty_L0 (a0, ((a0).length : Int), (0 : Int), ())).bind (Sum.elim (fun (z3 : (Int × Unit)) => (some ((), (z3.1, ())))) (fun (z4 : (Unit)) => (some ((), ((0 : Int), ()))))))
def S_cbor_faulty : FSpec T := ⟨[.f (.v (.rs 6))], [(.v (.int .i64))], fun x => cbor_faulty x.1⟩
def E_cbor_faulty : Env T := ⟨tab.find, cd, globs, flc, fun f ds => match f with
    | 18 => some S_cbor_Validate
    | _ => none, fun f => match f with
    | 18 => true
    | _ => false⟩
def A_cbor_faulty : Loc2 T := ⟨fun id => match id with
    | 0 => some ⟨[(6, .f (.v (.rs 6))), (7, .f (.v (.int .i64))), (8, .f (.v (.int .i64)))], [(.ret, [(2, .f (.v (.int .i64)))]), (.exit 0, [])], cbor_faulty_L0, []⟩
    | _ => none, fun r => match r with
    | _ => none, fun r => match r with
    | _ => false⟩
theorem cbor_faulty_L0_eq (y0 : (List (List ApiItem))) (y1 : Int) (y2 : Int) : run E_cbor_faulty A_cbor_faulty (loopAt 0 (Tryd.f49.body.getD .skip)) (layC cd [(6, .f (.v (.rs 6))), (7, .f (.v (.int .i64))), (8, .f (.v (.int .i64)))] [] (y0, y1, y2, ())) (roundK cd [(6, .f (.v (.rs 6))), (7, .f (.v (.int .i64))), (8, .f (.v (.int .i64)))] [] [(.ret, [(2, .f (.v (.int .i64)))]), (.exit 0, [])]) = cbor_faulty_L0b y0 y1 y2 := by kernel_rfl
theorem cbor_faulty_eq (x : tySs T S_cbor_faulty.ps) : run E_cbor_faulty A_cbor_faulty (Tryd.f49.body.getD .skip) (enterT E_cbor_faulty.C S_cbor_faulty.ps x) (retK E_cbor_faulty Tryd.f49.results.toList S_cbor_faulty.ps S_cbor_faulty.rs) = S_cbor_faulty.fn x := by kernel_rfl
theorem cbor_faulty_env : EnvOk Tryd.prog E_cbor_faulty := envOk (E := E_cbor_faulty) cd_ok tys fl_ok fun f ds S h => by
    dsimp only [E_cbor_faulty] at h
    split at h
    · cases h; exact cbor_Validate_ok
    · cases h
theorem cbor_faulty_L0_ok : LoopOk Tryd.prog E_cbor_faulty Tryd.f49.ntmps (kqOf S_cbor_faulty.ps 0) (loopAt 0 (Tryd.f49.body.getD .skip)) ⟨[(6, .f (.v (.rs 6))), (7, .f (.v (.int .i64))), (8, .f (.v (.int .i64)))], [(.ret, [(2, .f (.v (.int .i64)))]), (.exit 0, [])], cbor_faulty_L0, []⟩ :=
  loop_ok (A := A_cbor_faulty) (done := []) (c0 := (Tryd.f49.body.getD .skip)) hmix cbor_faulty_env done_nil rounds (by kernel_rfl) (by kernel_rfl) (fun x => cbor_faulty_L0_eq x.1 x.2.1 x.2.2.1) (fun _ => rfl)
theorem cbor_faulty_ok : SoundT Tryd.prog cd gdn 49 S_cbor_faulty :=
  sound_fn (E := E_cbor_faulty) (A := A_cbor_faulty) (done := [0]) (c := (Tryd.f49.body.getD .skip)) (S := S_cbor_faulty) (fn := Tryd.f49) hmix cbor_faulty_env Tryd.func49 rfl (by kernel_rfl) (by kernel_rfl) (done_cons rfl cbor_faulty_L0_ok done_nil) (by kernel_rfl) (by kernel_rfl) cbor_faulty_eq
def cbor_Uint (a0 : (BitVec 64)) : Option ((Unit) × ((List (ApiItem)) × Unit)) :=
 (let v1 : List (ApiItem) := ([(⟨(1 : Int), a0, ([] : List UInt8)⟩ : ApiItem)] : List (ApiItem))
 (some ((), (v1, ()))))
def S_cbor_Uint : FSpec T := ⟨[.f (.v .u64)], [(.own 1)], fun x => cbor_Uint x.1⟩
def E_cbor_Uint : Env T := ⟨tab.find, cd, globs, flc, fun f ds => match f with
    | _ => none, fun f => match f with
    | _ => false⟩
def A_cbor_Uint : Loc2 T := ⟨fun id => match id with
    | _ => none, fun r => match r with
    | _ => none, fun r => match r with
    | _ => false⟩
theorem cbor_Uint_eq (x : tySs T S_cbor_Uint.ps) : run E_cbor_Uint A_cbor_Uint (Tryd.f25.body.getD .skip) (enterT E_cbor_Uint.C S_cbor_Uint.ps x) (retK E_cbor_Uint Tryd.f25.results.toList S_cbor_Uint.ps S_cbor_Uint.rs) = S_cbor_Uint.fn x := by kernel_rfl
theorem cbor_Uint_env : EnvOk Tryd.prog E_cbor_Uint := envOk (E := E_cbor_Uint) cd_ok tys fl_ok fun f ds S h => by cases h
theorem cbor_Uint_ok : SoundT Tryd.prog cd gdn 25 S_cbor_Uint :=
  sound_fn (E := E_cbor_Uint) (A := A_cbor_Uint) (done := []) (c := (Tryd.f25.body.getD .skip)) (S := S_cbor_Uint) (fn := Tryd.f25) hmix cbor_Uint_env Tryd.func25 rfl (by kernel_rfl) (by kernel_rfl) done_nil (by kernel_rfl) (by kernel_rfl) cbor_Uint_eq
def cbor_checked (a0 : (List (ApiItem))) : Option ((Unit) × ((List (ApiItem)) × Int × Unit)) :=
 ((cbor_Validate a0).bind fun r1 => (bif (!decide (r1.2.1 = (0 : Int))) then (some ((), ([], r1.2.1, ())))
 else (some ((), (a0, (0 : Int), ())))))
def S_cbor_checked : FSpec T := ⟨[.f (.v (.rs 1))], [(.v (.rs 1)), (.v (.int .i64))], fun x => cbor_checked x.1⟩
def E_cbor_checked : Env T := ⟨tab.find, cd, globs, flc, fun f ds => match f with
    | 18 => some S_cbor_Validate
    | _ => none, fun f => match f with
    | 18 => true
    | _ => false⟩
def A_cbor_checked : Loc2 T := ⟨fun id => match id with
    | _ => none, fun r => match r with
    | _ => none, fun r => match r with
    | _ => false⟩
theorem cbor_checked_eq (x : tySs T S_cbor_checked.ps) : run E_cbor_checked A_cbor_checked (Tryd.f50.body.getD .skip) (enterT E_cbor_checked.C S_cbor_checked.ps x) (retK E_cbor_checked Tryd.f50.results.toList S_cbor_checked.ps S_cbor_checked.rs) = S_cbor_checked.fn x := by kernel_rfl
theorem cbor_checked_env : EnvOk Tryd.prog E_cbor_checked := envOk (E := E_cbor_checked) cd_ok tys fl_ok fun f ds S h => by
    dsimp only [E_cbor_checked] at h
    split at h
    · cases h; exact cbor_Validate_ok
    · cases h
theorem cbor_checked_ok : SoundT Tryd.prog cd gdn 50 S_cbor_checked :=
  sound_fn (E := E_cbor_checked) (A := A_cbor_checked) (done := []) (c := (Tryd.f50.body.getD .skip)) (S := S_cbor_checked) (fn := Tryd.f50) hmix cbor_checked_env Tryd.func50 rfl (by kernel_rfl) (by kernel_rfl) done_nil (by kernel_rfl) (by kernel_rfl) cbor_checked_eq
def cbor_Map_L0b (y0 : (List (List ApiItem))) (y1 : (List (BitVec 64))) (y2 : (List (Int))) (y3 : Int) (y4 : Int) : Option (((List (List ApiItem)) × (List (BitVec 64)) × (List (Int)) × Int × Int × Unit) ⊕ ((List (List ApiItem)) × (List (BitVec 64)) × (List (Int)) × Unit)) :=
 (bif (decide (y4 < y3)) then (bif (decide ((0 : Int) ≤ y4) && decide (y4 < ((y2).length : Int))) then (((y2)[(y4).toNat]?).bind fun x2 => (some (Sum.inl (y0, y1, (List.set y2 (y4).toNat y4), y3, (IntKind.wrap .i64 (y4 + (1 : Int))), ()))))
 else none)
 else (some (Sum.inr (y0, y1, y2, ()))))
def cbor_Map_L0 (y : ((List (List ApiItem)) × (List (BitVec 64)) × (List (Int)) × Int × Int × Unit)) : Option ((List (List ApiItem)) × (List (BitVec 64)) × (List (Int)) × Unit) := iter (fun (y : ((List (List ApiItem)) × (List (BitVec 64)) × (List (Int)) × Int × Int × Unit)) => cbor_Map_L0b y.1 y.2.1 y.2.2.1 y.2.2.2.1 y.2.2.2.2.1) rounds y
def cbor_Map_L2b (y0 : (List (List ApiItem))) (y1 : (List (BitVec 64))) (y2 : (List (Int))) (y3 : Int) : Option (((List (List ApiItem)) × (List (BitVec 64)) × (List (Int)) × Int × Unit) ⊕ (((List (ApiItem)) × Int × Unit) ⊕ ((List (List ApiItem)) × (List (BitVec 64)) × (List (Int)) × Unit))) :=
 (bif (decide (y3 < ((y2).length : Int))) then (bif (decide ((0 : Int) ≤ (IntKind.wrap .i64 (y3 - (1 : Int)))) && decide ((IntKind.wrap .i64 (y3 - (1 : Int))) < ((y2).length : Int))) then (((y2)[((IntKind.wrap .i64 (y3 - (1 : Int)))).toNat]?).bind fun x5 => ((getI y1 x5).bind fun x6 => (bif (decide ((0 : Int) ≤ y3) && decide (y3 < ((y2).length : Int))) then (((y2)[(y3).toNat]?).bind fun x7 => ((getI y1 x7).bind fun x8 => (bif (decide (x6 = x8)) then (some (Sum.inr (Sum.inl ([], (10 : Int), ()))))
 else (some (Sum.inl (y0, y1, y2, (IntKind.wrap .i64 (y3 + (1 : Int))), ()))))))
 else none)))
 else none)
 else (some (Sum.inr (Sum.inr (y0, y1, y2, ())))))
def cbor_Map_L2 (y : ((List (List ApiItem)) × (List (BitVec 64)) × (List (Int)) × Int × Unit)) : Option (((List (ApiItem)) × Int × Unit) ⊕ ((List (List ApiItem)) × (List (BitVec 64)) × (List (Int)) × Unit)) := iter (fun (y : ((List (List ApiItem)) × (List (BitVec 64)) × (List (Int)) × Int × Unit)) => cbor_Map_L2b y.1 y.2.1 y.2.2.1 y.2.2.2.1) rounds y
def cbor_Map_L4b (y0 : (List (List ApiItem))) (y1 : (List (BitVec 64))) (y2 : (List (ApiItem))) (y3 : (List (Int))) (y4 : Int) (y5 : Int) : Option (((List (List ApiItem)) × (List (BitVec 64)) × (List (ApiItem)) × (List (Int)) × Int × Int × Unit) ⊕ ((List (ApiItem)) × Unit)) :=
 (bif (decide (y5 < y4)) then (bif (decide ((0 : Int) ≤ y5) && decide (y5 < ((y3).length : Int))) then (((y3)[(y5).toNat]?).bind fun x13 => (bif (decide ((512 : Int) < ((y2).length : Int))) then (some (Sum.inr (y2, ())))
 else ((getI y1 x13).bind fun x14 => ((cbor_Uint x14).bind fun r15 => (bif small ((y2).length + (r15.2.1 : List (ApiItem)).length) 32 then ((getI y0 x13).bind fun x16 => (bif small (((y2 ++ r15.2.1)).length + (x16 : List (ApiItem)).length) 32 then (some (Sum.inl (y0, y1, ((y2 ++ r15.2.1) ++ x16), y3, y4, (IntKind.wrap .i64 (y5 + (1 : Int))), ())))
 else none))
 else none)))))
 else none)
 else (some (Sum.inr (y2, ()))))
def cbor_Map_L4 (y : ((List (List ApiItem)) × (List (BitVec 64)) × (List (ApiItem)) × (List (Int)) × Int × Int × Unit)) : Option ((List (ApiItem)) × Unit) := iter (fun (y : ((List (List ApiItem)) × (List (BitVec 64)) × (List (ApiItem)) × (List (Int)) × Int × Int × Unit)) => cbor_Map_L4b y.1 y.2.1 y.2.2.1 y.2.2.2.1 y.2.2.2.2.1 y.2.2.2.2.2.1) rounds y
def cbor_Map (a0 : (List (BitVec 64))) (a1 : (List (List ApiItem))) : Option ((Unit) × ((List (ApiItem)) × Int × Unit)) :=
 (bif (!decide (((a0).length : Int) = ((a1).length : Int))) then (some ((), ([], (4 : Int), ())))
 else (bif (decide ((0 : Int) ≤ ((a0).length : Int)) && (decide (((a0).length : Int) ≤ ((a0).length : Int)) && decide ((8 : Int) * ((a0).length : Int) ≤ 281474976710656 ∧ ((a0).length : Int) ≤ 9223372036854775807))) then (let v1 : List (Int) := (List.replicate (((a0).length : Int)).toNat (0 : Int))
 ((cbor_Map_L0 (a1, a0, v1, ((((a0).length : Int)).toNat : Int), (0 : Int), ())).bind (fun (z3 : ((List (List ApiItem)) × (List (BitVec 64)) × (List (Int)) × Unit)) => ((slices_SortFunc_int_int z3.2.2.1 (z3.2.1, ())).bind fun r4 => ((cbor_Map_L2 (z3.1, z3.2.1, r4.1.1, (1 : Int), ())).bind (Sum.elim (fun (z9 : ((List (ApiItem)) × Int × Unit)) => (some ((), (z9.1, z9.2.1, ())))) (fun (z10 : ((List (List ApiItem)) × (List (BitVec 64)) × (List (Int)) × Unit)) => ((cbor_faulty z10.1).bind fun r11 => (bif (!decide (r11.2.1 = (0 : Int))) then (some ((), ([], r11.2.1, ())))
 else (let v12 : List (ApiItem) := ([(⟨(6 : Int), (BitVec.ofInt 64 ((z10.2.1).length : Int)), ([] : List UInt8)⟩ : ApiItem)] : List (ApiItem))
 ((cbor_Map_L4 (z10.1, z10.2.1, v12, z10.2.2.1, ((z10.2.2.1).length : Int), (0 : Int), ())).bind (fun (z17 : ((List (ApiItem)) × Unit)) => ((cbor_checked z17.1).bind fun r18 => (some ((), (r18.2.1, r18.2.2.1, ()))))))))))))))))
 else none))
def S_cbor_Map : FSpec T := ⟨[.f (.v (.rs 5)), .f (.v (.rs 6))], [(.v (.rs 1)), (.v (.int .i64))], fun x => cbor_Map x.1 x.2.1⟩
def E_cbor_Map : Env T := ⟨tab.find, cd, globs, flc, fun f ds => match f with
    | 25 => some S_cbor_Uint
    | 46 => match fnAt ds 1 with
      | some 47 => some S_slices_SortFunc_int_int
      | _ => none
    | 49 => some S_cbor_faulty
    | 50 => some S_cbor_checked
    | _ => none, fun f => match f with
    | 49 => true
    | _ => false⟩
def A_cbor_Map : Loc2 T := ⟨fun id => match id with
    | 0 => some ⟨[(1, .f (.v (.rs 6))), (2, .f (.v (.ref (.rs 5)))), (6, .f (.own 7)), (22, .f (.v (.int .i64))), (23, .f (.v (.int .i64)))], [(.exit 0, [(1, .f (.v (.rs 6))), (2, .f (.v (.ref (.rs 5)))), (6, .f (.own 7))])], cbor_Map_L0, []⟩
    | 2 => some ⟨[(1, .f (.v (.rs 6))), (2, .f (.v (.ref (.rs 5)))), (6, .f (.own 7)), (8, .f (.v (.int .i64)))], [(.ret, [(4, .f (.own 1)), (5, .f (.v (.int .i64)))]), (.exit 2, [(1, .f (.v (.rs 6))), (2, .f (.v (.ref (.rs 5)))), (6, .f (.own 7))])], cbor_Map_L2, []⟩
    | 4 => some ⟨[(1, .f (.v (.rs 6))), (2, .f (.v (.ref (.rs 5)))), (10, .f (.own 1)), (66, .f (.own 7)), (67, .f (.v (.int .i64))), (68, .f (.v (.int .i64)))], [(.exit 4, [(10, .f (.own 1))])], cbor_Map_L4, []⟩
    | _ => none, fun r => match r with
    | _ => none, fun r => match r with
    | _ => false⟩
theorem cbor_Map_L0_eq (y0 : (List (List ApiItem))) (y1 : (List (BitVec 64))) (y2 : (List (Int))) (y3 : Int) (y4 : Int) : run E_cbor_Map A_cbor_Map (loopAt 0 (Tryd.f33.body.getD .skip)) (layC cd [(1, .f (.v (.rs 6))), (2, .f (.v (.ref (.rs 5)))), (6, .f (.own 7)), (22, .f (.v (.int .i64))), (23, .f (.v (.int .i64)))] [] (y0, y1, y2, y3, y4, ())) (roundK cd [(1, .f (.v (.rs 6))), (2, .f (.v (.ref (.rs 5)))), (6, .f (.own 7)), (22, .f (.v (.int .i64))), (23, .f (.v (.int .i64)))] [] [(.exit 0, [(1, .f (.v (.rs 6))), (2, .f (.v (.ref (.rs 5)))), (6, .f (.own 7))])]) = cbor_Map_L0b y0 y1 y2 y3 y4 := by kernel_rfl
theorem cbor_Map_L2_eq (y0 : (List (List ApiItem))) (y1 : (List (BitVec 64))) (y2 : (List (Int))) (y3 : Int) : run E_cbor_Map A_cbor_Map (loopAt 2 (Tryd.f33.body.getD .skip)) (layC cd [(1, .f (.v (.rs 6))), (2, .f (.v (.ref (.rs 5)))), (6, .f (.own 7)), (8, .f (.v (.int .i64)))] [] (y0, y1, y2, y3, ())) (roundK cd [(1, .f (.v (.rs 6))), (2, .f (.v (.ref (.rs 5)))), (6, .f (.own 7)), (8, .f (.v (.int .i64)))] [] [(.ret, [(4, .f (.own 1)), (5, .f (.v (.int .i64)))]), (.exit 2, [(1, .f (.v (.rs 6))), (2, .f (.v (.ref (.rs 5)))), (6, .f (.own 7))])]) = cbor_Map_L2b y0 y1 y2 y3 := by kernel_rfl
theorem cbor_Map_L4_eq (y0 : (List (List ApiItem))) (y1 : (List (BitVec 64))) (y2 : (List (ApiItem))) (y3 : (List (Int))) (y4 : Int) (y5 : Int) : run E_cbor_Map A_cbor_Map (loopAt 4 (Tryd.f33.body.getD .skip)) (layC cd [(1, .f (.v (.rs 6))), (2, .f (.v (.ref (.rs 5)))), (10, .f (.own 1)), (66, .f (.own 7)), (67, .f (.v (.int .i64))), (68, .f (.v (.int .i64)))] [] (y0, y1, y2, y3, y4, y5, ())) (roundK cd [(1, .f (.v (.rs 6))), (2, .f (.v (.ref (.rs 5)))), (10, .f (.own 1)), (66, .f (.own 7)), (67, .f (.v (.int .i64))), (68, .f (.v (.int .i64)))] [] [(.exit 4, [(10, .f (.own 1))])]) = cbor_Map_L4b y0 y1 y2 y3 y4 y5 := by kernel_rfl
theorem cbor_Map_eq (x : tySs T S_cbor_Map.ps) : run E_cbor_Map A_cbor_Map (Tryd.f33.body.getD .skip) (enterT E_cbor_Map.C S_cbor_Map.ps x) (retK E_cbor_Map Tryd.f33.results.toList S_cbor_Map.ps S_cbor_Map.rs) = S_cbor_Map.fn x := by kernel_rfl
theorem cbor_Map_env : EnvOk Tryd.prog E_cbor_Map := envOk (E := E_cbor_Map) cd_ok tys fl_ok fun f ds S h => by
    dsimp only [E_cbor_Map] at h
    split at h
    · cases h; exact cbor_Uint_ok
    · split at h
      · cases h; exact slices_SortFunc_int_int_ok
      · cases h
    · cases h; exact cbor_faulty_ok
    · cases h; exact cbor_checked_ok
    · cases h
theorem cbor_Map_L0_ok : LoopOk Tryd.prog E_cbor_Map Tryd.f33.ntmps (kqOf S_cbor_Map.ps 0) (loopAt 0 (Tryd.f33.body.getD .skip)) ⟨[(1, .f (.v (.rs 6))), (2, .f (.v (.ref (.rs 5)))), (6, .f (.own 7)), (22, .f (.v (.int .i64))), (23, .f (.v (.int .i64)))], [(.exit 0, [(1, .f (.v (.rs 6))), (2, .f (.v (.ref (.rs 5)))), (6, .f (.own 7))])], cbor_Map_L0, []⟩ :=
  loop_ok (A := A_cbor_Map) (done := []) (c0 := (Tryd.f33.body.getD .skip)) hmix cbor_Map_env done_nil rounds (by kernel_rfl) (by kernel_rfl) (fun x => cbor_Map_L0_eq x.1 x.2.1 x.2.2.1 x.2.2.2.1 x.2.2.2.2.1) (fun _ => rfl)
theorem cbor_Map_L2_ok : LoopOk Tryd.prog E_cbor_Map Tryd.f33.ntmps (kqOf S_cbor_Map.ps 0) (loopAt 2 (Tryd.f33.body.getD .skip)) ⟨[(1, .f (.v (.rs 6))), (2, .f (.v (.ref (.rs 5)))), (6, .f (.own 7)), (8, .f (.v (.int .i64)))], [(.ret, [(4, .f (.own 1)), (5, .f (.v (.int .i64)))]), (.exit 2, [(1, .f (.v (.rs 6))), (2, .f (.v (.ref (.rs 5)))), (6, .f (.own 7))])], cbor_Map_L2, []⟩ :=
  loop_ok (A := A_cbor_Map) (done := [0]) (c0 := (Tryd.f33.body.getD .skip)) hmix cbor_Map_env (done_cons rfl cbor_Map_L0_ok done_nil) rounds (by kernel_rfl) (by kernel_rfl) (fun x => cbor_Map_L2_eq x.1 x.2.1 x.2.2.1 x.2.2.2.1) (fun _ => rfl)
theorem cbor_Map_L4_ok : LoopOk Tryd.prog E_cbor_Map Tryd.f33.ntmps (kqOf S_cbor_Map.ps 0) (loopAt 4 (Tryd.f33.body.getD .skip)) ⟨[(1, .f (.v (.rs 6))), (2, .f (.v (.ref (.rs 5)))), (10, .f (.own 1)), (66, .f (.own 7)), (67, .f (.v (.int .i64))), (68, .f (.v (.int .i64)))], [(.exit 4, [(10, .f (.own 1))])], cbor_Map_L4, []⟩ :=
  loop_ok (A := A_cbor_Map) (done := [0, 2]) (c0 := (Tryd.f33.body.getD .skip)) hmix cbor_Map_env (done_cons rfl cbor_Map_L0_ok (done_cons rfl cbor_Map_L2_ok done_nil)) rounds (by kernel_rfl) (by kernel_rfl) (fun x => cbor_Map_L4_eq x.1 x.2.1 x.2.2.1 x.2.2.2.1 x.2.2.2.2.1 x.2.2.2.2.2.1) (fun _ => rfl)
theorem cbor_Map_ok : SoundT Tryd.prog cd gdn 33 S_cbor_Map :=
  sound_fn (E := E_cbor_Map) (A := A_cbor_Map) (done := [0, 2, 4]) (c := (Tryd.f33.body.getD .skip)) (S := S_cbor_Map) (fn := Tryd.f33) hmix cbor_Map_env Tryd.func33 rfl (by kernel_rfl) (by kernel_rfl) (done_cons rfl cbor_Map_L0_ok (done_cons rfl cbor_Map_L2_ok (done_cons rfl cbor_Map_L4_ok done_nil))) (by kernel_rfl) (by kernel_rfl) cbor_Map_eq
def cbor_short (a0 : (BitVec 64)) : Option ((Unit) × (Int × Unit)) :=
 (bif (decide (a0.toNat < (24#64).toNat)) then (some ((), ((0 : Int), ())))
 else (bif (decide (a0.toNat < (256#64).toNat)) then (some ((), ((1 : Int), ())))
 else (bif (decide (a0.toNat < (65536#64).toNat)) then (some ((), ((2 : Int), ())))
 else (bif (decide (a0.toNat < (4294967296#64).toNat)) then (some ((), ((4 : Int), ())))
 else (some ((), ((8 : Int), ())))))))
def S_cbor_short : FSpec T := ⟨[.f (.v .u64)], [(.v (.int .i64))], fun x => cbor_short x.1⟩
def E_cbor_short : Env T := ⟨tab.find, cd, globs, flc, fun f ds => match f with
    | _ => none, fun f => match f with
    | _ => false⟩
def A_cbor_short : Loc2 T := ⟨fun id => match id with
    | _ => none, fun r => match r with
    | _ => none, fun r => match r with
    | _ => false⟩
theorem cbor_short_eq (x : tySs T S_cbor_short.ps) : run E_cbor_short A_cbor_short (Tryd.f72.body.getD .skip) (enterT E_cbor_short.C S_cbor_short.ps x) (retK E_cbor_short Tryd.f72.results.toList S_cbor_short.ps S_cbor_short.rs) = S_cbor_short.fn x := by kernel_rfl
theorem cbor_short_env : EnvOk Tryd.prog E_cbor_short := envOk (E := E_cbor_short) cd_ok tys fl_ok fun f ds S h => by cases h
theorem cbor_short_ok : SoundT Tryd.prog cd gdn 72 S_cbor_short :=
  sound_fn (E := E_cbor_short) (A := A_cbor_short) (done := []) (c := (Tryd.f72.body.getD .skip)) (S := S_cbor_short) (fn := Tryd.f72) hmix cbor_short_env Tryd.func72 rfl (by kernel_rfl) (by kernel_rfl) done_nil (by kernel_rfl) (by kernel_rfl) cbor_short_eq
def cbor_reader_head_L1b (y0 : ((List (CborFrame)) × Int × (List (UInt8)) × Int × Unit)) (y1 : Int) (y2 : (BitVec 64)) (y3 : Int) (y4 : (List (UInt8))) (y5 : Int) (y6 : Int) : Option ((((List (CborFrame)) × Int × (List (UInt8)) × Int × Unit) × Int × (BitVec 64) × Int × (List (UInt8)) × Int × Int × Unit) ⊕ (((List (CborFrame)) × Int × (List (UInt8)) × Int × Unit) × Int × (BitVec 64) × Int × Unit)) :=
 (bif (decide (y6 < y5)) then ((getI y4 y6).bind fun x10 => (some (Sum.inl ((y0.1, y0.2.1, y0.2.2.1, y0.2.2.2.1, ()), y1, ((y2 <<< 8) ||| (BitVec.setWidth 64 x10.toBitVec)), y3, y4, y5, (IntKind.wrap .i64 (y6 + (1 : Int))), ()))))
 else (some (Sum.inr ((y0.1, y0.2.1, y0.2.2.1, y0.2.2.2.1, ()), y1, y2, y3, ()))))
def cbor_reader_head_L1 (y : (((List (CborFrame)) × Int × (List (UInt8)) × Int × Unit) × Int × (BitVec 64) × Int × (List (UInt8)) × Int × Int × Unit)) : Option (((List (CborFrame)) × Int × (List (UInt8)) × Int × Unit) × Int × (BitVec 64) × Int × Unit) := iter (fun (y : (((List (CborFrame)) × Int × (List (UInt8)) × Int × Unit) × Int × (BitVec 64) × Int × (List (UInt8)) × Int × Int × Unit)) => cbor_reader_head_L1b y.1 y.2.1 y.2.2.1 y.2.2.2.1 y.2.2.2.2.1 y.2.2.2.2.2.1 y.2.2.2.2.2.2.1) rounds y
def cbor_reader_head (a0 : ((List (CborFrame)) × Int × (List (UInt8)) × Int × Unit)) : Option ((((List (CborFrame)) × Int × (List (UInt8)) × Int × Unit) × Unit) × (Int × (BitVec 64) × Int × Unit)) :=
 (bif (decide (((a0.2.2.1).length : Int) ≤ a0.2.2.2.1)) then (some (((a0.1, a0.2.1, a0.2.2.1, a0.2.2.2.1, ()), ()), ((0 : Int), 0#64, (1 : Int), ())))
 else ((getI a0.2.2.1 a0.2.2.2.1).bind fun x1 => ((bif (decide (x1.toBitVec = (244 : UInt8).toBitVec)) then (bif (decide (x1.toBitVec = (244 : UInt8).toBitVec)) then (let v2 : BitVec 64 := (BitVec.setWidth 64 (UInt8.ofBitVec (x1.toBitVec - (244 : UInt8).toBitVec)).toBitVec)
 (((some (((a0.1, a0.2.1, a0.2.2.1, (IntKind.wrap .i64 (a0.2.2.2.1 + (1 : Int))), ()), ()), ((7 : Int), v2, (0 : Int), ())))).bind fun q => some (Sum.inr q)))
 else (bif (decide (x1.toBitVec = (246 : UInt8).toBitVec)) then (((some (((a0.1, a0.2.1, a0.2.2.1, (IntKind.wrap .i64 (a0.2.2.2.1 + (1 : Int))), ()), ()), ((8 : Int), 0#64, (0 : Int), ())))).bind fun q => some (Sum.inr q))
 else (some (Sum.inl ((a0.1, a0.2.1, a0.2.2.1, (IntKind.wrap .i64 (a0.2.2.2.1 + (1 : Int))), ()), 0#64, x1, ())))))
 else (bif (decide (x1.toBitVec = (245 : UInt8).toBitVec)) then (let v3 : BitVec 64 := (BitVec.setWidth 64 (UInt8.ofBitVec (x1.toBitVec - (244 : UInt8).toBitVec)).toBitVec)
 (((some (((a0.1, a0.2.1, a0.2.2.1, (IntKind.wrap .i64 (a0.2.2.2.1 + (1 : Int))), ()), ()), ((7 : Int), v3, (0 : Int), ())))).bind fun q => some (Sum.inr q)))
 else (bif (decide (x1.toBitVec = (246 : UInt8).toBitVec)) then (((some (((a0.1, a0.2.1, a0.2.2.1, (IntKind.wrap .i64 (a0.2.2.2.1 + (1 : Int))), ()), ()), ((8 : Int), 0#64, (0 : Int), ())))).bind fun q => some (Sum.inr q))
 else (some (Sum.inl ((a0.1, a0.2.1, a0.2.2.1, (IntKind.wrap .i64 (a0.2.2.2.1 + (1 : Int))), ()), 0#64, x1, ())))))).bind (Sum.elim (fun (j4 : (((List (CborFrame)) × Int × (List (UInt8)) × Int × Unit) × (BitVec 64) × UInt8 × Unit)) => (let v5 : UInt8 := (UInt8.ofBitVec (j4.2.2.1.toBitVec &&& (31 : UInt8).toBitVec))
 (bif (decide ((5 : UInt8).toBitVec.toNat < (UInt8.ofBitVec (j4.2.2.1.toBitVec >>> 5)).toBitVec.toNat)) then (some (((j4.1.1, j4.1.2.1, j4.1.2.2.1, j4.1.2.2.2.1, ()), ()), ((0 : Int), 0#64, (2 : Int), ())))
 else (bif (decide ((27 : UInt8).toBitVec.toNat < v5.toBitVec.toNat)) then (some (((j4.1.1, j4.1.2.1, j4.1.2.2.1, j4.1.2.2.2.1, ()), ()), ((0 : Int), 0#64, (2 : Int), ())))
 else (let v6 : Int := ((UInt8.ofBitVec (j4.2.2.1.toBitVec >>> 5)).toBitVec.toNat : Int)
 (bif (decide (v5.toBitVec.toNat < (24 : UInt8).toBitVec.toNat)) then (some (((j4.1.1, j4.1.2.1, j4.1.2.2.1, j4.1.2.2.2.1, ()), ()), ((IntKind.wrap .i64 ((1 : Int) + v6)), (BitVec.setWidth 64 v5.toBitVec), (0 : Int), ())))
 else (let v7 : Int := (IntKind.wrap .i64 ((1 : Int) * 2 ^ (min (UInt8.ofBitVec (v5.toBitVec - (24 : UInt8).toBitVec)).toNat (IntKind.bits .i64))))
 (let v8 : Int := (IntKind.wrap .i64 (((j4.1.2.2.1).length : Int) - j4.1.2.2.2.1))
 (bif (decide (v8 < v7)) then (some (((j4.1.1, j4.1.2.1, j4.1.2.2.1, j4.1.2.2.2.1, ()), ()), ((0 : Int), 0#64, (1 : Int), ())))
 else (bif (decide ((0 : Int) ≤ (IntKind.wrap .i64 (j4.1.2.2.2.1 + v7))) && decide ((IntKind.wrap .i64 (j4.1.2.2.2.1 + v7)) ≤ ((j4.1.2.2.1).length : Int))) then (bif (decide ((0 : Int) ≤ j4.1.2.2.2.1) && decide (j4.1.2.2.2.1 ≤ (((IntKind.wrap .i64 (j4.1.2.2.2.1 + v7))).toNat : Int))) then (let v9 : List (UInt8) := (List.drop (j4.1.2.2.2.1).toNat (List.take ((IntKind.wrap .i64 (j4.1.2.2.2.1 + v7))).toNat j4.1.2.2.1))
 ((cbor_reader_head_L1 ((j4.1.1, j4.1.2.1, j4.1.2.2.1, j4.1.2.2.2.1, ()), (IntKind.wrap .i64 ((1 : Int) + v6)), j4.2.1, v7, v9, ((v9).length : Int), (0 : Int), ())).bind (fun (z11 : (((List (CborFrame)) × Int × (List (UInt8)) × Int × Unit) × Int × (BitVec 64) × Int × Unit)) => ((cbor_short z11.2.2.1).bind fun r12 => (bif (decide (r12.2.1 < z11.2.2.2.1)) then (some (((z11.1.1, z11.1.2.1, z11.1.2.2.1, (IntKind.wrap .i64 (z11.1.2.2.2.1 + z11.2.2.2.1)), ()), ()), ((0 : Int), 0#64, (2 : Int), ())))
 else (some (((z11.1.1, z11.1.2.1, z11.1.2.2.1, (IntKind.wrap .i64 (z11.1.2.2.2.1 + z11.2.2.2.1)), ()), ()), (z11.2.1, z11.2.2.1, (0 : Int), ()))))))))
 else none)
 else none)))))))))) some))))
def S_cbor_reader_head : FSpec T := ⟨[.ptr [(.own 2), (.v (.int .i64)), (.v (.rs 0)), (.v (.int .i64))]], [(.v (.int .i64)), (.v .u64), (.v (.int .i64))], fun x => cbor_reader_head x.1⟩
def E_cbor_reader_head : Env T := ⟨tab.find, cd, globs, flc, fun f ds => match f with
    | 72 => some S_cbor_short
    | _ => none, fun f => match f with
    | 72 => true
    | _ => false⟩
def A_cbor_reader_head : Loc2 T := ⟨fun id => match id with
    | 1 => some ⟨[(0, .ptr [(.own 2), (.v (.int .i64)), (.v (.rs 0)), (.v (.int .i64))]), (2, .f (.v (.int .i64))), (3, .f (.v .u64)), (8, .f (.v (.int .i64))), (94, .f (.v (.rs 0))), (95, .f (.v (.int .i64))), (96, .f (.v (.int .i64)))], [(.exit 1, [(0, .ptr [(.own 2), (.v (.int .i64)), (.v (.rs 0)), (.v (.int .i64))]), (2, .f (.v (.int .i64))), (3, .f (.v .u64)), (8, .f (.v (.int .i64)))])], cbor_reader_head_L1, []⟩
    | _ => none, fun r => match r with
    | 11 => some ([(0, .ptr [(.own 2), (.v (.int .i64)), (.v (.rs 0)), (.v (.int .i64))]), (3, .f (.v .u64)), (5, .f (.v .u8))], false)
    | _ => none, fun r => match r with
    | _ => false⟩
theorem cbor_reader_head_L1_eq (y0 : ((List (CborFrame)) × Int × (List (UInt8)) × Int × Unit)) (y1 : Int) (y2 : (BitVec 64)) (y3 : Int) (y4 : (List (UInt8))) (y5 : Int) (y6 : Int) : run E_cbor_reader_head A_cbor_reader_head (loopAt 1 (Tryd.f59.body.getD .skip)) (layC cd [(0, .ptr [(.own 2), (.v (.int .i64)), (.v (.rs 0)), (.v (.int .i64))]), (2, .f (.v (.int .i64))), (3, .f (.v .u64)), (8, .f (.v (.int .i64))), (94, .f (.v (.rs 0))), (95, .f (.v (.int .i64))), (96, .f (.v (.int .i64)))] [] (y0, y1, y2, y3, y4, y5, y6, ())) (roundK cd [(0, .ptr [(.own 2), (.v (.int .i64)), (.v (.rs 0)), (.v (.int .i64))]), (2, .f (.v (.int .i64))), (3, .f (.v .u64)), (8, .f (.v (.int .i64))), (94, .f (.v (.rs 0))), (95, .f (.v (.int .i64))), (96, .f (.v (.int .i64)))] [] [(.exit 1, [(0, .ptr [(.own 2), (.v (.int .i64)), (.v (.rs 0)), (.v (.int .i64))]), (2, .f (.v (.int .i64))), (3, .f (.v .u64)), (8, .f (.v (.int .i64)))])]) = cbor_reader_head_L1b y0 y1 y2 y3 y4 y5 y6 := by kernel_rfl
theorem cbor_reader_head_eq (x : tySs T S_cbor_reader_head.ps) : run E_cbor_reader_head A_cbor_reader_head (Tryd.f59.body.getD .skip) (enterT E_cbor_reader_head.C S_cbor_reader_head.ps x) (retK E_cbor_reader_head Tryd.f59.results.toList S_cbor_reader_head.ps S_cbor_reader_head.rs) = S_cbor_reader_head.fn x := by kernel_rfl
theorem cbor_reader_head_env : EnvOk Tryd.prog E_cbor_reader_head := envOk (E := E_cbor_reader_head) cd_ok tys fl_ok fun f ds S h => by
    dsimp only [E_cbor_reader_head] at h
    split at h
    · cases h; exact cbor_short_ok
    · cases h
theorem cbor_reader_head_L1_ok : LoopOk Tryd.prog E_cbor_reader_head Tryd.f59.ntmps (kqOf S_cbor_reader_head.ps 0) (loopAt 1 (Tryd.f59.body.getD .skip)) ⟨[(0, .ptr [(.own 2), (.v (.int .i64)), (.v (.rs 0)), (.v (.int .i64))]), (2, .f (.v (.int .i64))), (3, .f (.v .u64)), (8, .f (.v (.int .i64))), (94, .f (.v (.rs 0))), (95, .f (.v (.int .i64))), (96, .f (.v (.int .i64)))], [(.exit 1, [(0, .ptr [(.own 2), (.v (.int .i64)), (.v (.rs 0)), (.v (.int .i64))]), (2, .f (.v (.int .i64))), (3, .f (.v .u64)), (8, .f (.v (.int .i64)))])], cbor_reader_head_L1, []⟩ :=
  loop_ok (A := A_cbor_reader_head) (done := []) (c0 := (Tryd.f59.body.getD .skip)) hmix cbor_reader_head_env done_nil rounds (by kernel_rfl) (by kernel_rfl) (fun x => cbor_reader_head_L1_eq x.1 x.2.1 x.2.2.1 x.2.2.2.1 x.2.2.2.2.1 x.2.2.2.2.2.1 x.2.2.2.2.2.2.1) (fun _ => rfl)
theorem cbor_reader_head_ok : SoundT Tryd.prog cd gdn 59 S_cbor_reader_head :=
  sound_fn (E := E_cbor_reader_head) (A := A_cbor_reader_head) (done := [1]) (c := (Tryd.f59.body.getD .skip)) (S := S_cbor_reader_head) (fn := Tryd.f59) hmix cbor_reader_head_env Tryd.func59 rfl (by kernel_rfl) (by kernel_rfl) (done_cons rfl cbor_reader_head_L1_ok done_nil) (by kernel_rfl) (by kernel_rfl) cbor_reader_head_eq
def cbor_walk_step_1_L0b (y0 : ((List (CborFrame)) × Int × (List (UInt8)) × Int × Unit)) (y1 : Int) : Option ((((List (CborFrame)) × Int × (List (UInt8)) × Int × Unit) × Int × Unit) ⊕ (((List (CborFrame)) × Int × (List (UInt8)) × Int × Unit) × Unit)) :=
 (bif (decide ((0 : Int) < y1)) then (bif (decide ((0 : Int) ≤ (IntKind.wrap .i64 (y1 - (1 : Int)))) && decide ((IntKind.wrap .i64 (y1 - (1 : Int))) < ((y0.1).length : Int))) then (((y0.1)[((IntKind.wrap .i64 (y1 - (1 : Int)))).toNat]?).bind fun x10 => (bif (decide (x10.left = (0 : Int))) then (bif (decide ((0 : Int) ≤ (IntKind.wrap .i64 (y1 - (1 : Int)))) && decide ((IntKind.wrap .i64 (y1 - (1 : Int))) ≤ ((y0.1).length : Int))) then (bif decide (((IntKind.wrap .i64 (y1 - (1 : Int)))).toNat ≤ (y0.1).length) then (some (Sum.inl (((List.take ((IntKind.wrap .i64 (y1 - (1 : Int)))).toNat y0.1), y0.2.1, y0.2.2.1, y0.2.2.2.1, ()), (IntKind.wrap .i64 (y1 - (1 : Int))), ())))
 else none)
 else none)
 else (some (Sum.inr ((y0.1, y0.2.1, y0.2.2.1, y0.2.2.2.1, ()), ())))))
 else none)
 else (some (Sum.inr ((y0.1, y0.2.1, y0.2.2.1, y0.2.2.2.1, ()), ()))))
def cbor_walk_step_1_L0 (y : (((List (CborFrame)) × Int × (List (UInt8)) × Int × Unit) × Int × Unit)) : Option (((List (CborFrame)) × Int × (List (UInt8)) × Int × Unit) × Unit) := iter (fun (y : (((List (CborFrame)) × Int × (List (UInt8)) × Int × Unit) × Int × Unit)) => cbor_walk_step_1_L0b y.1 y.2.1) rounds y
def cbor_walk_step_1 (a0 : ((List (CborFrame)) × Int × (List (UInt8)) × Int × Unit)) (a1 : ApiItem) : Option ((((List (CborFrame)) × Int × (List (UInt8)) × Int × Unit) × Unit) × (Unit)) :=
 ((bif (decide ((0 : Int) < ((a0.1).length : Int))) then (bif (decide ((0 : Int) ≤ (IntKind.wrap .i64 (((a0.1).length : Int) - (1 : Int)))) && decide ((IntKind.wrap .i64 (((a0.1).length : Int) - (1 : Int))) < ((a0.1).length : Int))) then (((a0.1)[((IntKind.wrap .i64 (((a0.1).length : Int) - (1 : Int)))).toNat]?).bind fun x1 => (bif (decide ((0 : Int) ≤ (IntKind.wrap .i64 (((a0.1).length : Int) - (1 : Int)))) && decide ((IntKind.wrap .i64 (((a0.1).length : Int) - (1 : Int))) < ((a0.1).length : Int))) then (((a0.1)[((IntKind.wrap .i64 (((a0.1).length : Int) - (1 : Int)))).toNat]?).bind fun x2 => (let v3 : List (CborFrame) := (List.set a0.1 ((IntKind.wrap .i64 (((a0.1).length : Int) - (1 : Int)))).toNat (⟨x2.pairs, (IntKind.wrap .i64 (x1.left - (1 : Int))), x2.last_⟩ : CborFrame))
 (some ((v3, (IntKind.wrap .i64 (a0.2.1 + (1 : Int))), a0.2.2.1, a0.2.2.2.1, ()), (a1, ()), ()))))
 else none))
 else none)
 else (some ((a0.1, (IntKind.wrap .i64 (a0.2.1 + (1 : Int))), a0.2.2.1, a0.2.2.2.1, ()), (a1, ()), ()))).bind (fun (j4 : (((List (CborFrame)) × Int × (List (UInt8)) × Int × Unit) × (ApiItem × Unit) × Unit)) => ((bif (decide (j4.2.1.1.kind = (5 : Int))) then (bif (decide ((0#64).toNat < j4.2.1.1.number.toNat)) then (let v5 : List (CborFrame) := ([(⟨false, (IntKind.wrap .i64 (j4.2.1.1.number.toNat : Int)), []⟩ : CborFrame)] : List (CborFrame))
 (bif small ((j4.1.1).length + (v5 : List (CborFrame)).length) 40 then (some (((j4.1.1 ++ v5), j4.1.2.1, j4.1.2.2.1, j4.1.2.2.2.1, ()), (j4.2.1.1, ()), ()))
 else none))
 else (some ((j4.1.1, j4.1.2.1, j4.1.2.2.1, j4.1.2.2.2.1, ()), (j4.2.1.1, ()), ())))
 else (some ((j4.1.1, j4.1.2.1, j4.1.2.2.1, j4.1.2.2.2.1, ()), (j4.2.1.1, ()), ()))).bind (fun (j6 : (((List (CborFrame)) × Int × (List (UInt8)) × Int × Unit) × (ApiItem × Unit) × Unit)) => ((bif (decide (j6.2.1.1.kind = (6 : Int))) then (bif (decide ((0#64).toNat < j6.2.1.1.number.toNat)) then (let v7 : Int := (IntKind.wrap .i64 ((2 : Int) * (IntKind.wrap .i64 (j6.2.1.1.number.toNat : Int))))
 (bif small ((j6.1.1).length + (([(⟨true, v7, []⟩ : CborFrame)] : List (CborFrame)) : List (CborFrame)).length) 40 then (let v8 : List (CborFrame) := (j6.1.1 ++ ([(⟨true, v7, []⟩ : CborFrame)] : List (CborFrame)))
 (some ((v8, j6.1.2.1, j6.1.2.2.1, j6.1.2.2.2.1, ()), ())))
 else none))
 else (some ((j6.1.1, j6.1.2.1, j6.1.2.2.1, j6.1.2.2.2.1, ()), ())))
 else (some ((j6.1.1, j6.1.2.1, j6.1.2.2.1, j6.1.2.2.2.1, ()), ()))).bind (fun (j9 : (((List (CborFrame)) × Int × (List (UInt8)) × Int × Unit) × Unit)) => ((cbor_walk_step_1_L0 ((j9.1.1, j9.1.2.1, j9.1.2.2.1, j9.1.2.2.2.1, ()), ((j9.1.1).length : Int), ())).bind (fun (z11 : (((List (CborFrame)) × Int × (List (UInt8)) × Int × Unit) × Unit)) => (some (((z11.1.1, z11.1.2.1, z11.1.2.2.1, z11.1.2.2.2.1, ()), ()), ()))))))))))
def S_cbor_walk_step_1 : FSpec T := ⟨[.ptr [(.own 2), (.v (.int .i64)), (.v (.rs 0)), (.v (.int .i64))], .f (.v (.agg 1))], [], fun x => cbor_walk_step_1 x.1 x.2.1⟩
def E_cbor_walk_step_1 : Env T := ⟨tab.find, cd, globs, flc, fun f ds => match f with
    | _ => none, fun f => match f with
    | _ => false⟩
def A_cbor_walk_step_1 : Loc2 T := ⟨fun id => match id with
    | 0 => some ⟨[(0, .ptr [(.own 2), (.v (.int .i64)), (.v (.rs 0)), (.v (.int .i64))]), (5, .f (.v (.int .i64)))], [(.exit 0, [(0, .ptr [(.own 2), (.v (.int .i64)), (.v (.rs 0)), (.v (.int .i64))])])], cbor_walk_step_1_L0, []⟩
    | _ => none, fun r => match r with
    | 5 => some ([(0, .ptr [(.own 2), (.v (.int .i64)), (.v (.rs 0)), (.v (.int .i64))]), (3, .ptr [(.v (.agg 1))])], true)
    | 7 => some ([(0, .ptr [(.own 2), (.v (.int .i64)), (.v (.rs 0)), (.v (.int .i64))]), (3, .ptr [(.v (.agg 1))])], true)
    | 9 => some ([(0, .ptr [(.own 2), (.v (.int .i64)), (.v (.rs 0)), (.v (.int .i64))])], true)
    | _ => none, fun r => match r with
    | 6 => true
    | 8 => true
    | _ => false⟩
theorem cbor_walk_step_1_L0_eq (y0 : ((List (CborFrame)) × Int × (List (UInt8)) × Int × Unit)) (y1 : Int) : run E_cbor_walk_step_1 A_cbor_walk_step_1 (loopAt 0 (Tryd.f70.body.getD .skip)) (layC cd [(0, .ptr [(.own 2), (.v (.int .i64)), (.v (.rs 0)), (.v (.int .i64))]), (5, .f (.v (.int .i64)))] [] (y0, y1, ())) (roundK cd [(0, .ptr [(.own 2), (.v (.int .i64)), (.v (.rs 0)), (.v (.int .i64))]), (5, .f (.v (.int .i64)))] [] [(.exit 0, [(0, .ptr [(.own 2), (.v (.int .i64)), (.v (.rs 0)), (.v (.int .i64))])])]) = cbor_walk_step_1_L0b y0 y1 := by kernel_rfl
theorem cbor_walk_step_1_eq (x : tySs T S_cbor_walk_step_1.ps) : run E_cbor_walk_step_1 A_cbor_walk_step_1 (Tryd.f70.body.getD .skip) (enterT E_cbor_walk_step_1.C S_cbor_walk_step_1.ps x) (retK E_cbor_walk_step_1 Tryd.f70.results.toList S_cbor_walk_step_1.ps S_cbor_walk_step_1.rs) = S_cbor_walk_step_1.fn x := by kernel_rfl
theorem cbor_walk_step_1_env : EnvOk Tryd.prog E_cbor_walk_step_1 := envOk (E := E_cbor_walk_step_1) cd_ok tys fl_ok fun f ds S h => by cases h
theorem cbor_walk_step_1_L0_ok : LoopOk Tryd.prog E_cbor_walk_step_1 Tryd.f70.ntmps (kqOf S_cbor_walk_step_1.ps 0) (loopAt 0 (Tryd.f70.body.getD .skip)) ⟨[(0, .ptr [(.own 2), (.v (.int .i64)), (.v (.rs 0)), (.v (.int .i64))]), (5, .f (.v (.int .i64)))], [(.exit 0, [(0, .ptr [(.own 2), (.v (.int .i64)), (.v (.rs 0)), (.v (.int .i64))])])], cbor_walk_step_1_L0, []⟩ :=
  loop_ok (A := A_cbor_walk_step_1) (done := []) (c0 := (Tryd.f70.body.getD .skip)) hmix cbor_walk_step_1_env done_nil rounds (by kernel_rfl) (by kernel_rfl) (fun x => cbor_walk_step_1_L0_eq x.1 x.2.1) (fun _ => rfl)
theorem cbor_walk_step_1_ok : SoundT Tryd.prog cd gdn 70 S_cbor_walk_step_1 :=
  sound_fn (E := E_cbor_walk_step_1) (A := A_cbor_walk_step_1) (done := [0]) (c := (Tryd.f70.body.getD .skip)) (S := S_cbor_walk_step_1) (fn := Tryd.f70) hmix cbor_walk_step_1_env Tryd.func70 rfl (by kernel_rfl) (by kernel_rfl) (done_cons rfl cbor_walk_step_1_L0_ok done_nil) (by kernel_rfl) (by kernel_rfl) cbor_walk_step_1_eq
def cbor_walk_accept_1 (a0 : ((List (CborFrame)) × Int × (List (UInt8)) × Int × Unit)) (a1 : ApiItem) : Option ((((List (CborFrame)) × Int × (List (UInt8)) × Int × Unit) × Unit) × (Int × Unit)) :=
 (bif (decide (a1.kind = (4 : Int))) then ((utf8_ValidString a1.data).bind fun r1 => (bif (!r1.2.1) then (some (((a0.1, a0.2.1, a0.2.2.1, a0.2.2.2.1, ()), ()), ((6 : Int), ())))
 else ((cbor_walk_atKey (⟨a0.1, a0.2.1⟩ : CborWalk)).bind fun r2 => (bif r2.2.1 then (bif (decide ((0 : Int) ≤ (IntKind.wrap .i64 (((a0.1).length : Int) - (1 : Int)))) && decide ((IntKind.wrap .i64 (((a0.1).length : Int) - (1 : Int))) < ((a0.1).length : Int))) then ((cbor_appendItem [] a1).bind fun r3 => (((a0.1)[((IntKind.wrap .i64 (((a0.1).length : Int) - (1 : Int)))).toNat]?).bind fun x4 => (bif (!(x4.last_).isEmpty) then (((a0.1)[((IntKind.wrap .i64 (((a0.1).length : Int) - (1 : Int)))).toNat]?).bind fun x5 => ((cbor_smaller x5.last_ r3.2.1).bind fun r6 => (bif (!r6.2.1) then (some (((a0.1, a0.2.1, a0.2.2.1, a0.2.2.2.1, ()), ()), ((7 : Int), ())))
 else (((a0.1)[((IntKind.wrap .i64 (((a0.1).length : Int) - (1 : Int)))).toNat]?).bind fun x7 => (bif (r3.2.1).isEmpty then none
 else (let v8 : List (CborFrame) := (List.set a0.1 ((IntKind.wrap .i64 (((a0.1).length : Int) - (1 : Int)))).toNat (⟨x7.pairs, x7.left, r3.2.1⟩ : CborFrame))
 ((cbor_walk_step_1 (v8, a0.2.1, a0.2.2.1, a0.2.2.2.1, ()) a1).bind fun r9 => (some (((r9.1.1.1, r9.1.1.2.1, r9.1.1.2.2.1, r9.1.1.2.2.2.1, ()), ()), ((0 : Int), ()))))))))))
 else (((a0.1)[((IntKind.wrap .i64 (((a0.1).length : Int) - (1 : Int)))).toNat]?).bind fun x10 => (bif (r3.2.1).isEmpty then none
 else (let v11 : List (CborFrame) := (List.set a0.1 ((IntKind.wrap .i64 (((a0.1).length : Int) - (1 : Int)))).toNat (⟨x10.pairs, x10.left, r3.2.1⟩ : CborFrame))
 ((cbor_walk_step_1 (v11, a0.2.1, a0.2.2.1, a0.2.2.2.1, ()) a1).bind fun r12 => (some (((r12.1.1.1, r12.1.1.2.1, r12.1.1.2.2.1, r12.1.1.2.2.2.1, ()), ()), ((0 : Int), ()))))))))))
 else none)
 else ((cbor_walk_step_1 (a0.1, a0.2.1, a0.2.2.1, a0.2.2.2.1, ()) a1).bind fun r13 => (some (((r13.1.1.1, r13.1.1.2.1, r13.1.1.2.2.1, r13.1.1.2.2.2.1, ()), ()), ((0 : Int), ()))))))))
 else ((cbor_walk_atKey (⟨a0.1, a0.2.1⟩ : CborWalk)).bind fun r14 => (bif r14.2.1 then (bif (decide ((0 : Int) ≤ (IntKind.wrap .i64 (((a0.1).length : Int) - (1 : Int)))) && decide ((IntKind.wrap .i64 (((a0.1).length : Int) - (1 : Int))) < ((a0.1).length : Int))) then ((cbor_appendItem [] a1).bind fun r15 => (((a0.1)[((IntKind.wrap .i64 (((a0.1).length : Int) - (1 : Int)))).toNat]?).bind fun x16 => (bif (!(x16.last_).isEmpty) then (((a0.1)[((IntKind.wrap .i64 (((a0.1).length : Int) - (1 : Int)))).toNat]?).bind fun x17 => ((cbor_smaller x17.last_ r15.2.1).bind fun r18 => (bif (!r18.2.1) then (some (((a0.1, a0.2.1, a0.2.2.1, a0.2.2.2.1, ()), ()), ((7 : Int), ())))
 else (((a0.1)[((IntKind.wrap .i64 (((a0.1).length : Int) - (1 : Int)))).toNat]?).bind fun x19 => (bif (r15.2.1).isEmpty then none
 else (let v20 : List (CborFrame) := (List.set a0.1 ((IntKind.wrap .i64 (((a0.1).length : Int) - (1 : Int)))).toNat (⟨x19.pairs, x19.left, r15.2.1⟩ : CborFrame))
 ((cbor_walk_step_1 (v20, a0.2.1, a0.2.2.1, a0.2.2.2.1, ()) a1).bind fun r21 => (some (((r21.1.1.1, r21.1.1.2.1, r21.1.1.2.2.1, r21.1.1.2.2.2.1, ()), ()), ((0 : Int), ()))))))))))
 else (((a0.1)[((IntKind.wrap .i64 (((a0.1).length : Int) - (1 : Int)))).toNat]?).bind fun x22 => (bif (r15.2.1).isEmpty then none
 else (let v23 : List (CborFrame) := (List.set a0.1 ((IntKind.wrap .i64 (((a0.1).length : Int) - (1 : Int)))).toNat (⟨x22.pairs, x22.left, r15.2.1⟩ : CborFrame))
 ((cbor_walk_step_1 (v23, a0.2.1, a0.2.2.1, a0.2.2.2.1, ()) a1).bind fun r24 => (some (((r24.1.1.1, r24.1.1.2.1, r24.1.1.2.2.1, r24.1.1.2.2.2.1, ()), ()), ((0 : Int), ()))))))))))
 else none)
 else ((cbor_walk_step_1 (a0.1, a0.2.1, a0.2.2.1, a0.2.2.2.1, ()) a1).bind fun r25 => (some (((r25.1.1.1, r25.1.1.2.1, r25.1.1.2.2.1, r25.1.1.2.2.2.1, ()), ()), ((0 : Int), ())))))))
def S_cbor_walk_accept_1 : FSpec T := ⟨[.ptr [(.own 2), (.v (.int .i64)), (.v (.rs 0)), (.v (.int .i64))], .f (.v (.agg 1))], [(.v (.int .i64))], fun x => cbor_walk_accept_1 x.1 x.2.1⟩
def E_cbor_walk_accept_1 : Env T := ⟨tab.find, cd, globs, flc, fun f ds => match f with
    | 37 => some S_cbor_appendItem
    | 62 => some S_utf8_ValidString
    | 68 => some S_cbor_walk_atKey
    | 69 => some S_cbor_smaller
    | 70 => some S_cbor_walk_step_1
    | _ => none, fun f => match f with
    | 62 => true
    | 68 => true
    | 69 => true
    | _ => false⟩
def A_cbor_walk_accept_1 : Loc2 T := ⟨fun id => match id with
    | _ => none, fun r => match r with
    | _ => none, fun r => match r with
    | _ => false⟩
theorem cbor_walk_accept_1_eq (x : tySs T S_cbor_walk_accept_1.ps) : run E_cbor_walk_accept_1 A_cbor_walk_accept_1 (Tryd.f55.body.getD .skip) (enterT E_cbor_walk_accept_1.C S_cbor_walk_accept_1.ps x) (retK E_cbor_walk_accept_1 Tryd.f55.results.toList S_cbor_walk_accept_1.ps S_cbor_walk_accept_1.rs) = S_cbor_walk_accept_1.fn x := by kernel_rfl
theorem cbor_walk_accept_1_env : EnvOk Tryd.prog E_cbor_walk_accept_1 := envOk (E := E_cbor_walk_accept_1) cd_ok tys fl_ok fun f ds S h => by
    dsimp only [E_cbor_walk_accept_1] at h
    split at h
    · cases h; exact cbor_appendItem_ok
    · cases h; exact utf8_ValidString_ok
    · cases h; exact cbor_walk_atKey_ok
    · cases h; exact cbor_smaller_ok
    · cases h; exact cbor_walk_step_1_ok
    · cases h
theorem cbor_walk_accept_1_ok : SoundT Tryd.prog cd gdn 55 S_cbor_walk_accept_1 :=
  sound_fn (E := E_cbor_walk_accept_1) (A := A_cbor_walk_accept_1) (done := []) (c := (Tryd.f55.body.getD .skip)) (S := S_cbor_walk_accept_1) (fn := Tryd.f55) hmix cbor_walk_accept_1_env Tryd.func55 rfl (by kernel_rfl) (by kernel_rfl) done_nil (by kernel_rfl) (by kernel_rfl) cbor_walk_accept_1_eq
def cbor_reader_item (a0 : ((List (CborFrame)) × Int × (List (UInt8)) × Int × Unit)) : Option ((((List (CborFrame)) × Int × (List (UInt8)) × Int × Unit) × Unit) × (ApiItem × Int × Unit)) :=
 ((cbor_reader_head (a0.1, a0.2.1, a0.2.2.1, a0.2.2.2.1, ())).bind fun r1 => (bif (!decide (r1.2.2.2.1 = (0 : Int))) then (some (((r1.1.1.1, r1.1.1.2.1, r1.1.1.2.2.1, r1.1.1.2.2.2.1, ()), ()), ((⟨(0 : Int), 0#64, ([] : List UInt8)⟩ : ApiItem), r1.2.2.2.1, ())))
 else ((cbor_walk_admit (⟨r1.1.1.1, r1.1.1.2.1⟩ : CborWalk) r1.2.1).bind fun r2 => (bif (!decide (r2.2.1 = (0 : Int))) then (some (((r1.1.1.1, r1.1.1.2.1, r1.1.1.2.2.1, r1.1.1.2.2.2.1, ()), ()), ((⟨(0 : Int), 0#64, ([] : List UInt8)⟩ : ApiItem), r2.2.1, ())))
 else ((bif (decide (r1.2.1 = (5 : Int))) then (bif (decide (r1.2.1 = (5 : Int))) then (bif (decide ((512#64).toNat < r1.2.2.1.toNat)) then (((some (((r1.1.1.1, r1.1.1.2.1, r1.1.1.2.2.1, r1.1.1.2.2.2.1, ()), ()), ((⟨(0 : Int), 0#64, ([] : List UInt8)⟩ : ApiItem), (8 : Int), ())))).bind fun q => some (Sum.inr q))
 else (some (Sum.inl ((r1.1.1.1, r1.1.1.2.1, r1.1.1.2.2.1, r1.1.1.2.2.2.1, ()), ((⟨(0 : Int), 0#64, ([] : List UInt8)⟩ : ApiItem), ()), ((⟨r1.2.1, r1.2.2.1, ([] : List UInt8)⟩ : ApiItem), ()), ()))))
 else (bif (decide (r1.2.1 = (3 : Int))) then (bif (decide (r1.2.1 = (3 : Int))) then (bif (decide ((1024#64).toNat < r1.2.2.1.toNat)) then (((some (((r1.1.1.1, r1.1.1.2.1, r1.1.1.2.2.1, r1.1.1.2.2.2.1, ()), ()), ((⟨(0 : Int), 0#64, ([] : List UInt8)⟩ : ApiItem), (8 : Int), ())))).bind fun q => some (Sum.inr q))
 else (let v3 : Int := (IntKind.wrap .i64 (((r1.1.1.2.2.1).length : Int) - r1.1.1.2.2.2.1))
 (bif (decide (v3 < (IntKind.wrap .i64 (r1.2.2.1.toNat : Int)))) then (((some (((r1.1.1.1, r1.1.1.2.1, r1.1.1.2.2.1, r1.1.1.2.2.2.1, ()), ()), ((⟨(0 : Int), 0#64, ([] : List UInt8)⟩ : ApiItem), (1 : Int), ())))).bind fun q => some (Sum.inr q))
 else (let v4 : Int := (IntKind.wrap .i64 (r1.1.1.2.2.2.1 + (IntKind.wrap .i64 (r1.2.2.1.toNat : Int))))
 (bif (decide ((0 : Int) ≤ v4) && decide (v4 ≤ ((r1.1.1.2.2.1).length : Int))) then (bif (decide ((0 : Int) ≤ r1.1.1.2.2.2.1) && decide (r1.1.1.2.2.2.1 ≤ ((v4).toNat : Int))) then (let v5 : List (UInt8) := (List.drop (r1.1.1.2.2.2.1).toNat (List.take (v4).toNat r1.1.1.2.2.1))
 (let v6 : Int := (IntKind.wrap .i64 (r1.1.1.2.2.2.1 + (IntKind.wrap .i64 (r1.2.2.1.toNat : Int))))
 (some (Sum.inl ((r1.1.1.1, r1.1.1.2.1, r1.1.1.2.2.1, v6, ()), ((⟨(0 : Int), 0#64, ([] : List UInt8)⟩ : ApiItem), ()), ((⟨r1.2.1, 0#64, v5⟩ : ApiItem), ()), ())))))
 else none)
 else none)))))
 else (some (Sum.inl ((r1.1.1.1, r1.1.1.2.1, r1.1.1.2.2.1, r1.1.1.2.2.2.1, ()), ((⟨(0 : Int), 0#64, ([] : List UInt8)⟩ : ApiItem), ()), ((⟨r1.2.1, r1.2.2.1, ([] : List UInt8)⟩ : ApiItem), ()), ()))))
 else (bif (decide (r1.2.1 = (4 : Int))) then (bif (decide ((1024#64).toNat < r1.2.2.1.toNat)) then (((some (((r1.1.1.1, r1.1.1.2.1, r1.1.1.2.2.1, r1.1.1.2.2.2.1, ()), ()), ((⟨(0 : Int), 0#64, ([] : List UInt8)⟩ : ApiItem), (8 : Int), ())))).bind fun q => some (Sum.inr q))
 else (let v7 : Int := (IntKind.wrap .i64 (((r1.1.1.2.2.1).length : Int) - r1.1.1.2.2.2.1))
 (bif (decide (v7 < (IntKind.wrap .i64 (r1.2.2.1.toNat : Int)))) then (((some (((r1.1.1.1, r1.1.1.2.1, r1.1.1.2.2.1, r1.1.1.2.2.2.1, ()), ()), ((⟨(0 : Int), 0#64, ([] : List UInt8)⟩ : ApiItem), (1 : Int), ())))).bind fun q => some (Sum.inr q))
 else (let v8 : Int := (IntKind.wrap .i64 (r1.1.1.2.2.2.1 + (IntKind.wrap .i64 (r1.2.2.1.toNat : Int))))
 (bif (decide ((0 : Int) ≤ v8) && decide (v8 ≤ ((r1.1.1.2.2.1).length : Int))) then (bif (decide ((0 : Int) ≤ r1.1.1.2.2.2.1) && decide (r1.1.1.2.2.2.1 ≤ ((v8).toNat : Int))) then (let v9 : List (UInt8) := (List.drop (r1.1.1.2.2.2.1).toNat (List.take (v8).toNat r1.1.1.2.2.1))
 (let v10 : Int := (IntKind.wrap .i64 (r1.1.1.2.2.2.1 + (IntKind.wrap .i64 (r1.2.2.1.toNat : Int))))
 (some (Sum.inl ((r1.1.1.1, r1.1.1.2.1, r1.1.1.2.2.1, v10, ()), ((⟨(0 : Int), 0#64, ([] : List UInt8)⟩ : ApiItem), ()), ((⟨r1.2.1, 0#64, v9⟩ : ApiItem), ()), ())))))
 else none)
 else none)))))
 else (some (Sum.inl ((r1.1.1.1, r1.1.1.2.1, r1.1.1.2.2.1, r1.1.1.2.2.2.1, ()), ((⟨(0 : Int), 0#64, ([] : List UInt8)⟩ : ApiItem), ()), ((⟨r1.2.1, r1.2.2.1, ([] : List UInt8)⟩ : ApiItem), ()), ()))))))
 else (bif (decide (r1.2.1 = (6 : Int))) then (bif (decide ((512#64).toNat < r1.2.2.1.toNat)) then (((some (((r1.1.1.1, r1.1.1.2.1, r1.1.1.2.2.1, r1.1.1.2.2.2.1, ()), ()), ((⟨(0 : Int), 0#64, ([] : List UInt8)⟩ : ApiItem), (8 : Int), ())))).bind fun q => some (Sum.inr q))
 else (some (Sum.inl ((r1.1.1.1, r1.1.1.2.1, r1.1.1.2.2.1, r1.1.1.2.2.2.1, ()), ((⟨(0 : Int), 0#64, ([] : List UInt8)⟩ : ApiItem), ()), ((⟨r1.2.1, r1.2.2.1, ([] : List UInt8)⟩ : ApiItem), ()), ()))))
 else (bif (decide (r1.2.1 = (3 : Int))) then (bif (decide (r1.2.1 = (3 : Int))) then (bif (decide ((1024#64).toNat < r1.2.2.1.toNat)) then (((some (((r1.1.1.1, r1.1.1.2.1, r1.1.1.2.2.1, r1.1.1.2.2.2.1, ()), ()), ((⟨(0 : Int), 0#64, ([] : List UInt8)⟩ : ApiItem), (8 : Int), ())))).bind fun q => some (Sum.inr q))
 else (let v11 : Int := (IntKind.wrap .i64 (((r1.1.1.2.2.1).length : Int) - r1.1.1.2.2.2.1))
 (bif (decide (v11 < (IntKind.wrap .i64 (r1.2.2.1.toNat : Int)))) then (((some (((r1.1.1.1, r1.1.1.2.1, r1.1.1.2.2.1, r1.1.1.2.2.2.1, ()), ()), ((⟨(0 : Int), 0#64, ([] : List UInt8)⟩ : ApiItem), (1 : Int), ())))).bind fun q => some (Sum.inr q))
 else (let v12 : Int := (IntKind.wrap .i64 (r1.1.1.2.2.2.1 + (IntKind.wrap .i64 (r1.2.2.1.toNat : Int))))
 (bif (decide ((0 : Int) ≤ v12) && decide (v12 ≤ ((r1.1.1.2.2.1).length : Int))) then (bif (decide ((0 : Int) ≤ r1.1.1.2.2.2.1) && decide (r1.1.1.2.2.2.1 ≤ ((v12).toNat : Int))) then (let v13 : List (UInt8) := (List.drop (r1.1.1.2.2.2.1).toNat (List.take (v12).toNat r1.1.1.2.2.1))
 (let v14 : Int := (IntKind.wrap .i64 (r1.1.1.2.2.2.1 + (IntKind.wrap .i64 (r1.2.2.1.toNat : Int))))
 (some (Sum.inl ((r1.1.1.1, r1.1.1.2.1, r1.1.1.2.2.1, v14, ()), ((⟨(0 : Int), 0#64, ([] : List UInt8)⟩ : ApiItem), ()), ((⟨r1.2.1, 0#64, v13⟩ : ApiItem), ()), ())))))
 else none)
 else none)))))
 else (some (Sum.inl ((r1.1.1.1, r1.1.1.2.1, r1.1.1.2.2.1, r1.1.1.2.2.2.1, ()), ((⟨(0 : Int), 0#64, ([] : List UInt8)⟩ : ApiItem), ()), ((⟨r1.2.1, r1.2.2.1, ([] : List UInt8)⟩ : ApiItem), ()), ()))))
 else (bif (decide (r1.2.1 = (4 : Int))) then (bif (decide ((1024#64).toNat < r1.2.2.1.toNat)) then (((some (((r1.1.1.1, r1.1.1.2.1, r1.1.1.2.2.1, r1.1.1.2.2.2.1, ()), ()), ((⟨(0 : Int), 0#64, ([] : List UInt8)⟩ : ApiItem), (8 : Int), ())))).bind fun q => some (Sum.inr q))
 else (let v15 : Int := (IntKind.wrap .i64 (((r1.1.1.2.2.1).length : Int) - r1.1.1.2.2.2.1))
 (bif (decide (v15 < (IntKind.wrap .i64 (r1.2.2.1.toNat : Int)))) then (((some (((r1.1.1.1, r1.1.1.2.1, r1.1.1.2.2.1, r1.1.1.2.2.2.1, ()), ()), ((⟨(0 : Int), 0#64, ([] : List UInt8)⟩ : ApiItem), (1 : Int), ())))).bind fun q => some (Sum.inr q))
 else (let v16 : Int := (IntKind.wrap .i64 (r1.1.1.2.2.2.1 + (IntKind.wrap .i64 (r1.2.2.1.toNat : Int))))
 (bif (decide ((0 : Int) ≤ v16) && decide (v16 ≤ ((r1.1.1.2.2.1).length : Int))) then (bif (decide ((0 : Int) ≤ r1.1.1.2.2.2.1) && decide (r1.1.1.2.2.2.1 ≤ ((v16).toNat : Int))) then (let v17 : List (UInt8) := (List.drop (r1.1.1.2.2.2.1).toNat (List.take (v16).toNat r1.1.1.2.2.1))
 (let v18 : Int := (IntKind.wrap .i64 (r1.1.1.2.2.2.1 + (IntKind.wrap .i64 (r1.2.2.1.toNat : Int))))
 (some (Sum.inl ((r1.1.1.1, r1.1.1.2.1, r1.1.1.2.2.1, v18, ()), ((⟨(0 : Int), 0#64, ([] : List UInt8)⟩ : ApiItem), ()), ((⟨r1.2.1, 0#64, v17⟩ : ApiItem), ()), ())))))
 else none)
 else none)))))
 else (some (Sum.inl ((r1.1.1.1, r1.1.1.2.1, r1.1.1.2.2.1, r1.1.1.2.2.2.1, ()), ((⟨(0 : Int), 0#64, ([] : List UInt8)⟩ : ApiItem), ()), ((⟨r1.2.1, r1.2.2.1, ([] : List UInt8)⟩ : ApiItem), ()), ()))))))).bind (Sum.elim (fun (j19 : (((List (CborFrame)) × Int × (List (UInt8)) × Int × Unit) × (ApiItem × Unit) × (ApiItem × Unit) × Unit)) => ((cbor_walk_accept_1 (j19.1.1, j19.1.2.1, j19.1.2.2.1, j19.1.2.2.2.1, ()) j19.2.2.1.1).bind fun r20 => (bif (!decide (r20.2.1 = (0 : Int))) then (some (((r20.1.1.1, r20.1.1.2.1, r20.1.1.2.2.1, r20.1.1.2.2.2.1, ()), ()), ((⟨(0 : Int), 0#64, ([] : List UInt8)⟩ : ApiItem), r20.2.1, ())))
 else (some (((r20.1.1.1, r20.1.1.2.1, r20.1.1.2.2.1, r20.1.1.2.2.2.1, ()), ()), (j19.2.2.1.1, (0 : Int), ())))))) some))))))
def S_cbor_reader_item : FSpec T := ⟨[.ptr [(.own 2), (.v (.int .i64)), (.v (.rs 0)), (.v (.int .i64))]], [(.v (.agg 1)), (.v (.int .i64))], fun x => cbor_reader_item x.1⟩
def E_cbor_reader_item : Env T := ⟨tab.find, cd, globs, flc, fun f ds => match f with
    | 53 => some S_cbor_walk_admit
    | 55 => some S_cbor_walk_accept_1
    | 59 => some S_cbor_reader_head
    | _ => none, fun f => match f with
    | 53 => true
    | _ => false⟩
def A_cbor_reader_item : Loc2 T := ⟨fun id => match id with
    | _ => none, fun r => match r with
    | 21 => some ([(0, .ptr [(.own 2), (.v (.int .i64)), (.v (.rs 0)), (.v (.int .i64))]), (2, .ptr [(.v (.agg 1))]), (8, .ptr [(.v (.agg 1))])], false)
    | _ => none, fun r => match r with
    | 19 => true
    | _ => false⟩
theorem cbor_reader_item_eq (x : tySs T S_cbor_reader_item.ps) : run E_cbor_reader_item A_cbor_reader_item (Tryd.f43.body.getD .skip) (enterT E_cbor_reader_item.C S_cbor_reader_item.ps x) (retK E_cbor_reader_item Tryd.f43.results.toList S_cbor_reader_item.ps S_cbor_reader_item.rs) = S_cbor_reader_item.fn x := by kernel_rfl
theorem cbor_reader_item_env : EnvOk Tryd.prog E_cbor_reader_item := envOk (E := E_cbor_reader_item) cd_ok tys fl_ok fun f ds S h => by
    dsimp only [E_cbor_reader_item] at h
    split at h
    · cases h; exact cbor_walk_admit_ok
    · cases h; exact cbor_walk_accept_1_ok
    · cases h; exact cbor_reader_head_ok
    · cases h
theorem cbor_reader_item_ok : SoundT Tryd.prog cd gdn 43 S_cbor_reader_item :=
  sound_fn (E := E_cbor_reader_item) (A := A_cbor_reader_item) (done := []) (c := (Tryd.f43.body.getD .skip)) (S := S_cbor_reader_item) (fn := Tryd.f43) hmix cbor_reader_item_env Tryd.func43 rfl (by kernel_rfl) (by kernel_rfl) done_nil (by kernel_rfl) (by kernel_rfl) cbor_reader_item_eq
def cbor_Decode_L0b (y0 : (List (ApiItem))) (y1 : ((List (CborFrame)) × Int × (List (UInt8)) × Int × Unit)) : Option (((List (ApiItem)) × ((List (CborFrame)) × Int × (List (UInt8)) × Int × Unit) × Unit) ⊕ (((List (ApiItem)) × Int × Int × Unit) ⊕ ((List (ApiItem)) × ((List (CborFrame)) × Int × (List (UInt8)) × Int × Unit) × Unit))) :=
 ((cbor_walk_done (⟨y1.1, y1.2.1⟩ : CborWalk)).bind fun r1 => (bif (!r1.2.1) then ((cbor_reader_item (y1.1, y1.2.1, y1.2.2.1, y1.2.2.2.1, ())).bind fun r2 => (bif (!decide (r2.2.2.1 = (0 : Int))) then (some (Sum.inr (Sum.inl ([], (0 : Int), r2.2.2.1, ()))))
 else (bif small ((y0).length + (([r2.2.1] : List (ApiItem)) : List (ApiItem)).length) 32 then (some (Sum.inl ((y0 ++ ([r2.2.1] : List (ApiItem))), (r2.1.1.1, r2.1.1.2.1, r2.1.1.2.2.1, r2.1.1.2.2.2.1, ()), ())))
 else none)))
 else (some (Sum.inr (Sum.inr (y0, (y1.1, y1.2.1, y1.2.2.1, y1.2.2.2.1, ()), ()))))))
def cbor_Decode_L0 (y : ((List (ApiItem)) × ((List (CborFrame)) × Int × (List (UInt8)) × Int × Unit) × Unit)) : Option (((List (ApiItem)) × Int × Int × Unit) ⊕ ((List (ApiItem)) × ((List (CborFrame)) × Int × (List (UInt8)) × Int × Unit) × Unit)) := iter (fun (y : ((List (ApiItem)) × ((List (CborFrame)) × Int × (List (UInt8)) × Int × Unit) × Unit)) => cbor_Decode_L0b y.1 y.2.1) rounds y
def cbor_Decode (a0 : (List (UInt8))) : Option ((Unit) × ((List (ApiItem)) × Int × Int × Unit)) :=
 ((cbor_Decode_L0 ([], ([], (0 : Int), a0, (0 : Int), ()), ())).bind (Sum.elim (fun (z3 : ((List (ApiItem)) × Int × Int × Unit)) => (some ((), (z3.1, z3.2.1, z3.2.2.1, ())))) (fun (z4 : ((List (ApiItem)) × ((List (CborFrame)) × Int × (List (UInt8)) × Int × Unit) × Unit)) => (some ((), (z4.1, z4.2.1.2.2.2.1, (0 : Int), ()))))))
def S_cbor_Decode : FSpec T := ⟨[.f (.v (.rs 0))], [(.own 1), (.v (.int .i64)), (.v (.int .i64))], fun x => cbor_Decode x.1⟩
def E_cbor_Decode : Env T := ⟨tab.find, cd, globs, flc, fun f ds => match f with
    | 40 => some S_cbor_walk_done
    | 43 => some S_cbor_reader_item
    | _ => none, fun f => match f with
    | 40 => true
    | _ => false⟩
def A_cbor_Decode : Loc2 T := ⟨fun id => match id with
    | 0 => some ⟨[(2, .f (.own 1)), (5, .ptr [(.own 2), (.v (.int .i64)), (.v (.rs 0)), (.v (.int .i64))])], [(.ret, [(2, .f (.own 1)), (3, .f (.v (.int .i64))), (4, .f (.v (.int .i64)))]), (.exit 0, [(2, .f (.own 1)), (5, .ptr [(.own 2), (.v (.int .i64)), (.v (.rs 0)), (.v (.int .i64))])])], cbor_Decode_L0, []⟩
    | _ => none, fun r => match r with
    | _ => none, fun r => match r with
    | _ => false⟩
theorem cbor_Decode_L0_eq (y0 : (List (ApiItem))) (y1 : ((List (CborFrame)) × Int × (List (UInt8)) × Int × Unit)) : run E_cbor_Decode A_cbor_Decode (loopAt 0 (Tryd.f22.body.getD .skip)) (layC cd [(2, .f (.own 1)), (5, .ptr [(.own 2), (.v (.int .i64)), (.v (.rs 0)), (.v (.int .i64))])] [] (y0, y1, ())) (roundK cd [(2, .f (.own 1)), (5, .ptr [(.own 2), (.v (.int .i64)), (.v (.rs 0)), (.v (.int .i64))])] [] [(.ret, [(2, .f (.own 1)), (3, .f (.v (.int .i64))), (4, .f (.v (.int .i64)))]), (.exit 0, [(2, .f (.own 1)), (5, .ptr [(.own 2), (.v (.int .i64)), (.v (.rs 0)), (.v (.int .i64))])])]) = cbor_Decode_L0b y0 y1 := by kernel_rfl
theorem cbor_Decode_eq (x : tySs T S_cbor_Decode.ps) : run E_cbor_Decode A_cbor_Decode (Tryd.f22.body.getD .skip) (enterT E_cbor_Decode.C S_cbor_Decode.ps x) (retK E_cbor_Decode Tryd.f22.results.toList S_cbor_Decode.ps S_cbor_Decode.rs) = S_cbor_Decode.fn x := by kernel_rfl
theorem cbor_Decode_env : EnvOk Tryd.prog E_cbor_Decode := envOk (E := E_cbor_Decode) cd_ok tys fl_ok fun f ds S h => by
    dsimp only [E_cbor_Decode] at h
    split at h
    · cases h; exact cbor_walk_done_ok
    · cases h; exact cbor_reader_item_ok
    · cases h
theorem cbor_Decode_L0_ok : LoopOk Tryd.prog E_cbor_Decode Tryd.f22.ntmps (kqOf S_cbor_Decode.ps 0) (loopAt 0 (Tryd.f22.body.getD .skip)) ⟨[(2, .f (.own 1)), (5, .ptr [(.own 2), (.v (.int .i64)), (.v (.rs 0)), (.v (.int .i64))])], [(.ret, [(2, .f (.own 1)), (3, .f (.v (.int .i64))), (4, .f (.v (.int .i64)))]), (.exit 0, [(2, .f (.own 1)), (5, .ptr [(.own 2), (.v (.int .i64)), (.v (.rs 0)), (.v (.int .i64))])])], cbor_Decode_L0, []⟩ :=
  loop_ok (A := A_cbor_Decode) (done := []) (c0 := (Tryd.f22.body.getD .skip)) hmix cbor_Decode_env done_nil rounds (by kernel_rfl) (by kernel_rfl) (fun x => cbor_Decode_L0_eq x.1 x.2.1) (fun _ => rfl)
theorem cbor_Decode_ok : SoundT Tryd.prog cd gdn 22 S_cbor_Decode :=
  sound_fn (E := E_cbor_Decode) (A := A_cbor_Decode) (done := [0]) (c := (Tryd.f22.body.getD .skip)) (S := S_cbor_Decode) (fn := Tryd.f22) hmix cbor_Decode_env Tryd.func22 rfl (by kernel_rfl) (by kernel_rfl) (done_cons rfl cbor_Decode_L0_ok done_nil) (by kernel_rfl) (by kernel_rfl) cbor_Decode_eq
def passkeylaw1_awake : Option ((Unit) × (Bool × Unit)) :=
 (let v1 : List (ApiItem) := ([(⟨(1 : Int), 24#64, ([] : List UInt8)⟩ : ApiItem)] : List (ApiItem))
 ((cbor_Encode v1).bind fun r2 => ((cbor_Text ([97] : List UInt8)).bind fun r3 => ((cbor_Map ([1#64] : List (BitVec 64)) ([r3.2.1] : List (List ApiItem))).bind fun r4 => ((cbor_Encode r4.2.1).bind fun r5 => ((cbor_Decode ([(24 : UInt8), (23 : UInt8)] : List (UInt8))).bind fun r6 => (bif (decide (r2.2.2.1 = (0 : Int))) then (bif (decide (r4.2.2.1 = (0 : Int))) then (bif (decide (r5.2.2.1 = (0 : Int))) then (bif (decide (r2.2.1 = ([24, 24] : List UInt8))) then (bif (decide (r5.2.1 = ([161, 1, 97, 97] : List UInt8))) then (some ((), ((decide (r6.2.2.2.1 = (2 : Int))), ())))
 else (some ((), (false, ()))))
 else (some ((), (false, ()))))
 else (some ((), (false, ()))))
 else (some ((), (false, ()))))
 else (some ((), (false, ()))))))))))
def S_passkeylaw1_awake : FSpec T := ⟨[], [(.v .bool)], fun x => passkeylaw1_awake ⟩
def E_passkeylaw1_awake : Env T := ⟨tab.find, cd, globs, flc, fun f ds => match f with
    | 16 => some S_cbor_Encode
    | 22 => some S_cbor_Decode
    | 27 => some S_cbor_Text
    | 33 => some S_cbor_Map
    | _ => none, fun f => match f with
    | _ => false⟩
def A_passkeylaw1_awake : Loc2 T := ⟨fun id => match id with
    | _ => none, fun r => match r with
    | _ => none, fun r => match r with
    | _ => false⟩
theorem passkeylaw1_awake_eq (x : tySs T S_passkeylaw1_awake.ps) : run E_passkeylaw1_awake A_passkeylaw1_awake (Tryd.f15.body.getD .skip) (enterT E_passkeylaw1_awake.C S_passkeylaw1_awake.ps x) (retK E_passkeylaw1_awake Tryd.f15.results.toList S_passkeylaw1_awake.ps S_passkeylaw1_awake.rs) = S_passkeylaw1_awake.fn x := by kernel_rfl
theorem passkeylaw1_awake_env : EnvOk Tryd.prog E_passkeylaw1_awake := envOk (E := E_passkeylaw1_awake) cd_ok tys fl_ok fun f ds S h => by
    dsimp only [E_passkeylaw1_awake] at h
    split at h
    · cases h; exact cbor_Encode_ok
    · cases h; exact cbor_Decode_ok
    · cases h; exact cbor_Text_ok
    · cases h; exact cbor_Map_ok
    · cases h
theorem passkeylaw1_awake_ok : SoundT Tryd.prog cd gdn 15 S_passkeylaw1_awake :=
  sound_fn (E := E_passkeylaw1_awake) (A := A_passkeylaw1_awake) (done := []) (c := (Tryd.f15.body.getD .skip)) (S := S_passkeylaw1_awake) (fn := Tryd.f15) hmix passkeylaw1_awake_env Tryd.func15 rfl (by kernel_rfl) (by kernel_rfl) done_nil (by kernel_rfl) (by kernel_rfl) passkeylaw1_awake_eq
def passkeyref1_SameItems_L0b (y0 : (List (ApiItem))) (y1 : (List (ApiItem))) (y2 : Int) : Option (((List (ApiItem)) × (List (ApiItem)) × Int × Unit) ⊕ ((Bool × Unit) ⊕ (Unit))) :=
 (bif (decide (y2 < ((y0).length : Int))) then ((getI y0 y2).bind fun x1 => ((getI y1 y2).bind fun x2 => (let v3 : Bool := (!(decide (x1.kind = x2.kind) && (decide (x1.number = x2.number) && (decide (x1.data = x2.data) && true))))
 (bif v3 then (some (Sum.inr (Sum.inl (false, ()))))
 else (some (Sum.inl (y0, y1, (IntKind.wrap .i64 (y2 + (1 : Int))), ())))))))
 else (some (Sum.inr (Sum.inr ()))))
def passkeyref1_SameItems_L0 (y : ((List (ApiItem)) × (List (ApiItem)) × Int × Unit)) : Option ((Bool × Unit) ⊕ (Unit)) := iter (fun (y : ((List (ApiItem)) × (List (ApiItem)) × Int × Unit)) => passkeyref1_SameItems_L0b y.1 y.2.1 y.2.2.1) rounds y
def passkeyref1_SameItems (a0 : (List (ApiItem))) (a1 : (List (ApiItem))) : Option ((Unit) × (Bool × Unit)) :=
 (bif (!decide (((a0).length : Int) = ((a1).length : Int))) then (some ((), (false, ())))
 else ((passkeyref1_SameItems_L0 (a0, a1, (0 : Int), ())).bind (Sum.elim (fun (z4 : (Bool × Unit)) => (some ((), (z4.1, ())))) (fun (z5 : (Unit)) => (some ((), (true, ())))))))
def S_passkeyref1_SameItems : FSpec T := ⟨[.f (.v (.rs 1)), .f (.v (.rs 1))], [(.v .bool)], fun x => passkeyref1_SameItems x.1 x.2.1⟩
def E_passkeyref1_SameItems : Env T := ⟨tab.find, cd, globs, flc, fun f ds => match f with
    | _ => none, fun f => match f with
    | _ => false⟩
def A_passkeyref1_SameItems : Loc2 T := ⟨fun id => match id with
    | 0 => some ⟨[(0, .f (.v (.rs 1))), (1, .f (.v (.rs 1))), (5, .f (.v (.int .i64)))], [(.ret, [(4, .f (.v .bool))]), (.exit 0, [])], passkeyref1_SameItems_L0, []⟩
    | _ => none, fun r => match r with
    | _ => none, fun r => match r with
    | _ => false⟩
theorem passkeyref1_SameItems_L0_eq (y0 : (List (ApiItem))) (y1 : (List (ApiItem))) (y2 : Int) : run E_passkeyref1_SameItems A_passkeyref1_SameItems (loopAt 0 (Tryd.f24.body.getD .skip)) (layC cd [(0, .f (.v (.rs 1))), (1, .f (.v (.rs 1))), (5, .f (.v (.int .i64)))] [] (y0, y1, y2, ())) (roundK cd [(0, .f (.v (.rs 1))), (1, .f (.v (.rs 1))), (5, .f (.v (.int .i64)))] [] [(.ret, [(4, .f (.v .bool))]), (.exit 0, [])]) = passkeyref1_SameItems_L0b y0 y1 y2 := by kernel_rfl
theorem passkeyref1_SameItems_eq (x : tySs T S_passkeyref1_SameItems.ps) : run E_passkeyref1_SameItems A_passkeyref1_SameItems (Tryd.f24.body.getD .skip) (enterT E_passkeyref1_SameItems.C S_passkeyref1_SameItems.ps x) (retK E_passkeyref1_SameItems Tryd.f24.results.toList S_passkeyref1_SameItems.ps S_passkeyref1_SameItems.rs) = S_passkeyref1_SameItems.fn x := by kernel_rfl
theorem passkeyref1_SameItems_env : EnvOk Tryd.prog E_passkeyref1_SameItems := envOk (E := E_passkeyref1_SameItems) cd_ok tys fl_ok fun f ds S h => by cases h
theorem passkeyref1_SameItems_L0_ok : LoopOk Tryd.prog E_passkeyref1_SameItems Tryd.f24.ntmps (kqOf S_passkeyref1_SameItems.ps 0) (loopAt 0 (Tryd.f24.body.getD .skip)) ⟨[(0, .f (.v (.rs 1))), (1, .f (.v (.rs 1))), (5, .f (.v (.int .i64)))], [(.ret, [(4, .f (.v .bool))]), (.exit 0, [])], passkeyref1_SameItems_L0, []⟩ :=
  loop_ok (A := A_passkeyref1_SameItems) (done := []) (c0 := (Tryd.f24.body.getD .skip)) hmix passkeyref1_SameItems_env done_nil rounds (by kernel_rfl) (by kernel_rfl) (fun x => passkeyref1_SameItems_L0_eq x.1 x.2.1 x.2.2.1) (fun _ => rfl)
theorem passkeyref1_SameItems_ok : SoundT Tryd.prog cd gdn 24 S_passkeyref1_SameItems :=
  sound_fn (E := E_passkeyref1_SameItems) (A := A_passkeyref1_SameItems) (done := [0]) (c := (Tryd.f24.body.getD .skip)) (S := S_passkeyref1_SameItems) (fn := Tryd.f24) hmix passkeyref1_SameItems_env Tryd.func24 rfl (by kernel_rfl) (by kernel_rfl) (done_cons rfl passkeyref1_SameItems_L0_ok done_nil) (by kernel_rfl) (by kernel_rfl) passkeyref1_SameItems_eq
def cbor_Bool (a0 : Bool) : Option ((Unit) × ((List (ApiItem)) × Unit)) :=
 (bif a0 then (let v1 : List (ApiItem) := ([(⟨(7 : Int), 1#64, ([] : List UInt8)⟩ : ApiItem)] : List (ApiItem))
 (some ((), (v1, ()))))
 else (let v2 : List (ApiItem) := ([(⟨(7 : Int), 0#64, ([] : List UInt8)⟩ : ApiItem)] : List (ApiItem))
 (some ((), (v2, ())))))
def S_cbor_Bool : FSpec T := ⟨[.f (.v .bool)], [(.own 1)], fun x => cbor_Bool x.1⟩
def E_cbor_Bool : Env T := ⟨tab.find, cd, globs, flc, fun f ds => match f with
    | _ => none, fun f => match f with
    | _ => false⟩
def A_cbor_Bool : Loc2 T := ⟨fun id => match id with
    | _ => none, fun r => match r with
    | _ => none, fun r => match r with
    | _ => false⟩
theorem cbor_Bool_eq (x : tySs T S_cbor_Bool.ps) : run E_cbor_Bool A_cbor_Bool (Tryd.f28.body.getD .skip) (enterT E_cbor_Bool.C S_cbor_Bool.ps x) (retK E_cbor_Bool Tryd.f28.results.toList S_cbor_Bool.ps S_cbor_Bool.rs) = S_cbor_Bool.fn x := by kernel_rfl
theorem cbor_Bool_env : EnvOk Tryd.prog E_cbor_Bool := envOk (E := E_cbor_Bool) cd_ok tys fl_ok fun f ds S h => by cases h
theorem cbor_Bool_ok : SoundT Tryd.prog cd gdn 28 S_cbor_Bool :=
  sound_fn (E := E_cbor_Bool) (A := A_cbor_Bool) (done := []) (c := (Tryd.f28.body.getD .skip)) (S := S_cbor_Bool) (fn := Tryd.f28) hmix cbor_Bool_env Tryd.func28 rfl (by kernel_rfl) (by kernel_rfl) done_nil (by kernel_rfl) (by kernel_rfl) cbor_Bool_eq
def passkeybase_At (a0 : (List (Int))) (a1 : Int) : Option ((Unit) × (Int × Unit)) :=
 (bif (decide (((a0).length : Int) = (0 : Int))) then (let v1 : Int := (IntKind.wrap .i64 ((BitVec.ofInt (IntKind.bits .i64) a1 &&& BitVec.ofInt (IntKind.bits .i64) (65535 : Int)).toNat : Int))
 (some ((), (v1, ()))))
 else (bif decide (((a0).length : Int) = 0) then none
 else ((getI a0 (Int.tmod a1 ((a0).length : Int))).bind fun x2 => (let v3 : Int := (IntKind.wrap .i64 ((BitVec.ofInt (IntKind.bits .i64) x2 &&& BitVec.ofInt (IntKind.bits .i64) (65535 : Int)).toNat : Int))
 (bif decide (((a0).length : Int) = 0) then none
 else (let v4 : Int := (IntKind.wrap .i64 ((BitVec.ofInt (IntKind.bits .i64) (IntKind.wrap .i64 (Int.tdiv a1 ((a0).length : Int))) &&& BitVec.ofInt (IntKind.bits .i64) (65535 : Int)).toNat : Int))
 (some ((), ((IntKind.wrap .i64 (v3 + v4)), ())))))))))
def S_passkeybase_At : FSpec T := ⟨[.f (.v (.rs 7)), .f (.v (.int .i64))], [(.v (.int .i64))], fun x => passkeybase_At x.1 x.2.1⟩
def E_passkeybase_At : Env T := ⟨tab.find, cd, globs, flc, fun f ds => match f with
    | _ => none, fun f => match f with
    | _ => false⟩
def A_passkeybase_At : Loc2 T := ⟨fun id => match id with
    | _ => none, fun r => match r with
    | _ => none, fun r => match r with
    | _ => false⟩
theorem passkeybase_At_eq (x : tySs T S_passkeybase_At.ps) : run E_passkeybase_At A_passkeybase_At (Tryd.f57.body.getD .skip) (enterT E_passkeybase_At.C S_passkeybase_At.ps x) (retK E_passkeybase_At Tryd.f57.results.toList S_passkeybase_At.ps S_passkeybase_At.rs) = S_passkeybase_At.fn x := by kernel_rfl
theorem passkeybase_At_env : EnvOk Tryd.prog E_passkeybase_At := envOk (E := E_passkeybase_At) cd_ok tys fl_ok fun f ds S h => by cases h
theorem passkeybase_At_ok : SoundT Tryd.prog cd gdn 57 S_passkeybase_At :=
  sound_fn (E := E_passkeybase_At) (A := A_passkeybase_At) (done := []) (c := (Tryd.f57.body.getD .skip)) (S := S_passkeybase_At) (fn := Tryd.f57) hmix passkeybase_At_env Tryd.func57 rfl (by kernel_rfl) (by kernel_rfl) done_nil (by kernel_rfl) (by kernel_rfl) passkeybase_At_eq
def passkeybase_Text (a0 : Int) : Option ((Unit) × ((List UInt8) × Unit)) :=
 (let v1 : List (List UInt8) := ([([] : List UInt8), ([97] : List UInt8), ([98] : List UInt8), ([108, 111, 103, 105, 110] : List UInt8), ([107, 101, 121] : List UInt8), ([101, 120, 97, 109, 112, 108, 101, 46, 111, 114, 103] : List UInt8), ([195, 169] : List UInt8), ([48, 49, 50, 51, 52, 53, 54, 55, 56, 57, 48, 49, 50, 51, 52, 53] : List UInt8)] : List (List UInt8))
 (let v2 : Int := (IntKind.wrap .i64 ((BitVec.ofInt (IntKind.bits .i64) a0 &&& BitVec.ofInt (IntKind.bits .i64) (7 : Int)).toNat : Int))
 (bif (decide ((0 : Int) ≤ v2) && decide (v2 < (8 : Int))) then (((v1)[(v2).toNat]?).bind fun x3 => (let v4 : Int := (IntKind.wrap .i64 ((BitVec.ofInt (IntKind.bits .i64) (Int.fdiv a0 (2 ^ (min 3 (IntKind.bits .i64)))) &&& BitVec.ofInt (IntKind.bits .i64) (7 : Int)).toNat : Int))
 (bif (decide ((0 : Int) ≤ v4) && decide (v4 < (8 : Int))) then (((v1)[(v4).toNat]?).bind fun x5 => (bif Nat.ble ((x3).length + (x5).length) 9223372036854775807 then (some ((), ((x3 ++ x5), ())))
 else none))
 else none)))
 else none)))
def S_passkeybase_Text : FSpec T := ⟨[.f (.v (.int .i64))], [(.v .str)], fun x => passkeybase_Text x.1⟩
def E_passkeybase_Text : Env T := ⟨tab.find, cd, globs, flc, fun f ds => match f with
    | _ => none, fun f => match f with
    | _ => false⟩
def A_passkeybase_Text : Loc2 T := ⟨fun id => match id with
    | _ => none, fun r => match r with
    | _ => none, fun r => match r with
    | _ => false⟩
theorem passkeybase_Text_eq (x : tySs T S_passkeybase_Text.ps) : run E_passkeybase_Text A_passkeybase_Text (Tryd.f58.body.getD .skip) (enterT E_passkeybase_Text.C S_passkeybase_Text.ps x) (retK E_passkeybase_Text Tryd.f58.results.toList S_passkeybase_Text.ps S_passkeybase_Text.rs) = S_passkeybase_Text.fn x := by kernel_rfl
theorem passkeybase_Text_env : EnvOk Tryd.prog E_passkeybase_Text := envOk (E := E_passkeybase_Text) cd_ok tys fl_ok fun f ds S h => by cases h
theorem passkeybase_Text_ok : SoundT Tryd.prog cd gdn 58 S_passkeybase_Text :=
  sound_fn (E := E_passkeybase_Text) (A := A_passkeybase_Text) (done := []) (c := (Tryd.f58.body.getD .skip)) (S := S_passkeybase_Text) (fn := Tryd.f58) hmix passkeybase_Text_env Tryd.func58 rfl (by kernel_rfl) (by kernel_rfl) done_nil (by kernel_rfl) (by kernel_rfl) passkeybase_Text_eq
def passkeybase_tree_L1b (k_rec : (List (Int)) → Int → Int → Option ((Unit) × ((List (ApiItem)) × Int × Unit))) (y0 : (List (Int))) (y1 : Int) (y2 : Int) (y3 : Int) (y4 : (List (ApiItem))) (y5 : Int) : Option (((List (Int)) × Int × Int × Int × (List (ApiItem)) × Int × Unit) ⊕ (Int × (List (ApiItem)) × Unit)) :=
 (let v19 : Int := (IntKind.wrap .i64 ((BitVec.ofInt (IntKind.bits .i64) y3 &&& BitVec.ofInt (IntKind.bits .i64) (3 : Int)).toNat : Int))
 (bif (decide (y5 < v19)) then ((k_rec y0 y1 (IntKind.wrap .i64 (y2 + (1 : Int)))).bind fun r20 => (bif small ((y4).length + (r20.2.1 : List (ApiItem)).length) 32 then (some (Sum.inl (y0, r20.2.2.1, y2, y3, (y4 ++ r20.2.1), (IntKind.wrap .i64 (y5 + (1 : Int))), ())))
 else none))
 else (some (Sum.inr (y1, y4, ())))))
def passkeybase_tree_L1 (k_rec : (List (Int)) → Int → Int → Option ((Unit) × ((List (ApiItem)) × Int × Unit))) (y : ((List (Int)) × Int × Int × Int × (List (ApiItem)) × Int × Unit)) : Option (Int × (List (ApiItem)) × Unit) := iter (fun (y : ((List (Int)) × Int × Int × Int × (List (ApiItem)) × Int × Unit)) => passkeybase_tree_L1b k_rec y.1 y.2.1 y.2.2.1 y.2.2.2.1 y.2.2.2.2.1 y.2.2.2.2.2.1) rounds y
def passkeybase_tree_L3b (k_rec : (List (Int)) → Int → Int → Option ((Unit) × ((List (ApiItem)) × Int × Unit))) (y0 : (List (Int))) (y1 : Int) (y2 : Int) (y3 : Int) (y4 : (List (ApiItem))) (y5 : Int) : Option (((List (Int)) × Int × Int × Int × (List (ApiItem)) × Int × Unit) ⊕ (Int × (List (ApiItem)) × Unit)) :=
 (let v24 : Int := (IntKind.wrap .i64 ((BitVec.ofInt (IntKind.bits .i64) y3 &&& BitVec.ofInt (IntKind.bits .i64) (3 : Int)).toNat : Int))
 (bif (decide (y5 < v24)) then (let v25 : Int := (IntKind.wrap .i64 ((BitVec.ofInt (IntKind.bits .i64) (Int.fdiv y3 (2 ^ (min 2 (IntKind.bits .i64)))) &&& BitVec.ofInt (IntKind.bits .i64) (31 : Int)).toNat : Int))
 (let v26 : Int := (IntKind.wrap .i64 (v25 + (IntKind.wrap .i64 ((20 : Int) * y5))))
 ((bif (decide (y5 = (2 : Int))) then (let v27 : Int := (IntKind.wrap .i64 ((BitVec.ofInt (IntKind.bits .i64) (Int.fdiv y3 (2 ^ (min 7 (IntKind.bits .i64)))) &&& BitVec.ofInt (IntKind.bits .i64) (1 : Int)).toNat : Int))
 (bif (decide (v27 = (1 : Int))) then (let v28 : Int := (IntKind.wrap .i64 ((BitVec.ofInt (IntKind.bits .i64) y3 &&& BitVec.ofInt (IntKind.bits .i64) (3 : Int)).toNat : Int))
 ((passkeybase_Text v28).bind fun r29 => (bif Nat.ble ((([108, 111, 110, 103, 107, 101, 121] : List UInt8)).length + (r29.2.1).length) 9223372036854775807 then (let v30 : List UInt8 := (([108, 111, 110, 103, 107, 101, 121] : List UInt8) ++ r29.2.1)
 (some (y0, y1, y2, y3, y4, y5, ((⟨(4 : Int), 0#64, v30⟩ : ApiItem), ()), ())))
 else none)))
 else (some (y0, y1, y2, y3, y4, y5, ((⟨(1 : Int), (BitVec.ofInt 64 v26), ([] : List UInt8)⟩ : ApiItem), ()), ()))))
 else (some (y0, y1, y2, y3, y4, y5, ((⟨(1 : Int), (BitVec.ofInt 64 v26), ([] : List UInt8)⟩ : ApiItem), ()), ()))).bind (fun (j31 : ((List (Int)) × Int × Int × Int × (List (ApiItem)) × Int × (ApiItem × Unit) × Unit)) => ((k_rec j31.1 j31.2.1 (IntKind.wrap .i64 (j31.2.2.1 + (1 : Int)))).bind fun r32 => (bif small ((j31.2.2.2.2.1).length + (([j31.2.2.2.2.2.2.1.1] : List (ApiItem)) : List (ApiItem)).length) 32 then (let v33 : List (ApiItem) := (j31.2.2.2.2.1 ++ ([j31.2.2.2.2.2.2.1.1] : List (ApiItem)))
 (bif small ((v33).length + (r32.2.1 : List (ApiItem)).length) 32 then (some (Sum.inl (j31.1, r32.2.2.1, j31.2.2.1, j31.2.2.2.1, (v33 ++ r32.2.1), (IntKind.wrap .i64 (j31.2.2.2.2.2.1 + (1 : Int))), ())))
 else none))
 else none))))))
 else (some (Sum.inr (y1, y4, ())))))
def passkeybase_tree_L3 (k_rec : (List (Int)) → Int → Int → Option ((Unit) × ((List (ApiItem)) × Int × Unit))) (y : ((List (Int)) × Int × Int × Int × (List (ApiItem)) × Int × Unit)) : Option (Int × (List (ApiItem)) × Unit) := iter (fun (y : ((List (Int)) × Int × Int × Int × (List (ApiItem)) × Int × Unit)) => passkeybase_tree_L3b k_rec y.1 y.2.1 y.2.2.1 y.2.2.2.1 y.2.2.2.2.1 y.2.2.2.2.2.1) rounds y
def passkeybase_tree_R (k_rec : (List (Int)) → Int → Int → Option ((Unit) × ((List (ApiItem)) × Int × Unit))) (a0 : (List (Int))) (a1 : Int) (a2 : Int) : Option ((Unit) × ((List (ApiItem)) × Int × Unit)) :=
 ((passkeybase_At a0 a1).bind fun r1 => (let v2 : Int := (IntKind.wrap .i64 ((BitVec.ofInt (IntKind.bits .i64) r1.2.1 &&& BitVec.ofInt (IntKind.bits .i64) (7 : Int)).toNat : Int))
 (bif (decide (v2 = (0 : Int))) then (let v3 : BitVec 64 := (BitVec.ofInt 64 (Int.fdiv r1.2.1 (2 ^ (min 3 (IntKind.bits .i64)))))
 (let v4 : Int := (IntKind.wrap .i64 ((BitVec.ofInt (IntKind.bits .i64) (Int.fdiv r1.2.1 (2 ^ (min 3 (IntKind.bits .i64)))) &&& BitVec.ofInt (IntKind.bits .i64) (63 : Int)).toNat : Int))
 (let v5 : List (ApiItem) := ([(⟨(1 : Int), (v3 <<< (BitVec.ofInt 64 v4).toNat), ([] : List UInt8)⟩ : ApiItem)] : List (ApiItem))
 (some ((), (v5, (IntKind.wrap .i64 (a1 + (1 : Int))), ()))))))
 else (bif (decide (v2 = (1 : Int))) then (let v6 : BitVec 64 := (BitVec.ofInt 64 (Int.fdiv r1.2.1 (2 ^ (min 3 (IntKind.bits .i64)))))
 (let v7 : Int := (Int.fdiv (Int.fdiv r1.2.1 (2 ^ (min 3 (IntKind.bits .i64)))) (2 ^ (min 2 (IntKind.bits .i64))))
 (let v8 : Int := (IntKind.wrap .i64 ((BitVec.ofInt (IntKind.bits .i64) v7 &&& BitVec.ofInt (IntKind.bits .i64) (63 : Int)).toNat : Int))
 (let v9 : List (ApiItem) := ([(⟨(2 : Int), (v6 <<< (BitVec.ofInt 64 v8).toNat), ([] : List UInt8)⟩ : ApiItem)] : List (ApiItem))
 (some ((), (v9, (IntKind.wrap .i64 (a1 + (1 : Int))), ())))))))
 else (bif (decide (v2 = (2 : Int))) then ((passkeybase_Text (Int.fdiv r1.2.1 (2 ^ (min 3 (IntKind.bits .i64))))).bind fun r10 => (some ((), (([(⟨(3 : Int), 0#64, r10.2.1⟩ : ApiItem)] : List (ApiItem)), (IntKind.wrap .i64 (a1 + (1 : Int))), ()))))
 else (bif (decide (v2 = (3 : Int))) then ((passkeybase_Text (Int.fdiv r1.2.1 (2 ^ (min 3 (IntKind.bits .i64))))).bind fun r11 => (some ((), (([(⟨(4 : Int), 0#64, r11.2.1⟩ : ApiItem)] : List (ApiItem)), (IntKind.wrap .i64 (a1 + (1 : Int))), ()))))
 else (bif (decide (v2 = (4 : Int))) then (let v12 : Int := (IntKind.wrap .i64 ((BitVec.ofInt (IntKind.bits .i64) (Int.fdiv r1.2.1 (2 ^ (min 3 (IntKind.bits .i64)))) &&& BitVec.ofInt (IntKind.bits .i64) (1 : Int)).toNat : Int))
 (let v13 : List (ApiItem) := ([(⟨(7 : Int), (BitVec.ofInt 64 v12), ([] : List UInt8)⟩ : ApiItem)] : List (ApiItem))
 (some ((), (v13, (IntKind.wrap .i64 (a1 + (1 : Int))), ())))))
 else (bif (decide (v2 = (5 : Int))) then (let v14 : List (ApiItem) := ([(⟨(8 : Int), 0#64, ([] : List UInt8)⟩ : ApiItem)] : List (ApiItem))
 (some ((), (v14, (IntKind.wrap .i64 (a1 + (1 : Int))), ()))))
 else (bif (decide ((3 : Int) < a2)) then (let v15 : List (ApiItem) := ([(⟨(8 : Int), 0#64, ([] : List UInt8)⟩ : ApiItem)] : List (ApiItem))
 (some ((), (v15, (IntKind.wrap .i64 (a1 + (1 : Int))), ()))))
 else (bif (decide ((30 : Int) < (IntKind.wrap .i64 (a1 + (1 : Int))))) then (let v16 : List (ApiItem) := ([(⟨(8 : Int), 0#64, ([] : List UInt8)⟩ : ApiItem)] : List (ApiItem))
 (some ((), (v16, (IntKind.wrap .i64 (a1 + (1 : Int))), ()))))
 else (bif (decide (v2 = (6 : Int))) then (let v17 : Int := (IntKind.wrap .i64 ((BitVec.ofInt (IntKind.bits .i64) (Int.fdiv r1.2.1 (2 ^ (min 3 (IntKind.bits .i64)))) &&& BitVec.ofInt (IntKind.bits .i64) (3 : Int)).toNat : Int))
 (let v18 : List (ApiItem) := ([(⟨(5 : Int), (BitVec.ofInt 64 v17), ([] : List UInt8)⟩ : ApiItem)] : List (ApiItem))
 ((passkeybase_tree_L1 k_rec (a0, (IntKind.wrap .i64 (a1 + (1 : Int))), a2, (Int.fdiv r1.2.1 (2 ^ (min 3 (IntKind.bits .i64)))), v18, (0 : Int), ())).bind (fun (z21 : (Int × (List (ApiItem)) × Unit)) => (some ((), (z21.2.1, z21.1, ())))))))
 else (let v22 : Int := (IntKind.wrap .i64 ((BitVec.ofInt (IntKind.bits .i64) (Int.fdiv r1.2.1 (2 ^ (min 3 (IntKind.bits .i64)))) &&& BitVec.ofInt (IntKind.bits .i64) (3 : Int)).toNat : Int))
 (let v23 : List (ApiItem) := ([(⟨(6 : Int), (BitVec.ofInt 64 v22), ([] : List UInt8)⟩ : ApiItem)] : List (ApiItem))
 ((passkeybase_tree_L3 k_rec (a0, (IntKind.wrap .i64 (a1 + (1 : Int))), a2, (Int.fdiv r1.2.1 (2 ^ (min 3 (IntKind.bits .i64)))), v23, (0 : Int), ())).bind (fun (z34 : (Int × (List (ApiItem)) × Unit)) => (some ((), (z34.2.1, z34.1, ()))))))))))))))))))
abbrev ps_passkeybase_tree : List Slot := [.f (.v (.rs 7)), .f (.v (.int .i64)), .f (.v (.int .i64))]
abbrev rs_passkeybase_tree : List Fld := [(.own 1), (.v (.int .i64))]
def E_passkeybase_tree (k_rec : (List (Int)) → Int → Int → Option ((Unit) × ((List (ApiItem)) × Int × Unit))) : Env T := ⟨tab.find, cd, globs, flc, fun f ds => match f with
    | 42 => some ⟨ps_passkeybase_tree, rs_passkeybase_tree, fun x => k_rec x.1 x.2.1 x.2.2.1⟩
    | 57 => some S_passkeybase_At
    | 58 => some S_passkeybase_Text
    | _ => none, fun f => match f with
    | 57 => true
    | 58 => true
    | _ => false⟩
def A_passkeybase_tree (k_rec : (List (Int)) → Int → Int → Option ((Unit) × ((List (ApiItem)) × Int × Unit))) : Loc2 T := ⟨fun id => match id with
    | 1 => some ⟨[(0, .f (.v (.rs 7))), (1, .f (.v (.int .i64))), (2, .f (.v (.int .i64))), (9, .f (.v (.int .i64))), (11, .f (.own 1)), (12, .f (.v (.int .i64)))], [(.exit 1, [(1, .f (.v (.int .i64))), (11, .f (.own 1))])], passkeybase_tree_L1 k_rec, []⟩
    | 3 => some ⟨[(0, .f (.v (.rs 7))), (1, .f (.v (.int .i64))), (2, .f (.v (.int .i64))), (9, .f (.v (.int .i64))), (14, .f (.own 1)), (15, .f (.v (.int .i64)))], [(.exit 3, [(1, .f (.v (.int .i64))), (14, .f (.own 1))])], passkeybase_tree_L3 k_rec, []⟩
    | _ => none, fun r => match r with
    | 33 => some ([(0, .f (.v (.rs 7))), (1, .f (.v (.int .i64))), (2, .f (.v (.int .i64))), (9, .f (.v (.int .i64))), (14, .f (.own 1)), (15, .f (.v (.int .i64))), (16, .ptr [(.v (.agg 1))])], true)
    | _ => none, fun r => match r with
    | _ => false⟩
theorem passkeybase_tree_L1_eq (k_rec : (List (Int)) → Int → Int → Option ((Unit) × ((List (ApiItem)) × Int × Unit))) (y0 : (List (Int))) (y1 : Int) (y2 : Int) (y3 : Int) (y4 : (List (ApiItem))) (y5 : Int) : run (E_passkeybase_tree k_rec) (A_passkeybase_tree k_rec) (loopAt 1 (Tryd.f42.body.getD .skip)) (layC cd [(0, .f (.v (.rs 7))), (1, .f (.v (.int .i64))), (2, .f (.v (.int .i64))), (9, .f (.v (.int .i64))), (11, .f (.own 1)), (12, .f (.v (.int .i64)))] [] (y0, y1, y2, y3, y4, y5, ())) (roundK cd [(0, .f (.v (.rs 7))), (1, .f (.v (.int .i64))), (2, .f (.v (.int .i64))), (9, .f (.v (.int .i64))), (11, .f (.own 1)), (12, .f (.v (.int .i64)))] [] [(.exit 1, [(1, .f (.v (.int .i64))), (11, .f (.own 1))])]) = passkeybase_tree_L1b k_rec y0 y1 y2 y3 y4 y5 := by kernel_rfl
theorem passkeybase_tree_L3_eq (k_rec : (List (Int)) → Int → Int → Option ((Unit) × ((List (ApiItem)) × Int × Unit))) (y0 : (List (Int))) (y1 : Int) (y2 : Int) (y3 : Int) (y4 : (List (ApiItem))) (y5 : Int) : run (E_passkeybase_tree k_rec) (A_passkeybase_tree k_rec) (loopAt 3 (Tryd.f42.body.getD .skip)) (layC cd [(0, .f (.v (.rs 7))), (1, .f (.v (.int .i64))), (2, .f (.v (.int .i64))), (9, .f (.v (.int .i64))), (14, .f (.own 1)), (15, .f (.v (.int .i64)))] [] (y0, y1, y2, y3, y4, y5, ())) (roundK cd [(0, .f (.v (.rs 7))), (1, .f (.v (.int .i64))), (2, .f (.v (.int .i64))), (9, .f (.v (.int .i64))), (14, .f (.own 1)), (15, .f (.v (.int .i64)))] [] [(.exit 3, [(1, .f (.v (.int .i64))), (14, .f (.own 1))])]) = passkeybase_tree_L3b k_rec y0 y1 y2 y3 y4 y5 := by kernel_rfl
theorem passkeybase_tree_eqR (k_rec : (List (Int)) → Int → Int → Option ((Unit) × ((List (ApiItem)) × Int × Unit))) (x : tySs T ps_passkeybase_tree) : run (E_passkeybase_tree k_rec) (A_passkeybase_tree k_rec) (Tryd.f42.body.getD .skip) (enterT (E_passkeybase_tree k_rec).C ps_passkeybase_tree x) (retK (E_passkeybase_tree k_rec) Tryd.f42.results.toList ps_passkeybase_tree rs_passkeybase_tree) = passkeybase_tree_R k_rec x.1 x.2.1 x.2.2.1 := by kernel_rfl
def passkeybase_tree_n : Nat → (List (Int)) → Int → Int → Option ((Unit) × ((List (ApiItem)) × Int × Unit))
  | 0 => fun _ _ _ => none
  | n + 1 => passkeybase_tree_R (passkeybase_tree_n n)
def passkeybase_tree (a0 : (List (Int))) (a1 : Int) (a2 : Int) := passkeybase_tree_n 8 a0 a1 a2
def S_passkeybase_tree : FSpec T := ⟨ps_passkeybase_tree, rs_passkeybase_tree, fun x => passkeybase_tree x.1 x.2.1 x.2.2.1⟩
theorem passkeybase_tree_env (k_rec : (List (Int)) → Int → Int → Option ((Unit) × ((List (ApiItem)) × Int × Unit))) (hk : SoundT Tryd.prog cd gdn 42 ⟨ps_passkeybase_tree, rs_passkeybase_tree, fun x => k_rec x.1 x.2.1 x.2.2.1⟩) : EnvOk Tryd.prog (E_passkeybase_tree k_rec) := envOk (E := (E_passkeybase_tree k_rec)) cd_ok tys fl_ok fun f ds S h => by
    dsimp only [E_passkeybase_tree] at h
    split at h
    · cases h; exact hk
    · cases h; exact passkeybase_At_ok
    · cases h; exact passkeybase_Text_ok
    · cases h
theorem passkeybase_tree_L1_ok (k_rec : (List (Int)) → Int → Int → Option ((Unit) × ((List (ApiItem)) × Int × Unit))) (hk : SoundT Tryd.prog cd gdn 42 ⟨ps_passkeybase_tree, rs_passkeybase_tree, fun x => k_rec x.1 x.2.1 x.2.2.1⟩) : LoopOk Tryd.prog (E_passkeybase_tree k_rec) Tryd.f42.ntmps (kqOf ps_passkeybase_tree 0) (loopAt 1 (Tryd.f42.body.getD .skip)) ⟨[(0, .f (.v (.rs 7))), (1, .f (.v (.int .i64))), (2, .f (.v (.int .i64))), (9, .f (.v (.int .i64))), (11, .f (.own 1)), (12, .f (.v (.int .i64)))], [(.exit 1, [(1, .f (.v (.int .i64))), (11, .f (.own 1))])], passkeybase_tree_L1 k_rec, []⟩ :=
  loop_ok (A := (A_passkeybase_tree k_rec)) (done := []) (c0 := (Tryd.f42.body.getD .skip)) hmix (passkeybase_tree_env k_rec hk) done_nil rounds (by kernel_rfl) (by kernel_rfl) (fun x => passkeybase_tree_L1_eq k_rec x.1 x.2.1 x.2.2.1 x.2.2.2.1 x.2.2.2.2.1 x.2.2.2.2.2.1) (fun _ => rfl)
theorem passkeybase_tree_L3_ok (k_rec : (List (Int)) → Int → Int → Option ((Unit) × ((List (ApiItem)) × Int × Unit))) (hk : SoundT Tryd.prog cd gdn 42 ⟨ps_passkeybase_tree, rs_passkeybase_tree, fun x => k_rec x.1 x.2.1 x.2.2.1⟩) : LoopOk Tryd.prog (E_passkeybase_tree k_rec) Tryd.f42.ntmps (kqOf ps_passkeybase_tree 0) (loopAt 3 (Tryd.f42.body.getD .skip)) ⟨[(0, .f (.v (.rs 7))), (1, .f (.v (.int .i64))), (2, .f (.v (.int .i64))), (9, .f (.v (.int .i64))), (14, .f (.own 1)), (15, .f (.v (.int .i64)))], [(.exit 3, [(1, .f (.v (.int .i64))), (14, .f (.own 1))])], passkeybase_tree_L3 k_rec, []⟩ :=
  loop_ok (A := (A_passkeybase_tree k_rec)) (done := [1]) (c0 := (Tryd.f42.body.getD .skip)) hmix (passkeybase_tree_env k_rec hk) (done_cons rfl (passkeybase_tree_L1_ok k_rec hk) done_nil) rounds (by kernel_rfl) (by kernel_rfl) (fun x => passkeybase_tree_L3_eq k_rec x.1 x.2.1 x.2.2.1 x.2.2.2.1 x.2.2.2.2.1 x.2.2.2.2.2.1) (fun _ => rfl)
theorem passkeybase_tree_okn : ∀ n : Nat, SoundT Tryd.prog cd gdn 42 ⟨ps_passkeybase_tree, rs_passkeybase_tree, fun x => passkeybase_tree_n n x.1 x.2.1 x.2.2.1⟩
  | 0 => sound_none ⟨_, Tryd.func42, by kernel_rfl, by kernel_rfl⟩
  | n + 1 => sound_fn (E := E_passkeybase_tree (passkeybase_tree_n n)) (A := A_passkeybase_tree (passkeybase_tree_n n)) (done := [1, 3]) (c := (Tryd.f42.body.getD .skip)) (S := ⟨ps_passkeybase_tree, rs_passkeybase_tree, fun x => passkeybase_tree_n (n + 1) x.1 x.2.1 x.2.2.1⟩) (fn := Tryd.f42) hmix (passkeybase_tree_env _ (passkeybase_tree_okn n)) Tryd.func42 rfl (by kernel_rfl) (by kernel_rfl) (done_cons rfl (passkeybase_tree_L1_ok _ (passkeybase_tree_okn n)) (done_cons rfl (passkeybase_tree_L3_ok _ (passkeybase_tree_okn n)) done_nil)) (by kernel_rfl) (by kernel_rfl) (passkeybase_tree_eqR (passkeybase_tree_n n))
theorem passkeybase_tree_ok : SoundT Tryd.prog cd gdn 42 S_passkeybase_tree := passkeybase_tree_okn 8
def passkeybase_Tree (a0 : (List (Int))) : Option ((Unit) × ((List (ApiItem)) × Unit)) :=
 ((passkeybase_tree a0 (0 : Int) (0 : Int)).bind fun r1 => (some ((), (r1.2.1, ()))))
def S_passkeybase_Tree : FSpec T := ⟨[.f (.v (.rs 7))], [(.own 1)], fun x => passkeybase_Tree x.1⟩
def E_passkeybase_Tree : Env T := ⟨tab.find, cd, globs, flc, fun f ds => match f with
    | 42 => some S_passkeybase_tree
    | _ => none, fun f => match f with
    | _ => false⟩
def A_passkeybase_Tree : Loc2 T := ⟨fun id => match id with
    | _ => none, fun r => match r with
    | _ => none, fun r => match r with
    | _ => false⟩
theorem passkeybase_Tree_eq (x : tySs T S_passkeybase_Tree.ps) : run E_passkeybase_Tree A_passkeybase_Tree (Tryd.f20.body.getD .skip) (enterT E_passkeybase_Tree.C S_passkeybase_Tree.ps x) (retK E_passkeybase_Tree Tryd.f20.results.toList S_passkeybase_Tree.ps S_passkeybase_Tree.rs) = S_passkeybase_Tree.fn x := by kernel_rfl
theorem passkeybase_Tree_env : EnvOk Tryd.prog E_passkeybase_Tree := envOk (E := E_passkeybase_Tree) cd_ok tys fl_ok fun f ds S h => by
    dsimp only [E_passkeybase_Tree] at h
    split at h
    · cases h; exact passkeybase_tree_ok
    · cases h
theorem passkeybase_Tree_ok : SoundT Tryd.prog cd gdn 20 S_passkeybase_Tree :=
  sound_fn (E := E_passkeybase_Tree) (A := A_passkeybase_Tree) (done := []) (c := (Tryd.f20.body.getD .skip)) (S := S_passkeybase_Tree) (fn := Tryd.f20) hmix passkeybase_Tree_env Tryd.func20 rfl (by kernel_rfl) (by kernel_rfl) done_nil (by kernel_rfl) (by kernel_rfl) passkeybase_Tree_eq
def passkeylaw1_spoil (a0 : (List (ApiItem))) (a1 : Int) : Option ((Unit) × ((List (ApiItem)) × Unit)) :=
 (bif small ((a0).length) 32 then (let v1 : Int := (IntKind.wrap .i64 ((BitVec.ofInt (IntKind.bits .i64) (Int.fdiv a1 (2 ^ (min 4 (IntKind.bits .i64)))) &&& BitVec.ofInt (IntKind.bits .i64) (65535 : Int)).toNat : Int))
 (bif decide (((a0).length : Int) = 0) then none
 else (let v2 : Int := (IntKind.wrap .i64 ((BitVec.ofInt (IntKind.bits .i64) a1 &&& BitVec.ofInt (IntKind.bits .i64) (15 : Int)).toNat : Int))
 (bif (decide (v2 = (0 : Int))) then (let v3 : Int := (Int.tmod (Int.fdiv v1 (2 ^ (min 3 (IntKind.bits .i64)))) (11 : Int))
 (bif (decide ((0 : Int) ≤ (Int.tmod v1 ((a0).length : Int))) && decide ((Int.tmod v1 ((a0).length : Int)) < ((a0).length : Int))) then (((a0)[((Int.tmod v1 ((a0).length : Int))).toNat]?).bind fun x4 => (let v5 : List (ApiItem) := (List.set a0 ((Int.tmod v1 ((a0).length : Int))).toNat (⟨(IntKind.wrap .i64 (v3 - (1 : Int))), x4.number, x4.data⟩ : ApiItem))
 (some ((), (v5, ())))))
 else none))
 else (bif (decide (v2 = (1 : Int))) then (let v6 : List (BitVec 64) := ([0#64, 1#64, 2#64, 23#64, 513#64, 1099511627776#64] : List (BitVec 64))
 (let v7 : Int := (Int.tmod (Int.fdiv v1 (2 ^ (min 3 (IntKind.bits .i64)))) (6 : Int))
 (bif (decide ((0 : Int) ≤ v7) && decide (v7 < (6 : Int))) then (((v6)[(v7).toNat]?).bind fun x8 => (bif (decide ((0 : Int) ≤ (Int.tmod v1 ((a0).length : Int))) && decide ((Int.tmod v1 ((a0).length : Int)) < ((a0).length : Int))) then (((a0)[((Int.tmod v1 ((a0).length : Int))).toNat]?).bind fun x9 => (let v10 : List (ApiItem) := (List.set a0 ((Int.tmod v1 ((a0).length : Int))).toNat (⟨x9.kind, x8, x9.data⟩ : ApiItem))
 (some ((), (v10, ())))))
 else none))
 else none)))
 else (bif (decide (v2 = (2 : Int))) then (let v11 : List (UInt8) := (List.replicate 1025 (0 : UInt8))
 (let v12 : List (List UInt8) := ([([] : List UInt8), ([98] : List UInt8), ([255] : List UInt8), v11] : List (List UInt8))
 (let v13 : Int := (IntKind.wrap .i64 ((BitVec.ofInt (IntKind.bits .i64) (Int.fdiv v1 (2 ^ (min 3 (IntKind.bits .i64)))) &&& BitVec.ofInt (IntKind.bits .i64) (3 : Int)).toNat : Int))
 (bif (decide ((0 : Int) ≤ v13) && decide (v13 < (4 : Int))) then (((v12)[(v13).toNat]?).bind fun x14 => (bif (decide ((0 : Int) ≤ (Int.tmod v1 ((a0).length : Int))) && decide ((Int.tmod v1 ((a0).length : Int)) < ((a0).length : Int))) then (((a0)[((Int.tmod v1 ((a0).length : Int))).toNat]?).bind fun x15 => (let v16 : List (ApiItem) := (List.set a0 ((Int.tmod v1 ((a0).length : Int))).toNat (⟨x15.kind, x15.number, x14⟩ : ApiItem))
 (some ((), (v16, ())))))
 else none))
 else none))))
 else (bif (decide (v2 = (3 : Int))) then (bif (decide ((0 : Int) ≤ (Int.tmod v1 ((a0).length : Int))) && decide ((Int.tmod v1 ((a0).length : Int)) ≤ ((a0).length : Int))) then (bif decide (((Int.tmod v1 ((a0).length : Int))).toNat ≤ (a0).length) then (some ((), ((List.take ((Int.tmod v1 ((a0).length : Int))).toNat a0), ())))
 else none)
 else none)
 else (bif (decide (v2 = (4 : Int))) then (let v17 : List (ApiItem) := ([(⟨(8 : Int), 0#64, ([] : List UInt8)⟩ : ApiItem)] : List (ApiItem))
 (bif small ((a0).length + (v17 : List (ApiItem)).length) 32 then (some ((), ((a0 ++ v17), ())))
 else none))
 else (bif (decide (v2 = (5 : Int))) then (bif decide (((a0).length : Int) = 0) then none
 else (let v18 : Int := (Int.tmod (Int.fdiv v1 (2 ^ (min 4 (IntKind.bits .i64)))) ((a0).length : Int))
 (bif (decide ((0 : Int) ≤ v18) && decide (v18 < ((a0).length : Int))) then (((a0)[(v18).toNat]?).bind fun x19 => (bif (decide ((0 : Int) ≤ (Int.tmod v1 ((a0).length : Int))) && decide ((Int.tmod v1 ((a0).length : Int)) < ((a0).length : Int))) then (((a0)[((Int.tmod v1 ((a0).length : Int))).toNat]?).bind fun x20 => (bif (decide ((0 : Int) ≤ (Int.tmod v1 ((a0).length : Int))) && decide ((Int.tmod v1 ((a0).length : Int)) < ((a0).length : Int))) then (((a0)[((Int.tmod v1 ((a0).length : Int))).toNat]?).bind fun x21 => (let v22 : List (ApiItem) := (List.set a0 ((Int.tmod v1 ((a0).length : Int))).toNat x19)
 (bif (decide ((0 : Int) ≤ v18) && decide (v18 < ((a0).length : Int))) then (((v22)[(v18).toNat]?).bind fun x23 => (some ((), ((List.set v22 (v18).toNat x20), ()))))
 else none)))
 else none))
 else none))
 else none)))
 else (some ((), (a0, ()))))))))))))
 else none)
def S_passkeylaw1_spoil : FSpec T := ⟨[.f (.v (.rs 1)), .f (.v (.int .i64))], [(.own 1)], fun x => passkeylaw1_spoil x.1 x.2.1⟩
def E_passkeylaw1_spoil : Env T := ⟨tab.find, cd, globs, flc, fun f ds => match f with
    | _ => none, fun f => match f with
    | _ => false⟩
def A_passkeylaw1_spoil : Loc2 T := ⟨fun id => match id with
    | _ => none, fun r => match r with
    | _ => none, fun r => match r with
    | _ => false⟩
theorem passkeylaw1_spoil_eq (x : tySs T S_passkeylaw1_spoil.ps) : run E_passkeylaw1_spoil A_passkeylaw1_spoil (Tryd.f21.body.getD .skip) (enterT E_passkeylaw1_spoil.C S_passkeylaw1_spoil.ps x) (retK E_passkeylaw1_spoil Tryd.f21.results.toList S_passkeylaw1_spoil.ps S_passkeylaw1_spoil.rs) = S_passkeylaw1_spoil.fn x := by kernel_rfl
theorem passkeylaw1_spoil_env : EnvOk Tryd.prog E_passkeylaw1_spoil := envOk (E := E_passkeylaw1_spoil) cd_ok tys fl_ok fun f ds S h => by cases h
theorem passkeylaw1_spoil_ok : SoundT Tryd.prog cd gdn 21 S_passkeylaw1_spoil :=
  sound_fn (E := E_passkeylaw1_spoil) (A := A_passkeylaw1_spoil) (done := []) (c := (Tryd.f21.body.getD .skip)) (S := S_passkeylaw1_spoil) (fn := Tryd.f21) hmix passkeylaw1_spoil_env Tryd.func21 rfl (by kernel_rfl) (by kernel_rfl) done_nil (by kernel_rfl) (by kernel_rfl) passkeylaw1_spoil_eq
def cbor_Skip_L0b (y0 : (List (ApiItem))) (y1 : Int) (y2 : Int) : Option (((List (ApiItem)) × Int × Int × Unit) ⊕ ((Int × Bool × Unit) ⊕ (Int × Unit))) :=
 (bif (decide ((0 : Int) < y2)) then (bif (decide (((y0).length : Int) ≤ y1)) then (some (Sum.inr (Sum.inl ((0 : Int), false, ()))))
 else ((getI y0 y1).bind fun x1 => (bif (!decide (x1.kind = (5 : Int))) then (bif (!decide (x1.kind = (6 : Int))) then (some (Sum.inl (y0, (IntKind.wrap .i64 (y1 + (1 : Int))), (IntKind.wrap .i64 (y2 - (1 : Int))), ())))
 else (bif (decide ((512#64).toNat < x1.number.toNat)) then (some (Sum.inr (Sum.inl ((0 : Int), false, ()))))
 else (let v2 : Int := (IntKind.wrap .i64 ((IntKind.wrap .i64 (y2 - (1 : Int))) + (IntKind.wrap .i64 (x1.number.toNat : Int))))
 (bif (decide (x1.kind = (6 : Int))) then (let v3 : Int := (IntKind.wrap .i64 (v2 + (IntKind.wrap .i64 (x1.number.toNat : Int))))
 (some (Sum.inl (y0, (IntKind.wrap .i64 (y1 + (1 : Int))), v3, ()))))
 else (some (Sum.inl (y0, (IntKind.wrap .i64 (y1 + (1 : Int))), v2, ())))))))
 else (bif (decide ((512#64).toNat < x1.number.toNat)) then (some (Sum.inr (Sum.inl ((0 : Int), false, ()))))
 else (let v4 : Int := (IntKind.wrap .i64 ((IntKind.wrap .i64 (y2 - (1 : Int))) + (IntKind.wrap .i64 (x1.number.toNat : Int))))
 (bif (decide (x1.kind = (6 : Int))) then (let v5 : Int := (IntKind.wrap .i64 (v4 + (IntKind.wrap .i64 (x1.number.toNat : Int))))
 (some (Sum.inl (y0, (IntKind.wrap .i64 (y1 + (1 : Int))), v5, ()))))
 else (some (Sum.inl (y0, (IntKind.wrap .i64 (y1 + (1 : Int))), v4, ())))))))))
 else (some (Sum.inr (Sum.inr (y1, ())))))
def cbor_Skip_L0 (y : ((List (ApiItem)) × Int × Int × Unit)) : Option ((Int × Bool × Unit) ⊕ (Int × Unit)) := iter (fun (y : ((List (ApiItem)) × Int × Int × Unit)) => cbor_Skip_L0b y.1 y.2.1 y.2.2.1) rounds y
def cbor_Skip (a0 : (List (ApiItem))) (a1 : Int) : Option ((Unit) × (Int × Bool × Unit)) :=
 (bif (decide (a1 < (0 : Int))) then (some ((), ((0 : Int), false, ())))
 else (bif (decide (((a0).length : Int) ≤ a1)) then (some ((), ((0 : Int), false, ())))
 else ((cbor_Skip_L0 (a0, a1, (1 : Int), ())).bind (Sum.elim (fun (z6 : (Int × Bool × Unit)) => (some ((), (z6.1, z6.2.1, ())))) (fun (z7 : (Int × Unit)) => (some ((), (z7.1, true, ()))))))))
def S_cbor_Skip : FSpec T := ⟨[.f (.v (.rs 1)), .f (.v (.int .i64))], [(.v (.int .i64)), (.v .bool)], fun x => cbor_Skip x.1 x.2.1⟩
def E_cbor_Skip : Env T := ⟨tab.find, cd, globs, flc, fun f ds => match f with
    | _ => none, fun f => match f with
    | _ => false⟩
def A_cbor_Skip : Loc2 T := ⟨fun id => match id with
    | 0 => some ⟨[(0, .f (.v (.rs 1))), (4, .f (.v (.int .i64))), (6, .f (.v (.int .i64)))], [(.ret, [(4, .f (.v (.int .i64))), (5, .f (.v .bool))]), (.exit 0, [(4, .f (.v (.int .i64)))])], cbor_Skip_L0, []⟩
    | _ => none, fun r => match r with
    | _ => none, fun r => match r with
    | _ => false⟩
theorem cbor_Skip_L0_eq (y0 : (List (ApiItem))) (y1 : Int) (y2 : Int) : run E_cbor_Skip A_cbor_Skip (loopAt 0 (Tryd.f29.body.getD .skip)) (layC cd [(0, .f (.v (.rs 1))), (4, .f (.v (.int .i64))), (6, .f (.v (.int .i64)))] [] (y0, y1, y2, ())) (roundK cd [(0, .f (.v (.rs 1))), (4, .f (.v (.int .i64))), (6, .f (.v (.int .i64)))] [] [(.ret, [(4, .f (.v (.int .i64))), (5, .f (.v .bool))]), (.exit 0, [(4, .f (.v (.int .i64)))])]) = cbor_Skip_L0b y0 y1 y2 := by kernel_rfl
theorem cbor_Skip_eq (x : tySs T S_cbor_Skip.ps) : run E_cbor_Skip A_cbor_Skip (Tryd.f29.body.getD .skip) (enterT E_cbor_Skip.C S_cbor_Skip.ps x) (retK E_cbor_Skip Tryd.f29.results.toList S_cbor_Skip.ps S_cbor_Skip.rs) = S_cbor_Skip.fn x := by kernel_rfl
theorem cbor_Skip_env : EnvOk Tryd.prog E_cbor_Skip := envOk (E := E_cbor_Skip) cd_ok tys fl_ok fun f ds S h => by cases h
theorem cbor_Skip_L0_ok : LoopOk Tryd.prog E_cbor_Skip Tryd.f29.ntmps (kqOf S_cbor_Skip.ps 0) (loopAt 0 (Tryd.f29.body.getD .skip)) ⟨[(0, .f (.v (.rs 1))), (4, .f (.v (.int .i64))), (6, .f (.v (.int .i64)))], [(.ret, [(4, .f (.v (.int .i64))), (5, .f (.v .bool))]), (.exit 0, [(4, .f (.v (.int .i64)))])], cbor_Skip_L0, []⟩ :=
  loop_ok (A := A_cbor_Skip) (done := []) (c0 := (Tryd.f29.body.getD .skip)) hmix cbor_Skip_env done_nil rounds (by kernel_rfl) (by kernel_rfl) (fun x => cbor_Skip_L0_eq x.1 x.2.1 x.2.2.1) (fun _ => rfl)
theorem cbor_Skip_ok : SoundT Tryd.prog cd gdn 29 S_cbor_Skip :=
  sound_fn (E := E_cbor_Skip) (A := A_cbor_Skip) (done := [0]) (c := (Tryd.f29.body.getD .skip)) (S := S_cbor_Skip) (fn := Tryd.f29) hmix cbor_Skip_env Tryd.func29 rfl (by kernel_rfl) (by kernel_rfl) (done_cons rfl cbor_Skip_L0_ok done_nil) (by kernel_rfl) (by kernel_rfl) cbor_Skip_eq
def passkeyref1_Skip_L0b (y0 : (List (ApiItem))) (y1 : Int) (y2 : (BitVec 64)) : Option (((List (ApiItem)) × Int × (BitVec 64) × Unit) ⊕ ((Int × Bool × Unit) ⊕ (Int × Unit))) :=
 (bif (decide ((0#64).toNat < y2.toNat)) then (bif (decide (((y0).length : Int) ≤ y1)) then (some (Sum.inr (Sum.inl ((0 : Int), false, ()))))
 else ((getI y0 y1).bind fun x1 => (bif (decide (x1.kind = (5 : Int))) then (bif (decide ((512#64).toNat < x1.number.toNat)) then (some (Sum.inr (Sum.inl ((0 : Int), false, ()))))
 else ((bif (decide (x1.kind = (5 : Int))) then (some (y0, y1, ((y2 - 1#64) + x1.number), (x1, ()), ()))
 else (some (y0, y1, (y2 - 1#64), (x1, ()), ()))).bind (fun (j2 : ((List (ApiItem)) × Int × (BitVec 64) × (ApiItem × Unit) × Unit)) => (bif (decide (j2.2.2.2.1.1.kind = (6 : Int))) then (some (Sum.inl (j2.1, (IntKind.wrap .i64 (j2.2.1 + (1 : Int))), (j2.2.2.1 + (2#64 * j2.2.2.2.1.1.number)), ())))
 else (some (Sum.inl (j2.1, (IntKind.wrap .i64 (j2.2.1 + (1 : Int))), j2.2.2.1, ())))))))
 else (bif (decide (x1.kind = (6 : Int))) then (bif (decide ((512#64).toNat < x1.number.toNat)) then (some (Sum.inr (Sum.inl ((0 : Int), false, ()))))
 else ((bif (decide (x1.kind = (5 : Int))) then (some (y0, y1, ((y2 - 1#64) + x1.number), (x1, ()), ()))
 else (some (y0, y1, (y2 - 1#64), (x1, ()), ()))).bind (fun (j3 : ((List (ApiItem)) × Int × (BitVec 64) × (ApiItem × Unit) × Unit)) => (bif (decide (j3.2.2.2.1.1.kind = (6 : Int))) then (some (Sum.inl (j3.1, (IntKind.wrap .i64 (j3.2.1 + (1 : Int))), (j3.2.2.1 + (2#64 * j3.2.2.2.1.1.number)), ())))
 else (some (Sum.inl (j3.1, (IntKind.wrap .i64 (j3.2.1 + (1 : Int))), j3.2.2.1, ())))))))
 else ((bif (decide (x1.kind = (5 : Int))) then (some (y0, y1, ((y2 - 1#64) + x1.number), (x1, ()), ()))
 else (some (y0, y1, (y2 - 1#64), (x1, ()), ()))).bind (fun (j4 : ((List (ApiItem)) × Int × (BitVec 64) × (ApiItem × Unit) × Unit)) => (bif (decide (j4.2.2.2.1.1.kind = (6 : Int))) then (some (Sum.inl (j4.1, (IntKind.wrap .i64 (j4.2.1 + (1 : Int))), (j4.2.2.1 + (2#64 * j4.2.2.2.1.1.number)), ())))
 else (some (Sum.inl (j4.1, (IntKind.wrap .i64 (j4.2.1 + (1 : Int))), j4.2.2.1, ()))))))))))
 else (some (Sum.inr (Sum.inr (y1, ())))))
def passkeyref1_Skip_L0 (y : ((List (ApiItem)) × Int × (BitVec 64) × Unit)) : Option ((Int × Bool × Unit) ⊕ (Int × Unit)) := iter (fun (y : ((List (ApiItem)) × Int × (BitVec 64) × Unit)) => passkeyref1_Skip_L0b y.1 y.2.1 y.2.2.1) rounds y
def passkeyref1_Skip (a0 : (List (ApiItem))) (a1 : Int) : Option ((Unit) × (Int × Bool × Unit)) :=
 (bif (decide (a1 < (0 : Int))) then (some ((), ((0 : Int), false, ())))
 else (bif (decide (((a0).length : Int) ≤ a1)) then (some ((), ((0 : Int), false, ())))
 else ((passkeyref1_Skip_L0 (a0, a1, 1#64, ())).bind (Sum.elim (fun (z5 : (Int × Bool × Unit)) => (some ((), (z5.1, z5.2.1, ())))) (fun (z6 : (Int × Unit)) => (some ((), (z6.1, true, ()))))))))
def S_passkeyref1_Skip : FSpec T := ⟨[.f (.v (.rs 1)), .f (.v (.int .i64))], [(.v (.int .i64)), (.v .bool)], fun x => passkeyref1_Skip x.1 x.2.1⟩
def E_passkeyref1_Skip : Env T := ⟨tab.find, cd, globs, flc, fun f ds => match f with
    | _ => none, fun f => match f with
    | _ => false⟩
def A_passkeyref1_Skip : Loc2 T := ⟨fun id => match id with
    | 0 => some ⟨[(0, .f (.v (.rs 1))), (1, .f (.v (.int .i64))), (6, .f (.v .u64))], [(.ret, [(4, .f (.v (.int .i64))), (5, .f (.v .bool))]), (.exit 0, [(1, .f (.v (.int .i64)))])], passkeyref1_Skip_L0, []⟩
    | _ => none, fun r => match r with
    | 14 => some ([(0, .f (.v (.rs 1))), (1, .f (.v (.int .i64))), (6, .f (.v .u64)), (7, .ptr [(.v (.agg 1))])], true)
    | _ => none, fun r => match r with
    | _ => false⟩
theorem passkeyref1_Skip_L0_eq (y0 : (List (ApiItem))) (y1 : Int) (y2 : (BitVec 64)) : run E_passkeyref1_Skip A_passkeyref1_Skip (loopAt 0 (Tryd.f30.body.getD .skip)) (layC cd [(0, .f (.v (.rs 1))), (1, .f (.v (.int .i64))), (6, .f (.v .u64))] [] (y0, y1, y2, ())) (roundK cd [(0, .f (.v (.rs 1))), (1, .f (.v (.int .i64))), (6, .f (.v .u64))] [] [(.ret, [(4, .f (.v (.int .i64))), (5, .f (.v .bool))]), (.exit 0, [(1, .f (.v (.int .i64)))])]) = passkeyref1_Skip_L0b y0 y1 y2 := by kernel_rfl
theorem passkeyref1_Skip_eq (x : tySs T S_passkeyref1_Skip.ps) : run E_passkeyref1_Skip A_passkeyref1_Skip (Tryd.f30.body.getD .skip) (enterT E_passkeyref1_Skip.C S_passkeyref1_Skip.ps x) (retK E_passkeyref1_Skip Tryd.f30.results.toList S_passkeyref1_Skip.ps S_passkeyref1_Skip.rs) = S_passkeyref1_Skip.fn x := by kernel_rfl
theorem passkeyref1_Skip_env : EnvOk Tryd.prog E_passkeyref1_Skip := envOk (E := E_passkeyref1_Skip) cd_ok tys fl_ok fun f ds S h => by cases h
theorem passkeyref1_Skip_L0_ok : LoopOk Tryd.prog E_passkeyref1_Skip Tryd.f30.ntmps (kqOf S_passkeyref1_Skip.ps 0) (loopAt 0 (Tryd.f30.body.getD .skip)) ⟨[(0, .f (.v (.rs 1))), (1, .f (.v (.int .i64))), (6, .f (.v .u64))], [(.ret, [(4, .f (.v (.int .i64))), (5, .f (.v .bool))]), (.exit 0, [(1, .f (.v (.int .i64)))])], passkeyref1_Skip_L0, []⟩ :=
  loop_ok (A := A_passkeyref1_Skip) (done := []) (c0 := (Tryd.f30.body.getD .skip)) hmix passkeyref1_Skip_env done_nil rounds (by kernel_rfl) (by kernel_rfl) (fun x => passkeyref1_Skip_L0_eq x.1 x.2.1 x.2.2.1) (fun _ => rfl)
theorem passkeyref1_Skip_ok : SoundT Tryd.prog cd gdn 30 S_passkeyref1_Skip :=
  sound_fn (E := E_passkeyref1_Skip) (A := A_passkeyref1_Skip) (done := [0]) (c := (Tryd.f30.body.getD .skip)) (S := S_passkeyref1_Skip) (fn := Tryd.f30) hmix passkeyref1_Skip_env Tryd.func30 rfl (by kernel_rfl) (by kernel_rfl) (done_cons rfl passkeyref1_Skip_L0_ok done_nil) (by kernel_rfl) (by kernel_rfl) passkeyref1_Skip_eq
def passkeyref1_within (a0 : Int) (a1 : Int) (a2 : Int) : Option ((Unit) × (Bool × Unit)) :=
 (bif (decide (a1 ≤ a0)) then (some ((), ((decide (a0 ≤ a2)), ())))
 else (some ((), (false, ()))))
def S_passkeyref1_within : FSpec T := ⟨[.f (.v (.int .i64)), .f (.v (.int .i64)), .f (.v (.int .i64))], [(.v .bool)], fun x => passkeyref1_within x.1 x.2.1 x.2.2.1⟩
def E_passkeyref1_within : Env T := ⟨tab.find, cd, globs, flc, fun f ds => match f with
    | _ => none, fun f => match f with
    | _ => false⟩
def A_passkeyref1_within : Loc2 T := ⟨fun id => match id with
    | _ => none, fun r => match r with
    | _ => none, fun r => match r with
    | _ => false⟩
theorem passkeyref1_within_eq (x : tySs T S_passkeyref1_within.ps) : run E_passkeyref1_within A_passkeyref1_within (Tryd.f71.body.getD .skip) (enterT E_passkeyref1_within.C S_passkeyref1_within.ps x) (retK E_passkeyref1_within Tryd.f71.results.toList S_passkeyref1_within.ps S_passkeyref1_within.rs) = S_passkeyref1_within.fn x := by kernel_rfl
theorem passkeyref1_within_env : EnvOk Tryd.prog E_passkeyref1_within := envOk (E := E_passkeyref1_within) cd_ok tys fl_ok fun f ds S h => by cases h
theorem passkeyref1_within_ok : SoundT Tryd.prog cd gdn 71 S_passkeyref1_within :=
  sound_fn (E := E_passkeyref1_within) (A := A_passkeyref1_within) (done := []) (c := (Tryd.f71.body.getD .skip)) (S := S_passkeyref1_within) (fn := Tryd.f71) hmix passkeyref1_within_env Tryd.func71 rfl (by kernel_rfl) (by kernel_rfl) done_nil (by kernel_rfl) (by kernel_rfl) passkeyref1_within_eq
def passkeyref1_isKey (a0 : Int) : Option ((Unit) × (Bool × Unit)) :=
 (bif (decide (a0 = (1 : Int))) then (some ((), (true, ())))
 else (bif (decide (a0 = (2 : Int))) then (some ((), (true, ())))
 else (some ((), ((decide (a0 = (4 : Int))), ())))))
def S_passkeyref1_isKey : FSpec T := ⟨[.f (.v (.int .i64))], [(.v .bool)], fun x => passkeyref1_isKey x.1⟩
def E_passkeyref1_isKey : Env T := ⟨tab.find, cd, globs, flc, fun f ds => match f with
    | _ => none, fun f => match f with
    | _ => false⟩
def A_passkeyref1_isKey : Loc2 T := ⟨fun id => match id with
    | _ => none, fun r => match r with
    | _ => none, fun r => match r with
    | _ => false⟩
theorem passkeyref1_isKey_eq (x : tySs T S_passkeyref1_isKey.ps) : run E_passkeyref1_isKey A_passkeyref1_isKey (Tryd.f61.body.getD .skip) (enterT E_passkeyref1_isKey.C S_passkeyref1_isKey.ps x) (retK E_passkeyref1_isKey Tryd.f61.results.toList S_passkeyref1_isKey.ps S_passkeyref1_isKey.rs) = S_passkeyref1_isKey.fn x := by kernel_rfl
theorem passkeyref1_isKey_env : EnvOk Tryd.prog E_passkeyref1_isKey := envOk (E := E_passkeyref1_isKey) cd_ok tys fl_ok fun f ds S h => by cases h
theorem passkeyref1_isKey_ok : SoundT Tryd.prog cd gdn 61 S_passkeyref1_isKey :=
  sound_fn (E := E_passkeyref1_isKey) (A := A_passkeyref1_isKey) (done := []) (c := (Tryd.f61.body.getD .skip)) (S := S_passkeyref1_isKey) (fn := Tryd.f61) hmix passkeyref1_isKey_env Tryd.func61 rfl (by kernel_rfl) (by kernel_rfl) done_nil (by kernel_rfl) (by kernel_rfl) passkeyref1_isKey_eq
def passkeyref1_Words_L2b (y0 : (List (BitVec 64))) (y1 : (List (UInt8))) (y2 : Int) (y3 : Int) : Option (((List (BitVec 64)) × (List (UInt8)) × Int × Int × Unit) ⊕ ((List (BitVec 64)) × (List (UInt8)) × Int × Unit)) :=
 (bif (decide ((0 : Int) ≤ y3)) then ((getI y0 y2).bind fun x1 => (let v2 : BitVec 64 := (x1 >>> (BitVec.ofInt 64 (IntKind.wrap .i64 ((8 : Int) * y3))).toNat)
 (bif small ((y1).length + (([(UInt8.ofBitVec (BitVec.setWidth 8 v2))] : List (UInt8)) : List (UInt8)).length) 1 then (let v3 : List (UInt8) := (y1 ++ ([(UInt8.ofBitVec (BitVec.setWidth 8 v2))] : List (UInt8)))
 (some (Sum.inl (y0, v3, y2, (IntKind.wrap .i64 (y3 - (1 : Int))), ()))))
 else none)))
 else (some (Sum.inr (y0, y1, y2, ()))))
def passkeyref1_Words_L2 (y : ((List (BitVec 64)) × (List (UInt8)) × Int × Int × Unit)) : Option ((List (BitVec 64)) × (List (UInt8)) × Int × Unit) := iter (fun (y : ((List (BitVec 64)) × (List (UInt8)) × Int × Int × Unit)) => passkeyref1_Words_L2b y.1 y.2.1 y.2.2.1 y.2.2.2.1) rounds y
def passkeyref1_Words_L0b (y0 : (List (BitVec 64))) (y1 : (List (UInt8))) (y2 : Int) : Option (((List (BitVec 64)) × (List (UInt8)) × Int × Unit) ⊕ ((List (UInt8)) × Unit)) :=
 (bif (decide (y2 < ((y0).length : Int))) then ((passkeyref1_Words_L2 (y0, y1, y2, (7 : Int), ())).bind (fun (z1 : ((List (BitVec 64)) × (List (UInt8)) × Int × Unit)) => (some (Sum.inl (z1.1, z1.2.1, (IntKind.wrap .i64 (z1.2.2.1 + (1 : Int))), ())))))
 else (some (Sum.inr (y1, ()))))
def passkeyref1_Words_L0 (y : ((List (BitVec 64)) × (List (UInt8)) × Int × Unit)) : Option ((List (UInt8)) × Unit) := iter (fun (y : ((List (BitVec 64)) × (List (UInt8)) × Int × Unit)) => passkeyref1_Words_L0b y.1 y.2.1 y.2.2.1) rounds y
def passkeyref1_Words (a0 : (List (BitVec 64))) : Option ((Unit) × ((List (UInt8)) × Unit)) :=
 ((passkeyref1_Words_L0 (a0, [], (0 : Int), ())).bind (fun (z2 : ((List (UInt8)) × Unit)) => (some ((), (z2.1, ())))))
def S_passkeyref1_Words : FSpec T := ⟨[.f (.v (.rs 5))], [(.own 0)], fun x => passkeyref1_Words x.1⟩
def E_passkeyref1_Words : Env T := ⟨tab.find, cd, globs, flc, fun f ds => match f with
    | _ => none, fun f => match f with
    | _ => false⟩
def A_passkeyref1_Words : Loc2 T := ⟨fun id => match id with
    | 2 => some ⟨[(0, .f (.v (.rs 5))), (3, .f (.own 0)), (4, .f (.v (.int .i64))), (5, .f (.v (.int .i64)))], [(.exit 2, [(0, .f (.v (.rs 5))), (3, .f (.own 0)), (4, .f (.v (.int .i64)))])], passkeyref1_Words_L2, []⟩
    | 0 => some ⟨[(0, .f (.v (.rs 5))), (3, .f (.own 0)), (4, .f (.v (.int .i64)))], [(.exit 0, [(3, .f (.own 0))])], passkeyref1_Words_L0, []⟩
    | _ => none, fun r => match r with
    | _ => none, fun r => match r with
    | _ => false⟩
theorem passkeyref1_Words_L2_eq (y0 : (List (BitVec 64))) (y1 : (List (UInt8))) (y2 : Int) (y3 : Int) : run E_passkeyref1_Words A_passkeyref1_Words (loopAt 2 (Tryd.f67.body.getD .skip)) (layC cd [(0, .f (.v (.rs 5))), (3, .f (.own 0)), (4, .f (.v (.int .i64))), (5, .f (.v (.int .i64)))] [] (y0, y1, y2, y3, ())) (roundK cd [(0, .f (.v (.rs 5))), (3, .f (.own 0)), (4, .f (.v (.int .i64))), (5, .f (.v (.int .i64)))] [] [(.exit 2, [(0, .f (.v (.rs 5))), (3, .f (.own 0)), (4, .f (.v (.int .i64)))])]) = passkeyref1_Words_L2b y0 y1 y2 y3 := by kernel_rfl
theorem passkeyref1_Words_L0_eq (y0 : (List (BitVec 64))) (y1 : (List (UInt8))) (y2 : Int) : run E_passkeyref1_Words A_passkeyref1_Words (loopAt 0 (Tryd.f67.body.getD .skip)) (layC cd [(0, .f (.v (.rs 5))), (3, .f (.own 0)), (4, .f (.v (.int .i64)))] [] (y0, y1, y2, ())) (roundK cd [(0, .f (.v (.rs 5))), (3, .f (.own 0)), (4, .f (.v (.int .i64)))] [] [(.exit 0, [(3, .f (.own 0))])]) = passkeyref1_Words_L0b y0 y1 y2 := by kernel_rfl
theorem passkeyref1_Words_eq (x : tySs T S_passkeyref1_Words.ps) : run E_passkeyref1_Words A_passkeyref1_Words (Tryd.f67.body.getD .skip) (enterT E_passkeyref1_Words.C S_passkeyref1_Words.ps x) (retK E_passkeyref1_Words Tryd.f67.results.toList S_passkeyref1_Words.ps S_passkeyref1_Words.rs) = S_passkeyref1_Words.fn x := by kernel_rfl
theorem passkeyref1_Words_env : EnvOk Tryd.prog E_passkeyref1_Words := envOk (E := E_passkeyref1_Words) cd_ok tys fl_ok fun f ds S h => by cases h
theorem passkeyref1_Words_L2_ok : LoopOk Tryd.prog E_passkeyref1_Words Tryd.f67.ntmps (kqOf S_passkeyref1_Words.ps 0) (loopAt 2 (Tryd.f67.body.getD .skip)) ⟨[(0, .f (.v (.rs 5))), (3, .f (.own 0)), (4, .f (.v (.int .i64))), (5, .f (.v (.int .i64)))], [(.exit 2, [(0, .f (.v (.rs 5))), (3, .f (.own 0)), (4, .f (.v (.int .i64)))])], passkeyref1_Words_L2, []⟩ :=
  loop_ok (A := A_passkeyref1_Words) (done := []) (c0 := (Tryd.f67.body.getD .skip)) hmix passkeyref1_Words_env done_nil rounds (by kernel_rfl) (by kernel_rfl) (fun x => passkeyref1_Words_L2_eq x.1 x.2.1 x.2.2.1 x.2.2.2.1) (fun _ => rfl)
theorem passkeyref1_Words_L0_ok : LoopOk Tryd.prog E_passkeyref1_Words Tryd.f67.ntmps (kqOf S_passkeyref1_Words.ps 0) (loopAt 0 (Tryd.f67.body.getD .skip)) ⟨[(0, .f (.v (.rs 5))), (3, .f (.own 0)), (4, .f (.v (.int .i64)))], [(.exit 0, [(3, .f (.own 0))])], passkeyref1_Words_L0, []⟩ :=
  loop_ok (A := A_passkeyref1_Words) (done := [2]) (c0 := (Tryd.f67.body.getD .skip)) hmix passkeyref1_Words_env (done_cons rfl passkeyref1_Words_L2_ok done_nil) rounds (by kernel_rfl) (by kernel_rfl) (fun x => passkeyref1_Words_L0_eq x.1 x.2.1 x.2.2.1) (fun _ => rfl)
theorem passkeyref1_Words_ok : SoundT Tryd.prog cd gdn 67 S_passkeyref1_Words :=
  sound_fn (E := E_passkeyref1_Words) (A := A_passkeyref1_Words) (done := [2, 0]) (c := (Tryd.f67.body.getD .skip)) (S := S_passkeyref1_Words) (fn := Tryd.f67) hmix passkeyref1_Words_env Tryd.func67 rfl (by kernel_rfl) (by kernel_rfl) (done_cons rfl passkeyref1_Words_L2_ok (done_cons rfl passkeyref1_Words_L0_ok done_nil)) (by kernel_rfl) (by kernel_rfl) passkeyref1_Words_eq
def passkeyref1_Head (a0 : ApiItem) : Option ((Unit) × ((List (UInt8)) × Unit)) :=
 ((bif (decide (a0.kind = (7 : Int))) then (let v1 : UInt8 := (UInt8.ofBitVec ((244 : UInt8).toBitVec + (UInt8.ofBitVec (BitVec.setWidth 8 a0.number)).toBitVec))
 (((some ((), (([v1] : List (UInt8)), ())))).bind fun q => some (Sum.inr q)))
 else (bif (decide (a0.kind = (8 : Int))) then (((some ((), (([(246 : UInt8)] : List (UInt8)), ())))).bind fun q => some (Sum.inr q))
 else (bif (decide (a0.kind = (2 : Int))) then (some (Sum.inl (a0.number, (32 : UInt8), ())))
 else (bif (decide (a0.kind = (3 : Int))) then (some (Sum.inl ((BitVec.ofInt 64 ((a0.data).length : Int)), (64 : UInt8), ())))
 else (bif (decide (a0.kind = (4 : Int))) then (some (Sum.inl ((BitVec.ofInt 64 ((a0.data).length : Int)), (96 : UInt8), ())))
 else (bif (decide (a0.kind = (5 : Int))) then (some (Sum.inl (a0.number, (128 : UInt8), ())))
 else (bif (decide (a0.kind = (6 : Int))) then (some (Sum.inl (a0.number, (160 : UInt8), ())))
 else (some (Sum.inl (a0.number, (0 : UInt8), ())))))))))).bind (Sum.elim (fun (j2 : ((BitVec 64) × UInt8 × Unit)) => (bif (decide (j2.1.toNat < (24#64).toNat)) then (let v3 : UInt8 := (UInt8.ofBitVec (j2.2.1.toBitVec + (UInt8.ofBitVec (BitVec.setWidth 8 j2.1)).toBitVec))
 (some ((), (([v3] : List (UInt8)), ()))))
 else (bif (decide (j2.1.toNat < (256#64).toNat)) then (let v4 : List (UInt8) := ([(UInt8.ofBitVec (j2.2.1.toBitVec + (24 : UInt8).toBitVec)), (UInt8.ofBitVec (BitVec.setWidth 8 j2.1))] : List (UInt8))
 (some ((), (v4, ()))))
 else (bif (decide (j2.1.toNat < (65536#64).toNat)) then (let v5 : List (UInt8) := ([(UInt8.ofBitVec (j2.2.1.toBitVec + (25 : UInt8).toBitVec)), (UInt8.ofBitVec (BitVec.setWidth 8 (j2.1 >>> 8))), (UInt8.ofBitVec (BitVec.setWidth 8 j2.1))] : List (UInt8))
 (some ((), (v5, ()))))
 else (bif (decide (j2.1.toNat < (4294967296#64).toNat)) then (let v6 : List (UInt8) := ([(UInt8.ofBitVec (j2.2.1.toBitVec + (26 : UInt8).toBitVec)), (UInt8.ofBitVec (BitVec.setWidth 8 (j2.1 >>> 24))), (UInt8.ofBitVec (BitVec.setWidth 8 (j2.1 >>> 16))), (UInt8.ofBitVec (BitVec.setWidth 8 (j2.1 >>> 8))), (UInt8.ofBitVec (BitVec.setWidth 8 j2.1))] : List (UInt8))
 (some ((), (v6, ()))))
 else (let v7 : List (UInt8) := ([(UInt8.ofBitVec (j2.2.1.toBitVec + (27 : UInt8).toBitVec))] : List (UInt8))
 ((passkeyref1_Words ([j2.1] : List (BitVec 64))).bind fun r8 => (bif small ((v7).length + (r8.2.1 : List (UInt8)).length) 1 then (some ((), ((v7 ++ r8.2.1), ())))
 else none)))))))) some))
def S_passkeyref1_Head : FSpec T := ⟨[.f (.v (.agg 1))], [(.own 0)], fun x => passkeyref1_Head x.1⟩
def E_passkeyref1_Head : Env T := ⟨tab.find, cd, globs, flc, fun f ds => match f with
    | 67 => some S_passkeyref1_Words
    | _ => none, fun f => match f with
    | _ => false⟩
def A_passkeyref1_Head : Loc2 T := ⟨fun id => match id with
    | _ => none, fun r => match r with
    | 18 => some ([(3, .f (.v .u64)), (4, .f (.v .u8))], false)
    | _ => none, fun r => match r with
    | _ => false⟩
theorem passkeyref1_Head_eq (x : tySs T S_passkeyref1_Head.ps) : run E_passkeyref1_Head A_passkeyref1_Head (Tryd.f52.body.getD .skip) (enterT E_passkeyref1_Head.C S_passkeyref1_Head.ps x) (retK E_passkeyref1_Head Tryd.f52.results.toList S_passkeyref1_Head.ps S_passkeyref1_Head.rs) = S_passkeyref1_Head.fn x := by kernel_rfl
theorem passkeyref1_Head_env : EnvOk Tryd.prog E_passkeyref1_Head := envOk (E := E_passkeyref1_Head) cd_ok tys fl_ok fun f ds S h => by
    dsimp only [E_passkeyref1_Head] at h
    split at h
    · cases h; exact passkeyref1_Words_ok
    · cases h
theorem passkeyref1_Head_ok : SoundT Tryd.prog cd gdn 52 S_passkeyref1_Head :=
  sound_fn (E := E_passkeyref1_Head) (A := A_passkeyref1_Head) (done := []) (c := (Tryd.f52.body.getD .skip)) (S := S_passkeyref1_Head) (fn := Tryd.f52) hmix passkeyref1_Head_env Tryd.func52 rfl (by kernel_rfl) (by kernel_rfl) done_nil (by kernel_rfl) (by kernel_rfl) passkeyref1_Head_eq
def passkeyref1_Bytes (a0 : ApiItem) : Option ((Unit) × ((List UInt8) × Unit)) :=
 ((passkeyref1_Head a0).bind fun r1 => (bif Nat.ble ((r1.2.1).length + (a0.data).length) 9223372036854775807 then (some ((), ((r1.2.1 ++ a0.data), ())))
 else none))
def S_passkeyref1_Bytes : FSpec T := ⟨[.f (.v (.agg 1))], [(.v .str)], fun x => passkeyref1_Bytes x.1⟩
def E_passkeyref1_Bytes : Env T := ⟨tab.find, cd, globs, flc, fun f ds => match f with
    | 52 => some S_passkeyref1_Head
    | _ => none, fun f => match f with
    | _ => false⟩
def A_passkeyref1_Bytes : Loc2 T := ⟨fun id => match id with
    | _ => none, fun r => match r with
    | _ => none, fun r => match r with
    | 1 => true
    | _ => false⟩
theorem passkeyref1_Bytes_eq (x : tySs T S_passkeyref1_Bytes.ps) : run E_passkeyref1_Bytes A_passkeyref1_Bytes (Tryd.f38.body.getD .skip) (enterT E_passkeyref1_Bytes.C S_passkeyref1_Bytes.ps x) (retK E_passkeyref1_Bytes Tryd.f38.results.toList S_passkeyref1_Bytes.ps S_passkeyref1_Bytes.rs) = S_passkeyref1_Bytes.fn x := by kernel_rfl
theorem passkeyref1_Bytes_env : EnvOk Tryd.prog E_passkeyref1_Bytes := envOk (E := E_passkeyref1_Bytes) cd_ok tys fl_ok fun f ds S h => by
    dsimp only [E_passkeyref1_Bytes] at h
    split at h
    · cases h; exact passkeyref1_Head_ok
    · cases h
theorem passkeyref1_Bytes_ok : SoundT Tryd.prog cd gdn 38 S_passkeyref1_Bytes :=
  sound_fn (E := E_passkeyref1_Bytes) (A := A_passkeyref1_Bytes) (done := []) (c := (Tryd.f38.body.getD .skip)) (S := S_passkeyref1_Bytes) (fn := Tryd.f38) hmix passkeyref1_Bytes_env Tryd.func38 rfl (by kernel_rfl) (by kernel_rfl) done_nil (by kernel_rfl) (by kernel_rfl) passkeyref1_Bytes_eq
def passkeyref1_less (a0 : (List UInt8)) (a1 : (List UInt8)) : Option ((Unit) × (Bool × Unit)) :=
 (bif (!decide (((a0).length : Int) = ((a1).length : Int))) then (some ((), ((decide (((a0).length : Int) < ((a1).length : Int))), ())))
 else (some ((), ((Op.bytesLess a0 a1), ()))))
def S_passkeyref1_less : FSpec T := ⟨[.f (.v .str), .f (.v .str)], [(.v .bool)], fun x => passkeyref1_less x.1 x.2.1⟩
def E_passkeyref1_less : Env T := ⟨tab.find, cd, globs, flc, fun f ds => match f with
    | _ => none, fun f => match f with
    | _ => false⟩
def A_passkeyref1_less : Loc2 T := ⟨fun id => match id with
    | _ => none, fun r => match r with
    | _ => none, fun r => match r with
    | _ => false⟩
theorem passkeyref1_less_eq (x : tySs T S_passkeyref1_less.ps) : run E_passkeyref1_less A_passkeyref1_less (Tryd.f63.body.getD .skip) (enterT E_passkeyref1_less.C S_passkeyref1_less.ps x) (retK E_passkeyref1_less Tryd.f63.results.toList S_passkeyref1_less.ps S_passkeyref1_less.rs) = S_passkeyref1_less.fn x := by kernel_rfl
theorem passkeyref1_less_env : EnvOk Tryd.prog E_passkeyref1_less := envOk (E := E_passkeyref1_less) cd_ok tys fl_ok fun f ds S h => by cases h
theorem passkeyref1_less_ok : SoundT Tryd.prog cd gdn 63 S_passkeyref1_less :=
  sound_fn (E := E_passkeyref1_less) (A := A_passkeyref1_less) (done := []) (c := (Tryd.f63.body.getD .skip)) (S := S_passkeyref1_less) (fn := Tryd.f63) hmix passkeyref1_less_env Tryd.func63 rfl (by kernel_rfl) (by kernel_rfl) done_nil (by kernel_rfl) (by kernel_rfl) passkeyref1_less_eq
def passkeyref1_check (a0 : ApiItem) (a1 : Int) (a2 : Int) (a3 : Bool) (a4 : (List UInt8)) : Option ((Unit) × (Int × Unit)) :=
 ((bif (decide (a0.kind = (3 : Int))) then (some (a1, a2, a3, a4, (a0, ()), true, ()))
 else (some (a1, a2, a3, a4, (a0, ()), (decide (a0.kind = (4 : Int))), ()))).bind (fun (j1 : (Int × Int × Bool × (List UInt8) × (ApiItem × Unit) × Bool × Unit)) => ((bif (decide (j1.2.2.2.2.1.1.kind = (5 : Int))) then (some (j1.1, j1.2.1, j1.2.2.1, j1.2.2.2.1, (j1.2.2.2.2.1.1, ()), j1.2.2.2.2.2.1, true, ()))
 else (some (j1.1, j1.2.1, j1.2.2.1, j1.2.2.2.1, (j1.2.2.2.2.1.1, ()), j1.2.2.2.2.2.1, (decide (j1.2.2.2.2.1.1.kind = (6 : Int))), ()))).bind (fun (j2 : (Int × Int × Bool × (List UInt8) × (ApiItem × Unit) × Bool × Bool × Unit)) => (bif (decide ((512 : Int) ≤ j2.1)) then (some ((), ((8 : Int), ())))
 else (((passkeyref1_within j2.2.2.2.2.1.1.kind (1 : Int) (8 : Int)).bind fun r3 => (bif (!r3.2.1) then (some (j2.2.1, j2.2.2.1, j2.2.2.2.1, (j2.2.2.2.2.1.1, ()), j2.2.2.2.2.2.1, j2.2.2.2.2.2.2.1, true, ()))
 else (bif j2.2.2.1 then ((passkeyref1_isKey j2.2.2.2.2.1.1.kind).bind fun r4 => (some (j2.2.1, j2.2.2.1, j2.2.2.2.1, (j2.2.2.2.2.1.1, ()), j2.2.2.2.2.2.1, j2.2.2.2.2.2.2.1, (!r4.2.1), ())))
 else (some (j2.2.1, j2.2.2.1, j2.2.2.2.1, (j2.2.2.2.2.1.1, ()), j2.2.2.2.2.2.1, j2.2.2.2.2.2.2.1, false, ()))))).bind (fun (j5 : (Int × Bool × (List UInt8) × (ApiItem × Unit) × Bool × Bool × Bool × Unit)) => (bif j5.2.2.2.2.2.2.1 then (some ((), ((3 : Int), ())))
 else (bif (decide ((8 : Int) < j5.1)) then (some ((), ((5 : Int), ())))
 else ((bif j5.2.2.2.2.1 then (bif (!decide (j5.2.2.2.1.1.number = 0#64)) then (some (j5.2.1, j5.2.2.1, (j5.2.2.2.1.1, ()), j5.2.2.2.2.2.1, true, ()))
 else (bif (decide (j5.2.2.2.1.1.kind = (7 : Int))) then (bif (decide ((1#64).toNat < j5.2.2.2.1.1.number.toNat)) then (some (j5.2.1, j5.2.2.1, (j5.2.2.2.1.1, ()), j5.2.2.2.2.2.1, true, ()))
 else (bif (!j5.2.2.2.2.1) then (some (j5.2.1, j5.2.2.1, (j5.2.2.2.1.1, ()), j5.2.2.2.2.2.1, (!decide (j5.2.2.2.1.1.data = ([] : List UInt8))), ()))
 else (some (j5.2.1, j5.2.2.1, (j5.2.2.2.1.1, ()), j5.2.2.2.2.2.1, false, ()))))
 else (bif (!j5.2.2.2.2.1) then (some (j5.2.1, j5.2.2.1, (j5.2.2.2.1.1, ()), j5.2.2.2.2.2.1, (!decide (j5.2.2.2.1.1.data = ([] : List UInt8))), ()))
 else (some (j5.2.1, j5.2.2.1, (j5.2.2.2.1.1, ()), j5.2.2.2.2.2.1, false, ())))))
 else (bif (decide (j5.2.2.2.1.1.kind = (8 : Int))) then (bif (!decide (j5.2.2.2.1.1.number = 0#64)) then (some (j5.2.1, j5.2.2.1, (j5.2.2.2.1.1, ()), j5.2.2.2.2.2.1, true, ()))
 else (bif (decide (j5.2.2.2.1.1.kind = (7 : Int))) then (bif (decide ((1#64).toNat < j5.2.2.2.1.1.number.toNat)) then (some (j5.2.1, j5.2.2.1, (j5.2.2.2.1.1, ()), j5.2.2.2.2.2.1, true, ()))
 else (bif (!j5.2.2.2.2.1) then (some (j5.2.1, j5.2.2.1, (j5.2.2.2.1.1, ()), j5.2.2.2.2.2.1, (!decide (j5.2.2.2.1.1.data = ([] : List UInt8))), ()))
 else (some (j5.2.1, j5.2.2.1, (j5.2.2.2.1.1, ()), j5.2.2.2.2.2.1, false, ()))))
 else (bif (!j5.2.2.2.2.1) then (some (j5.2.1, j5.2.2.1, (j5.2.2.2.1.1, ()), j5.2.2.2.2.2.1, (!decide (j5.2.2.2.1.1.data = ([] : List UInt8))), ()))
 else (some (j5.2.1, j5.2.2.1, (j5.2.2.2.1.1, ()), j5.2.2.2.2.2.1, false, ())))))
 else (bif (decide (j5.2.2.2.1.1.kind = (7 : Int))) then (bif (decide ((1#64).toNat < j5.2.2.2.1.1.number.toNat)) then (some (j5.2.1, j5.2.2.1, (j5.2.2.2.1.1, ()), j5.2.2.2.2.2.1, true, ()))
 else (bif (!j5.2.2.2.2.1) then (some (j5.2.1, j5.2.2.1, (j5.2.2.2.1.1, ()), j5.2.2.2.2.2.1, (!decide (j5.2.2.2.1.1.data = ([] : List UInt8))), ()))
 else (some (j5.2.1, j5.2.2.1, (j5.2.2.2.1.1, ()), j5.2.2.2.2.2.1, false, ()))))
 else (bif (!j5.2.2.2.2.1) then (some (j5.2.1, j5.2.2.1, (j5.2.2.2.1.1, ()), j5.2.2.2.2.2.1, (!decide (j5.2.2.2.1.1.data = ([] : List UInt8))), ()))
 else (some (j5.2.1, j5.2.2.1, (j5.2.2.2.1.1, ()), j5.2.2.2.2.2.1, false, ())))))).bind (fun (j6 : (Bool × (List UInt8) × (ApiItem × Unit) × Bool × Bool × Unit)) => (bif j6.2.2.2.2.1 then (some ((), ((4 : Int), ())))
 else ((bif (decide ((1024 : Int) < ((j6.2.2.1.1.data).length : Int))) then (some (j6.1, j6.2.1, (j6.2.2.1.1, ()), true, ()))
 else (bif j6.2.2.2.1 then (some (j6.1, j6.2.1, (j6.2.2.1.1, ()), (decide ((512#64).toNat < j6.2.2.1.1.number.toNat)), ()))
 else (some (j6.1, j6.2.1, (j6.2.2.1.1, ()), false, ())))).bind (fun (j7 : (Bool × (List UInt8) × (ApiItem × Unit) × Bool × Unit)) => (bif j7.2.2.2.1 then (some ((), ((8 : Int), ())))
 else ((bif (decide (j7.2.2.1.1.kind = (4 : Int))) then ((utf8_ValidString j7.2.2.1.1.data).bind fun r8 => (some (j7.1, j7.2.1, (j7.2.2.1.1, ()), (!r8.2.1), ())))
 else (some (j7.1, j7.2.1, (j7.2.2.1.1, ()), false, ()))).bind (fun (j9 : (Bool × (List UInt8) × (ApiItem × Unit) × Bool × Unit)) => (bif j9.2.2.2.1 then (some ((), ((6 : Int), ())))
 else ((bif j9.1 then (bif (!decide (j9.2.1 = ([] : List UInt8))) then ((passkeyref1_Bytes j9.2.2.1.1).bind fun r10 => ((passkeyref1_less j9.2.1 r10.2.1).bind fun r11 => (some ((!r11.2.1), ()))))
 else (some (false, ())))
 else (some (false, ()))).bind (fun (j12 : (Bool × Unit)) => (bif j12.1 then (some ((), ((7 : Int), ())))
 else (some ((), ((0 : Int), ()))))))))))))))))))))))))
def S_passkeyref1_check : FSpec T := ⟨[.f (.v (.agg 1)), .f (.v (.int .i64)), .f (.v (.int .i64)), .f (.v .bool), .f (.v .str)], [(.v (.int .i64))], fun x => passkeyref1_check x.1 x.2.1 x.2.2.1 x.2.2.2.1 x.2.2.2.2.1⟩
def E_passkeyref1_check : Env T := ⟨tab.find, cd, globs, flc, fun f ds => match f with
    | 38 => some S_passkeyref1_Bytes
    | 61 => some S_passkeyref1_isKey
    | 62 => some S_utf8_ValidString
    | 63 => some S_passkeyref1_less
    | 71 => some S_passkeyref1_within
    | _ => none, fun f => match f with
    | 38 => true
    | 61 => true
    | 62 => true
    | 63 => true
    | 71 => true
    | _ => false⟩
def A_passkeyref1_check : Loc2 T := ⟨fun id => match id with
    | _ => none, fun r => match r with
    | 2 => some ([(1, .f (.v (.int .i64))), (2, .f (.v (.int .i64))), (3, .f (.v .bool)), (4, .f (.v .str)), (5, .ptr [(.v (.agg 1))]), (11, .f (.v .bool))], true)
    | 3 => some ([(1, .f (.v (.int .i64))), (2, .f (.v (.int .i64))), (3, .f (.v .bool)), (4, .f (.v .str)), (5, .ptr [(.v (.agg 1))]), (11, .f (.v .bool)), (12, .f (.v .bool))], true)
    | 6 => some ([(2, .f (.v (.int .i64))), (3, .f (.v .bool)), (4, .f (.v .str)), (5, .ptr [(.v (.agg 1))]), (11, .f (.v .bool)), (12, .f (.v .bool)), (32, .f (.v .bool))], true)
    | 10 => some ([(3, .f (.v .bool)), (4, .f (.v .str)), (5, .ptr [(.v (.agg 1))]), (12, .f (.v .bool)), (49, .f (.v .bool))], true)
    | 12 => some ([(3, .f (.v .bool)), (4, .f (.v .str)), (5, .ptr [(.v (.agg 1))]), (80, .f (.v .bool))], true)
    | 14 => some ([(3, .f (.v .bool)), (4, .f (.v .str)), (5, .ptr [(.v (.agg 1))]), (93, .f (.v .bool))], true)
    | 16 => some ([(103, .f (.v .bool))], true)
    | _ => none, fun r => match r with
    | _ => false⟩
theorem passkeyref1_check_eq (x : tySs T S_passkeyref1_check.ps) : run E_passkeyref1_check A_passkeyref1_check (Tryd.f56.body.getD .skip) (enterT E_passkeyref1_check.C S_passkeyref1_check.ps x) (retK E_passkeyref1_check Tryd.f56.results.toList S_passkeyref1_check.ps S_passkeyref1_check.rs) = S_passkeyref1_check.fn x := by kernel_rfl
theorem passkeyref1_check_env : EnvOk Tryd.prog E_passkeyref1_check := envOk (E := E_passkeyref1_check) cd_ok tys fl_ok fun f ds S h => by
    dsimp only [E_passkeyref1_check] at h
    split at h
    · cases h; exact passkeyref1_Bytes_ok
    · cases h; exact passkeyref1_isKey_ok
    · cases h; exact utf8_ValidString_ok
    · cases h; exact passkeyref1_less_ok
    · cases h; exact passkeyref1_within_ok
    · cases h
theorem passkeyref1_check_ok : SoundT Tryd.prog cd gdn 56 S_passkeyref1_check :=
  sound_fn (E := E_passkeyref1_check) (A := A_passkeyref1_check) (done := []) (c := (Tryd.f56.body.getD .skip)) (S := S_passkeyref1_check) (fn := Tryd.f56) hmix passkeyref1_check_env Tryd.func56 rfl (by kernel_rfl) (by kernel_rfl) done_nil (by kernel_rfl) (by kernel_rfl) passkeyref1_check_eq
def passkeyref1_walk_L0b (k_rec : (List (ApiItem)) → Int → Int → Bool → (List UInt8) → Option ((Unit) × (Int × Int × Unit))) (y0 : (List (ApiItem))) (y1 : Int) (y2 : (ApiItem × Unit)) (y3 : Int) (y4 : (List UInt8)) (y5 : (BitVec 64)) : Option (((List (ApiItem)) × Int × (ApiItem × Unit) × Int × (List UInt8) × (BitVec 64) × Unit) ⊕ ((Int × Int × Unit) ⊕ (Int × Unit))) :=
 (bif (decide (y5.toNat < y2.1.number.toNat)) then (bif (decide (y2.1.kind = (5 : Int))) then ((bif (decide (y2.1.kind = (6 : Int))) then ((k_rec y0 y3 (IntKind.wrap .i64 (y1 + (1 : Int))) true y4).bind fun r3 => (bif (!decide (r3.2.2.1 = (0 : Int))) then (((some (Sum.inr (Sum.inl (r3.2.1, r3.2.2.1, ()))))).bind fun q => some (Sum.inr q))
 else ((getI y0 y3).bind fun x4 => ((passkeyref1_Bytes x4).bind fun r5 => (some (Sum.inl (y0, y1, (y2.1, ()), r3.2.1, r5.2.1, y5, ())))))))
 else (some (Sum.inl (y0, y1, (y2.1, ()), y3, y4, y5, ())))).bind (Sum.elim (fun (j6 : ((List (ApiItem)) × Int × (ApiItem × Unit) × Int × (List UInt8) × (BitVec 64) × Unit)) => ((k_rec j6.1 j6.2.2.2.1 (IntKind.wrap .i64 (j6.2.1 + (1 : Int))) false ([] : List UInt8)).bind fun r7 => (bif (!decide (r7.2.2.1 = (0 : Int))) then (some (Sum.inr (Sum.inl (r7.2.1, r7.2.2.1, ()))))
 else (some (Sum.inl (j6.1, j6.2.1, (j6.2.2.1.1, ()), r7.2.1, j6.2.2.2.2.1, (j6.2.2.2.2.2.1 + 1#64), ())))))) some))
 else (bif (decide (y2.1.kind = (6 : Int))) then ((bif (decide (y2.1.kind = (6 : Int))) then ((k_rec y0 y3 (IntKind.wrap .i64 (y1 + (1 : Int))) true y4).bind fun r8 => (bif (!decide (r8.2.2.1 = (0 : Int))) then (((some (Sum.inr (Sum.inl (r8.2.1, r8.2.2.1, ()))))).bind fun q => some (Sum.inr q))
 else ((getI y0 y3).bind fun x9 => ((passkeyref1_Bytes x9).bind fun r10 => (some (Sum.inl (y0, y1, (y2.1, ()), r8.2.1, r10.2.1, y5, ())))))))
 else (some (Sum.inl (y0, y1, (y2.1, ()), y3, y4, y5, ())))).bind (Sum.elim (fun (j11 : ((List (ApiItem)) × Int × (ApiItem × Unit) × Int × (List UInt8) × (BitVec 64) × Unit)) => ((k_rec j11.1 j11.2.2.2.1 (IntKind.wrap .i64 (j11.2.1 + (1 : Int))) false ([] : List UInt8)).bind fun r12 => (bif (!decide (r12.2.2.1 = (0 : Int))) then (some (Sum.inr (Sum.inl (r12.2.1, r12.2.2.1, ()))))
 else (some (Sum.inl (j11.1, j11.2.1, (j11.2.2.1.1, ()), r12.2.1, j11.2.2.2.2.1, (j11.2.2.2.2.2.1 + 1#64), ())))))) some))
 else (some (Sum.inr (Sum.inr (y3, ()))))))
 else (some (Sum.inr (Sum.inr (y3, ())))))
def passkeyref1_walk_L0 (k_rec : (List (ApiItem)) → Int → Int → Bool → (List UInt8) → Option ((Unit) × (Int × Int × Unit))) (y : ((List (ApiItem)) × Int × (ApiItem × Unit) × Int × (List UInt8) × (BitVec 64) × Unit)) : Option ((Int × Int × Unit) ⊕ (Int × Unit)) := iter (fun (y : ((List (ApiItem)) × Int × (ApiItem × Unit) × Int × (List UInt8) × (BitVec 64) × Unit)) => passkeyref1_walk_L0b k_rec y.1 y.2.1 y.2.2.1 y.2.2.2.1 y.2.2.2.2.1 y.2.2.2.2.2.1) rounds y
def passkeyref1_walk_R (k_rec : (List (ApiItem)) → Int → Int → Bool → (List UInt8) → Option ((Unit) × (Int × Int × Unit))) (a0 : (List (ApiItem))) (a1 : Int) (a2 : Int) (a3 : Bool) (a4 : (List UInt8)) : Option ((Unit) × (Int × Int × Unit)) :=
 (bif (decide (((a0).length : Int) ≤ a1)) then (some ((), (a1, (1 : Int), ())))
 else ((getI a0 a1).bind fun x1 => ((passkeyref1_check x1 a1 a2 a3 a4).bind fun r2 => (bif (!decide (r2.2.1 = (0 : Int))) then (some ((), (a1, r2.2.1, ())))
 else ((passkeyref1_walk_L0 k_rec (a0, a2, (x1, ()), (IntKind.wrap .i64 (a1 + (1 : Int))), ([] : List UInt8), 0#64, ())).bind (Sum.elim (fun (z13 : (Int × Int × Unit)) => (some ((), (z13.1, z13.2.1, ())))) (fun (z14 : (Int × Unit)) => (some ((), (z14.1, (0 : Int), ()))))))))))
abbrev ps_passkeyref1_walk : List Slot := [.f (.v (.rs 1)), .f (.v (.int .i64)), .f (.v (.int .i64)), .f (.v .bool), .f (.v .str)]
abbrev rs_passkeyref1_walk : List Fld := [(.v (.int .i64)), (.v (.int .i64))]
def E_passkeyref1_walk (k_rec : (List (ApiItem)) → Int → Int → Bool → (List UInt8) → Option ((Unit) × (Int × Int × Unit))) : Env T := ⟨tab.find, cd, globs, flc, fun f ds => match f with
    | 38 => some S_passkeyref1_Bytes
    | 41 => some ⟨ps_passkeyref1_walk, rs_passkeyref1_walk, fun x => k_rec x.1 x.2.1 x.2.2.1 x.2.2.2.1 x.2.2.2.2.1⟩
    | 56 => some S_passkeyref1_check
    | _ => none, fun f => match f with
    | 38 => true
    | 41 => true
    | 56 => true
    | _ => false⟩
def A_passkeyref1_walk (k_rec : (List (ApiItem)) → Int → Int → Bool → (List UInt8) → Option ((Unit) × (Int × Int × Unit))) : Loc2 T := ⟨fun id => match id with
    | 0 => some ⟨[(0, .f (.v (.rs 1))), (2, .f (.v (.int .i64))), (12, .ptr [(.v (.agg 1))]), (14, .f (.v (.int .i64))), (15, .f (.v .str)), (16, .f (.v .u64))], [(.ret, [(10, .f (.v (.int .i64))), (11, .f (.v (.int .i64)))]), (.exit 0, [(14, .f (.v (.int .i64)))])], passkeyref1_walk_L0 k_rec, []⟩
    | _ => none, fun r => match r with
    | 19 => some ([(0, .f (.v (.rs 1))), (2, .f (.v (.int .i64))), (12, .ptr [(.v (.agg 1))]), (14, .f (.v (.int .i64))), (15, .f (.v .str)), (16, .f (.v .u64))], false)
    | _ => none, fun r => match r with
    | _ => false⟩
theorem passkeyref1_walk_L0_eq (k_rec : (List (ApiItem)) → Int → Int → Bool → (List UInt8) → Option ((Unit) × (Int × Int × Unit))) (y0 : (List (ApiItem))) (y1 : Int) (y2 : (ApiItem × Unit)) (y3 : Int) (y4 : (List UInt8)) (y5 : (BitVec 64)) : run (E_passkeyref1_walk k_rec) (A_passkeyref1_walk k_rec) (loopAt 0 (Tryd.f41.body.getD .skip)) (layC cd [(0, .f (.v (.rs 1))), (2, .f (.v (.int .i64))), (12, .ptr [(.v (.agg 1))]), (14, .f (.v (.int .i64))), (15, .f (.v .str)), (16, .f (.v .u64))] [] (y0, y1, y2, y3, y4, y5, ())) (roundK cd [(0, .f (.v (.rs 1))), (2, .f (.v (.int .i64))), (12, .ptr [(.v (.agg 1))]), (14, .f (.v (.int .i64))), (15, .f (.v .str)), (16, .f (.v .u64))] [] [(.ret, [(10, .f (.v (.int .i64))), (11, .f (.v (.int .i64)))]), (.exit 0, [(14, .f (.v (.int .i64)))])]) = passkeyref1_walk_L0b k_rec y0 y1 y2 y3 y4 y5 := by kernel_rfl
theorem passkeyref1_walk_eqR (k_rec : (List (ApiItem)) → Int → Int → Bool → (List UInt8) → Option ((Unit) × (Int × Int × Unit))) (x : tySs T ps_passkeyref1_walk) : run (E_passkeyref1_walk k_rec) (A_passkeyref1_walk k_rec) (Tryd.f41.body.getD .skip) (enterT (E_passkeyref1_walk k_rec).C ps_passkeyref1_walk x) (retK (E_passkeyref1_walk k_rec) Tryd.f41.results.toList ps_passkeyref1_walk rs_passkeyref1_walk) = passkeyref1_walk_R k_rec x.1 x.2.1 x.2.2.1 x.2.2.2.1 x.2.2.2.2.1 := by kernel_rfl
def passkeyref1_walk_n : Nat → (List (ApiItem)) → Int → Int → Bool → (List UInt8) → Option ((Unit) × (Int × Int × Unit))
  | 0 => fun _ _ _ _ _ => none
  | n + 1 => passkeyref1_walk_R (passkeyref1_walk_n n)
def passkeyref1_walk (a0 : (List (ApiItem))) (a1 : Int) (a2 : Int) (a3 : Bool) (a4 : (List UInt8)) := passkeyref1_walk_n 12 a0 a1 a2 a3 a4
def S_passkeyref1_walk : FSpec T := ⟨ps_passkeyref1_walk, rs_passkeyref1_walk, fun x => passkeyref1_walk x.1 x.2.1 x.2.2.1 x.2.2.2.1 x.2.2.2.2.1⟩
theorem passkeyref1_walk_env (k_rec : (List (ApiItem)) → Int → Int → Bool → (List UInt8) → Option ((Unit) × (Int × Int × Unit))) (hk : SoundT Tryd.prog cd gdn 41 ⟨ps_passkeyref1_walk, rs_passkeyref1_walk, fun x => k_rec x.1 x.2.1 x.2.2.1 x.2.2.2.1 x.2.2.2.2.1⟩) : EnvOk Tryd.prog (E_passkeyref1_walk k_rec) := envOk (E := (E_passkeyref1_walk k_rec)) cd_ok tys fl_ok fun f ds S h => by
    dsimp only [E_passkeyref1_walk] at h
    split at h
    · cases h; exact passkeyref1_Bytes_ok
    · cases h; exact hk
    · cases h; exact passkeyref1_check_ok
    · cases h
theorem passkeyref1_walk_L0_ok (k_rec : (List (ApiItem)) → Int → Int → Bool → (List UInt8) → Option ((Unit) × (Int × Int × Unit))) (hk : SoundT Tryd.prog cd gdn 41 ⟨ps_passkeyref1_walk, rs_passkeyref1_walk, fun x => k_rec x.1 x.2.1 x.2.2.1 x.2.2.2.1 x.2.2.2.2.1⟩) : LoopOk Tryd.prog (E_passkeyref1_walk k_rec) Tryd.f41.ntmps (kqOf ps_passkeyref1_walk 0) (loopAt 0 (Tryd.f41.body.getD .skip)) ⟨[(0, .f (.v (.rs 1))), (2, .f (.v (.int .i64))), (12, .ptr [(.v (.agg 1))]), (14, .f (.v (.int .i64))), (15, .f (.v .str)), (16, .f (.v .u64))], [(.ret, [(10, .f (.v (.int .i64))), (11, .f (.v (.int .i64)))]), (.exit 0, [(14, .f (.v (.int .i64)))])], passkeyref1_walk_L0 k_rec, []⟩ :=
  loop_ok (A := (A_passkeyref1_walk k_rec)) (done := []) (c0 := (Tryd.f41.body.getD .skip)) hmix (passkeyref1_walk_env k_rec hk) done_nil rounds (by kernel_rfl) (by kernel_rfl) (fun x => passkeyref1_walk_L0_eq k_rec x.1 x.2.1 x.2.2.1 x.2.2.2.1 x.2.2.2.2.1 x.2.2.2.2.2.1) (fun _ => rfl)
theorem passkeyref1_walk_okn : ∀ n : Nat, SoundT Tryd.prog cd gdn 41 ⟨ps_passkeyref1_walk, rs_passkeyref1_walk, fun x => passkeyref1_walk_n n x.1 x.2.1 x.2.2.1 x.2.2.2.1 x.2.2.2.2.1⟩
  | 0 => sound_none ⟨_, Tryd.func41, by kernel_rfl, by kernel_rfl⟩
  | n + 1 => sound_fn (E := E_passkeyref1_walk (passkeyref1_walk_n n)) (A := A_passkeyref1_walk (passkeyref1_walk_n n)) (done := [0]) (c := (Tryd.f41.body.getD .skip)) (S := ⟨ps_passkeyref1_walk, rs_passkeyref1_walk, fun x => passkeyref1_walk_n (n + 1) x.1 x.2.1 x.2.2.1 x.2.2.2.1 x.2.2.2.2.1⟩) (fn := Tryd.f41) hmix (passkeyref1_walk_env _ (passkeyref1_walk_okn n)) Tryd.func41 rfl (by kernel_rfl) (by kernel_rfl) (done_cons rfl (passkeyref1_walk_L0_ok _ (passkeyref1_walk_okn n)) done_nil) (by kernel_rfl) (by kernel_rfl) (passkeyref1_walk_eqR (passkeyref1_walk_n n))
theorem passkeyref1_walk_ok : SoundT Tryd.prog cd gdn 41 S_passkeyref1_walk := passkeyref1_walk_okn 12
def passkeyref1_Validate (a0 : (List (ApiItem))) : Option ((Unit) × (Int × Unit)) :=
 ((passkeyref1_walk a0 (0 : Int) (0 : Int) false ([] : List UInt8)).bind fun r1 => (bif (!decide (r1.2.2.1 = (0 : Int))) then (some ((), (r1.2.2.1, ())))
 else (bif (decide (r1.2.1 < ((a0).length : Int))) then (some ((), ((2 : Int), ())))
 else (some ((), ((0 : Int), ()))))))
def S_passkeyref1_Validate : FSpec T := ⟨[.f (.v (.rs 1))], [(.v (.int .i64))], fun x => passkeyref1_Validate x.1⟩
def E_passkeyref1_Validate : Env T := ⟨tab.find, cd, globs, flc, fun f ds => match f with
    | 41 => some S_passkeyref1_walk
    | _ => none, fun f => match f with
    | 41 => true
    | _ => false⟩
def A_passkeyref1_Validate : Loc2 T := ⟨fun id => match id with
    | _ => none, fun r => match r with
    | _ => none, fun r => match r with
    | _ => false⟩
theorem passkeyref1_Validate_eq (x : tySs T S_passkeyref1_Validate.ps) : run E_passkeyref1_Validate A_passkeyref1_Validate (Tryd.f19.body.getD .skip) (enterT E_passkeyref1_Validate.C S_passkeyref1_Validate.ps x) (retK E_passkeyref1_Validate Tryd.f19.results.toList S_passkeyref1_Validate.ps S_passkeyref1_Validate.rs) = S_passkeyref1_Validate.fn x := by kernel_rfl
theorem passkeyref1_Validate_env : EnvOk Tryd.prog E_passkeyref1_Validate := envOk (E := E_passkeyref1_Validate) cd_ok tys fl_ok fun f ds S h => by
    dsimp only [E_passkeyref1_Validate] at h
    split at h
    · cases h; exact passkeyref1_walk_ok
    · cases h
theorem passkeyref1_Validate_ok : SoundT Tryd.prog cd gdn 19 S_passkeyref1_Validate :=
  sound_fn (E := E_passkeyref1_Validate) (A := A_passkeyref1_Validate) (done := []) (c := (Tryd.f19.body.getD .skip)) (S := S_passkeyref1_Validate) (fn := Tryd.f19) hmix passkeyref1_Validate_env Tryd.func19 rfl (by kernel_rfl) (by kernel_rfl) done_nil (by kernel_rfl) (by kernel_rfl) passkeyref1_Validate_eq
end Go.Proofs.YtjedfmknnkimmaaDoor

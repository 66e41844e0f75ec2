/- The functions of the program, as plain functions, and that the program computes them. Written by a program. -/
import Derived.Test.YtbdpgpnfpjodfaaDoorLib8
import Derived.Test.YtbdpgpnfpjodfaaDoorLay
import Derived.Test.YtbdpgpnfpjodfaaDoorProg
import Derived.WalkKit
set_option linter.unusedVariables false
set_option maxRecDepth 100000
namespace Go.Proofs.YtbdpgpnfpjodfaaDoor
open Go Go.Abs
structure ApiSuffix where
  labels : List (List UInt8)
  wild : Bool
  except : Bool
  deriving DecidableEq, Inhabited

abbrev T : Nat → Type
  | 0 => UInt8
  | 1 => List UInt8
  | 2 => ApiSuffix
  | 3 => List ApiSuffix
  | 4 => Int
  | _ => Unit

def lfs : Nat → List Lf
  | 0 => [.u8]
  | 1 => [.str]
  | 2 => [.rs 1, .bool, .bool]
  | 3 => [.rs 2]
  | 4 => [.int .i64]
  | _ => []

def to0 (x : UInt8) : tyLs T (lfs 0) := (x, ())
def of0 (y : tyLs T (lfs 0)) : UInt8 := y.1
def eD0 (x : UInt8) : List D := [.int .u8 x.toNat]
def to1 (x : List UInt8) : tyLs T (lfs 1) := (x, ())
def of1 (y : tyLs T (lfs 1)) : List UInt8 := y.1
def eD1 (x : List UInt8) : List D := [.str x]
def to2 (x : ApiSuffix) : tyLs T (lfs 2) := (x.labels, x.wild, x.except, ())
def of2 (y : tyLs T (lfs 2)) : ApiSuffix := ⟨y.1, y.2.1, y.2.2.1⟩
def eD2 (x : ApiSuffix) : List D := [.rs 1 (x.labels.map eD1), .bool x.wild, .bool x.except]
def to3 (x : List ApiSuffix) : tyLs T (lfs 3) := (x, ())
def of3 (y : tyLs T (lfs 3)) : List ApiSuffix := y.1
def eD3 (x : List ApiSuffix) : List D := [.rs 3 (x.map eD2)]
def to4 (x : Int) : tyLs T (lfs 4) := (x, ())
def of4 (y : tyLs T (lfs 4)) : Int := y.1
def eD4 (x : Int) : List D := [.int .i64 x]
def cd : Cd T where
  sz := fun c => match c with
    | 0 => 1
    | 1 => 1
    | 2 => 3
    | 3 => 1
    | 4 => 1
    | _ => 0
  encD := fun c x => match c, x with
    | 0, x => eD0 x
    | 1, x => eD1 x
    | 2, x => eD2 x
    | 3, x => eD3 x
    | 4, x => eD4 x
    | _, _ => []
  enc := fun c x => match c, x with
    | 0, x => encL (lfs 0) (to0 x)
    | 1, x => encL (lfs 1) (to1 x)
    | 2, x => encL (lfs 2) (to2 x)
    | 3, x => encL (lfs 3) (to3 x)
    | 4, x => encL (lfs 4) (to4 x)
    | _, _ => []
  dec := fun c ds => match c with
    | 0 => (decL (lfs 0) ds).map of0
    | 1 => (decL (lfs 1) ds).map of1
    | 2 => (decL (lfs 2) ds).map of2
    | 3 => (decL (lfs 3) ds).map of3
    | 4 => (decL (lfs 4) ds).map of4
    | _ => none
  bt := 0
  hb := rfl

theorem cd_ok : CdOk cd where
  len := fun c => match c with
    | 0 => fun _ => rfl
    | 1 => fun _ => rfl
    | 2 => fun _ => rfl
    | 3 => fun _ => rfl
    | 4 => fun _ => rfl
    | _ + 5 => fun _ => rfl
  enc := fun c => match c with
    | 0 => fun _ => rfl
    | 1 => fun _ => rfl
    | 2 => fun _ => rfl
    | 3 => fun _ => rfl
    | 4 => fun _ => rfl
    | _ + 5 => fun _ => rfl
  epure := fun c => match c with
    | 0 => fun _ => rfl
    | 1 => fun _ => rfl
    | 2 => fun _ => rfl
    | 3 => fun _ => rfl
    | 4 => fun _ => rfl
    | _ + 5 => fun _ => rfl
  byte := fun _ => rfl
  bsz := rfl
  dec := fun c => match c with
    | 0 => fun ds x h => dec_ok cd (c := 0) (lfs 0) (of := of0) (e := eD0) (fun _ => rfl) ds x h
    | 1 => fun ds x h => dec_ok cd (c := 1) (lfs 1) (of := of1) (e := eD1) (fun _ => rfl) ds x h
    | 2 => fun ds x h => dec_ok cd (c := 2) (lfs 2) (of := of2) (e := eD2) (fun _ => rfl) ds x h
    | 3 => fun ds x h => dec_ok cd (c := 3) (lfs 3) (of := of3) (e := eD3) (fun _ => rfl) ds x h
    | 4 => fun ds x h => dec_ok cd (c := 4) (lfs 4) (of := of4) (e := eD4) (fun _ => rfl) ds x h
    | _ + 5 => fun _ _ h => by cases h


def ti3 : TI := ⟨4, 1, 8, .int .i64, [.i .i64], [], [], none⟩
def ti4 : TI := ⟨6, 1, 1, .bool, [.b], [], [], none⟩
def ti5 : TI := ⟨0, 1, 1, .int .u8, [.i .u8], [], [], none⟩
def ti9 : TI := ⟨1, 1, 16, .str, [.s], [], [], none⟩
def ti22 : TI := ⟨3, 1, 24, .slice 26, [.ns], [], [], none⟩
def ti24 : TI := ⟨6, 1, 24, .slice 9, [.ns], [], [], none⟩
def ti26 : TI := ⟨2, 3, 32, .strct, [.ns, .b, .b], [some (0, 24), some (1, 4), some (2, 4)], [(0, 1), (1, 1), (2, 1)], none⟩
def ti29 : TI := ⟨6, 1, 24, .slice 22, [.ns], [], [], none⟩
def ti39 : TI := ⟨6, 1, 24, .slice 3, [.ns], [], [], none⟩
def ti41 : TI := ⟨6, 1, 8, .int .i64, [.i .i64], [], [], none⟩
def ti50 : TI := ⟨6, 1, 8, .int .u64, [.i .u64], [], [], none⟩
def tab : Tr := .node (.node (.node (.node .leaf 3 ti3 .leaf) 4 ti4 .leaf) 5 ti5 (.node (.node .leaf 9 ti9 .leaf) 22 ti22 .leaf)) 24 ti24 (.node (.node (.node .leaf 26 ti26 .leaf) 29 ti29 .leaf) 39 ti39 (.node (.node .leaf 41 ti41 .leaf) 50 ti50 .leaf))

def globs : Nat → Option (List (DT T)) := fun _ => none
def flc : Nat → Bool := fun c => match c with
  | 0 => true
  | 1 => true
  | 2 => false
  | 3 => false
  | 4 => true
  | _ => false
theorem hmix : Tryd.prog.follows .mixedOrders = true := by kernel_rfl
theorem tys : TysOk Tryd.prog tab.find := tys_ok (by kernel_rfl)
abbrev gdn : Nat → Option (List D) := fun g => (globs g).map (denL cd)
theorem fl_ok : FlOk cd flc := fun c => match c with
  | 0 => fun h _ => rfl
  | 1 => fun h _ => rfl
  | 2 => fun h _ => by cases h
  | 3 => fun h _ => by cases h
  | 4 => fun h _ => rfl
  | _ + 5 => fun h _ => by cases h

open Go.RowKit in
def strings_Split (a0 a1 : List UInt8) : Option (Unit × (List (List UInt8) × Unit)) := bif (decide (a0.length < 4294967281) && decide (a1.length = 1)) then some ((), Lib.split a0 a1, ()) else none
def S_strings_Split : FSpec T := ⟨[.f (.v .str), .f (.v .str)], [.own 1], fun x => strings_Split x.1 x.2.1⟩
theorem strings_Split_ok : SoundT Tryd.prog cd gdn 33 S_strings_Split := by
  refine sound_strs (T := T) (C := cd) (c := 1) rfl (vts := [.str, .str]) rfl (fun l => rfl) ⟨_, Tryd.func33, by kernel_rfl, by kernel_rfl⟩ (te := 9) fun I own w args x r hG hv hF => ?_
  obtain ⟨v, vr, _, _, rfl, h1, ⟨v2, vr2, _, _, rfl, h2, rfl, _⟩, _⟩ := hv
  change V I w (.str x.1) free v at h1
  change V I w (.str x.2.1) free v2 at h2
  simp only [V] at h1 h2
  subst h1; subst h2
  change strings_Split x.1 x.2.1 = some r at hF
  obtain ⟨x1, x2, u⟩ := x
  dsimp only at hF ⊢
  change List UInt8 at x1 x2
  unfold strings_Split at hF
  by_cases hs : x1.length < 4294967281
  · by_cases hl : x2.length = 1
    · simp only [hs, hl, decide_true, Bool.and_self, cond_true] at hF
      have hr := Option.some.inj hF
      subst hr
      obtain ⟨c, rfl⟩ := List.length_eq_one_iff.1 hl
      refine (split_one Tryd.lays146 (by kernel_rfl) ⟨x1.toArray⟩ c w (by rw [show ByteArray.size ⟨List.toArray x1⟩ = List.length x1 from List.size_toArray]; exact hs)).mono fun e w' h => ?_
      have hd := Lib.splitB_data ⟨#[c]⟩ 0 (Lib.countB ⟨x1.toArray⟩ ⟨#[c]⟩) ⟨x1.toArray⟩
      have hlen := Lib.splitB_all ⟨#[c]⟩ (Nat.le_refl 1) 0 _ ⟨x1.toArray⟩ rfl
      have hd' : (Lib.splitB ⟨#[c]⟩ 0 (Lib.countB ⟨x1.toArray⟩ ⟨#[c]⟩) ⟨x1.toArray⟩).map (·.data.toList) = Lib.split x1 [c] := hd
      obtain ⟨rfl, rfl⟩ := h
      have hll : (Lib.split x1 [c]).length = Lib.countB ⟨x1.toArray⟩ ⟨#[c]⟩ + 1 := by rw [← hd', List.length_map, hlen]
      have hmm : (Lib.splitB ⟨#[c]⟩ 0 (Lib.countB ⟨x1.toArray⟩ ⟨#[c]⟩) ⟨x1.toArray⟩).map Value.string = (Lib.split x1 [c]).map strV := by
        rw [← hd', List.map_map]
        exact List.map_congr_left fun b _ => rfl
      refine ⟨?_, ?_⟩
      · show _ = Ending.returned (Value.slice _ (Lib.split x1 [c]).length (Lib.split x1 [c]).length)
        rw [hll]
      · rw [hmm]; rfl
    · simp [hl] at hF
  · simp [hs] at hF
def strings_Trim (a0 a1 : List UInt8) : Option (Unit × (List UInt8 × Unit)) := bif (decide (a0.length ≤ 9223372036854775807) && (decide (a1.length < 4294967281) && a1.all (fun b => decide (b.toNat < 128)))) then some ((), Lib.trimS a0 a1, ()) else none
def S_strings_Trim : FSpec T := ⟨[.f (.v .str), .f (.v .str)], [.v .str], fun x => strings_Trim x.1 x.2.1⟩
theorem strings_Trim_ok : SoundT Tryd.prog cd gdn 40 S_strings_Trim := by
  refine sound_below (vts := [.str, .str]) (rts := [.str]) ⟨_, Tryd.func40, by kernel_rfl, by kernel_rfl⟩ fun I own w args x r hG hv hF => ?_
  obtain ⟨v, vr, _, _, rfl, h1, ⟨v2, vr2, _, _, rfl, h2, rfl, _⟩, _⟩ := hv
  change V I w (.str x.1) free v at h1
  change V I w (.str x.2.1) free v2 at h2
  simp only [V] at h1 h2
  subst h1; subst h2
  change strings_Trim x.1 x.2.1 = some r at hF
  obtain ⟨x1, x2, u⟩ := x
  dsimp only at hF ⊢
  change List UInt8 at x1 x2
  unfold strings_Trim at hF
  by_cases hs : (decide (x1.length ≤ 9223372036854775807) && (decide (x2.length < 4294967281) && x2.all (fun b => decide (b.toNat < 128)))) = true
  · rw [hs] at hF
    simp only [cond_true] at hF
    have hr := Option.some.inj hF
    subst hr
    simp only [Bool.and_eq_true, decide_eq_true_eq] at hs
    refine ⟨[.string ⟨(Lib.trimS x1 x2).toArray⟩], fun I' w' => ⟨_, _, none', none', rfl, (show V I' w' (.str (Lib.trimS x1 x2)) free _ by simp [V]), rfl, fun _ h => h, fun _ h => h, fun _ h => h.elim⟩, ?_⟩
    exact (Any.strings_Trim_laid Tryd.lays160 (by kernel_rfl) ⟨x1.toArray⟩ ⟨x2.toArray⟩ w (by rw [show ByteArray.size ⟨List.toArray x1⟩ = List.length x1 from List.size_toArray]; exact hs.1) (by rw [show ByteArray.size ⟨List.toArray x2⟩ = List.length x2 from List.size_toArray]; exact hs.2.1) (ascii_of_all hs.2.2)).mono fun e w' h => ⟨h.1, h.2⟩
  · simp only [Bool.not_eq_true] at hs
    rw [hs] at hF
    cases hF
def strings_Join (a0 : List (List UInt8)) (a1 : List UInt8) : Option (Unit × (List UInt8 × Unit)) := bif (decide ((Lib.join a0 a1).length ≤ 140737488355328) && decide (a0.length ≤ 140737488355328)) then some ((), Lib.join a0 a1, ()) else none
def S_strings_Join : FSpec T := ⟨[.f (.v (.rs 1)), .f (.v .str)], [.v .str], fun x => strings_Join x.1 x.2.1⟩
theorem strings_Join_ok : SoundT Tryd.prog cd gdn 27 S_strings_Join := by
  refine sound_below (vts := [.rs 1, .str]) (rts := [.str]) ⟨_, Tryd.func27, by kernel_rfl, by kernel_rfl⟩ fun I own w args x r hG hv hF => ?_
  obtain ⟨v, vr, _, _, rfl, h1, ⟨v2, vr2, _, _, rfl, h2, rfl, _⟩, _⟩ := hv
  obtain ⟨x1, x2, u⟩ := x
  change List (List UInt8) at x1
  change List UInt8 at x2
  change V I w (.rs 1 (x1.map strD)) free v at h1
  change V I w (.str x2) free v2 at h2
  simp only [V] at h2
  subst h2
  change strings_Join x1 x2 = some r at hF
  unfold strings_Join at hF
  by_cases hs : (decide ((Lib.join x1 x2).length ≤ 140737488355328) && decide (x1.length ≤ 140737488355328)) = true
  · rw [hs] at hF
    simp only [cond_true] at hF
    have hr := Option.some.inj hF
    subst hr
    simp only [Bool.and_eq_true, decide_eq_true_eq] at hs
    refine ⟨[.string ⟨(Lib.join x1 x2).toArray⟩], fun I' w' => ⟨_, _, none', none', rfl, (show V I' w' (.str (Lib.join x1 x2)) free _ by simp [V]), rfl, fun _ h => h, fun _ h => h, fun _ h => h.elim⟩, ?_⟩
    simp only [V] at h1
    have nil : ∀ (p : Option Addr) (cap : Nat), x1 = [] → Calls Tryd.prog 27 #[.slice p 0 cap, .string ⟨x2.toArray⟩] w fun e w' => e = .returned (.string ⟨(Lib.join x1 x2).toArray⟩) ∧ RowKit.Below w.heap.size w w' := fun p cap h0 => by
      subst h0
      refine (Any.strings_Join_none Tryd.lays156 Tryd.bx p cap ⟨x2.toArray⟩ w).mono ?_
      rintro e w' ⟨rfl, rfl⟩
      exact ⟨rfl, RowKit.Below.refl _ _⟩
    rcases h1 with ⟨hrows, p, cap, rfl⟩ | ⟨b, o, cap, rfl, hcap, hIb, hvr⟩
    · exact nil p cap (List.map_eq_nil_iff.1 hrows)
    · have hc : ∀ (j : Nat) y, (x1.map fun l => (⟨l.toArray⟩ : ByteArray))[j]? = some y → w.cell? ⟨b, o + j, none⟩ = some (.string y) := fun j y hj => by
        rw [List.getElem?_map, Option.map_eq_some_iff] at hj
        obtain ⟨l, hl, rfl⟩ := hj
        exact VR_strs hvr hl
      have hmm : (x1.map fun l => (⟨l.toArray⟩ : ByteArray)).map (·.data.toList) = x1 := by
        rw [List.map_map]
        exact (List.map_congr_left fun b _ => rfl).trans (List.map_id x1)
      match hx : x1, hc, hmm with
      | [], _, _ => exact nil _ _ rfl
      | [y], hc, _ =>
        refine (Any.strings_Join_one Tryd.lays156 Tryd.bx b o cap ⟨y.toArray⟩ ⟨x2.toArray⟩ w (hc 0 _ rfl)).mono ?_
        rintro e w' ⟨rfl, rfl⟩
        refine ⟨?_, RowKit.Below.refl _ _⟩
        rw [Lib.join_one]
        rfl
      | y :: z :: rest, hc, hmm =>
        have hbk : b < w.heap.size := World.block_lt_of_cell? _ _ (hc 0 _ rfl)
        have hk := Any.strings_Join_many Tryd.lays156 Tryd.bx b o cap ((y :: z :: rest).map fun l => (⟨l.toArray⟩ : ByteArray)) ⟨x2.toArray⟩ w hc hbk (by simp) (by rw [List.length_map]; exact hs.2) (by rw [List.length_map] at hcap ⊢; exact hcap) (by rw [hmm]; exact hs.1)
        rw [hmm] at hk
        rw [List.length_map] at hk ⊢
        exact hk.mono fun e w' h => ⟨h.1, h.2⟩
  · simp only [Bool.not_eq_true] at hs
    rw [hs] at hF
    cases hF
def host_validLabel_L0b (y0 : (List UInt8)) (y1 : Int) (y2 : Int) : Option (((List UInt8) × Int × Int × Unit) ⊕ ((Bool × Unit) ⊕ (Unit))) :=
 (bif (decide (y2 < y1)) then ((getI y0 y2).bind fun x1 => (bif (decide ((97 : UInt8).toBitVec.toNat ≤ x1.toBitVec.toNat)) then (bif (decide (x1.toBitVec.toNat ≤ (122 : UInt8).toBitVec.toNat)) then (bif (decide (x1.toBitVec = (45 : UInt8).toBitVec)) then (bif (decide ((0 : Int) < y2)) then (some (Sum.inl (y0, y1, (IntKind.wrap .i64 (y2 + (1 : Int))), ())))
 else (some (Sum.inl (y0, y1, (IntKind.wrap .i64 (y2 + (1 : Int))), ()))))
 else (some (Sum.inl (y0, y1, (IntKind.wrap .i64 (y2 + (1 : Int))), ()))))
 else (bif (decide ((48 : UInt8).toBitVec.toNat ≤ x1.toBitVec.toNat)) then (bif (decide (x1.toBitVec = (45 : UInt8).toBitVec)) then (bif (decide ((0 : Int) < y2)) then (bif (!(decide (x1.toBitVec.toNat ≤ (57 : UInt8).toBitVec.toNat))) then (bif (!(decide (y2 < (IntKind.wrap .i64 (((y0).length : Int) - (1 : Int)))))) then (some (Sum.inr (Sum.inl (false, ()))))
 else (some (Sum.inl (y0, y1, (IntKind.wrap .i64 (y2 + (1 : Int))), ()))))
 else (some (Sum.inl (y0, y1, (IntKind.wrap .i64 (y2 + (1 : Int))), ()))))
 else (bif (!(decide (x1.toBitVec.toNat ≤ (57 : UInt8).toBitVec.toNat))) then (some (Sum.inr (Sum.inl (false, ()))))
 else (some (Sum.inl (y0, y1, (IntKind.wrap .i64 (y2 + (1 : Int))), ())))))
 else (bif (!(decide (x1.toBitVec.toNat ≤ (57 : UInt8).toBitVec.toNat))) then (some (Sum.inr (Sum.inl (false, ()))))
 else (some (Sum.inl (y0, y1, (IntKind.wrap .i64 (y2 + (1 : Int))), ())))))
 else (bif (decide (x1.toBitVec = (45 : UInt8).toBitVec)) then (bif (decide ((0 : Int) < y2)) then (bif (!(decide (y2 < (IntKind.wrap .i64 (((y0).length : Int) - (1 : Int)))))) then (some (Sum.inr (Sum.inl (false, ()))))
 else (some (Sum.inl (y0, y1, (IntKind.wrap .i64 (y2 + (1 : Int))), ()))))
 else (some (Sum.inr (Sum.inl (false, ())))))
 else (some (Sum.inr (Sum.inl (false, ())))))))
 else (bif (decide ((48 : UInt8).toBitVec.toNat ≤ x1.toBitVec.toNat)) then (bif (decide (x1.toBitVec = (45 : UInt8).toBitVec)) then (bif (decide ((0 : Int) < y2)) then (bif (!(decide (x1.toBitVec.toNat ≤ (57 : UInt8).toBitVec.toNat))) then (bif (!(decide (y2 < (IntKind.wrap .i64 (((y0).length : Int) - (1 : Int)))))) then (some (Sum.inr (Sum.inl (false, ()))))
 else (some (Sum.inl (y0, y1, (IntKind.wrap .i64 (y2 + (1 : Int))), ()))))
 else (some (Sum.inl (y0, y1, (IntKind.wrap .i64 (y2 + (1 : Int))), ()))))
 else (bif (!(decide (x1.toBitVec.toNat ≤ (57 : UInt8).toBitVec.toNat))) then (some (Sum.inr (Sum.inl (false, ()))))
 else (some (Sum.inl (y0, y1, (IntKind.wrap .i64 (y2 + (1 : Int))), ())))))
 else (bif (!(decide (x1.toBitVec.toNat ≤ (57 : UInt8).toBitVec.toNat))) then (some (Sum.inr (Sum.inl (false, ()))))
 else (some (Sum.inl (y0, y1, (IntKind.wrap .i64 (y2 + (1 : Int))), ())))))
 else (bif (decide (x1.toBitVec = (45 : UInt8).toBitVec)) then (bif (decide ((0 : Int) < y2)) then (bif (!(decide (y2 < (IntKind.wrap .i64 (((y0).length : Int) - (1 : Int)))))) then (some (Sum.inr (Sum.inl (false, ()))))
 else (some (Sum.inl (y0, y1, (IntKind.wrap .i64 (y2 + (1 : Int))), ()))))
 else (some (Sum.inr (Sum.inl (false, ())))))
 else (some (Sum.inr (Sum.inl (false, ()))))))))
 else (some (Sum.inr (Sum.inr ()))))

def host_validLabel_L0 (y : ((List UInt8) × Int × Int × Unit)) : Option ((Bool × Unit) ⊕ (Unit)) := iter (fun (y : ((List UInt8) × Int × Int × Unit)) => host_validLabel_L0b y.1 y.2.1 y.2.2.1) rounds y

def host_validLabel (a0 : (List UInt8)) : Option ((Unit) × (Bool × Unit)) :=
 (bif (decide (((a0).length : Int) < (1 : Int))) then (some ((), (false, ())))
 else (bif (decide ((63 : Int) < ((a0).length : Int))) then (some ((), (false, ())))
 else ((host_validLabel_L0 (a0, ((a0).length : Int), (0 : Int), ())).bind (Sum.elim (fun (z2 : (Bool × Unit)) => (some ((), (z2.1, ())))) (fun (z3 : (Unit)) => (some ((), (true, ()))))))))

def S_host_validLabel : FSpec T := ⟨[.f (.v .str)], [(.v .bool)], fun x => host_validLabel x.1⟩

def E_host_validLabel : Env T := ⟨tab.find, cd, globs, flc, fun f ds => match f with
    | _ => none, fun f => match f with
    | _ => false⟩

def A_host_validLabel : Loc2 T := ⟨fun id => match id with
    | 0 => some ⟨[(0, .f (.v .str)), (16, .f (.v (.int .i64))), (17, .f (.v (.int .i64)))], [(.ret, [(2, .f (.v .bool))]), (.exit 0, [])], host_validLabel_L0, []⟩
    | _ => none, fun r => match r with
    | _ => none, fun r => match r with
    | _ => false⟩

theorem host_validLabel_L0_eq (y0 : (List UInt8)) (y1 : Int) (y2 : Int) : run E_host_validLabel A_host_validLabel (loopAt 0 (Tryd.f38.body.getD .skip)) (layC cd [(0, .f (.v .str)), (16, .f (.v (.int .i64))), (17, .f (.v (.int .i64)))] [] (y0, y1, y2, ())) (roundK cd [(0, .f (.v .str)), (16, .f (.v (.int .i64))), (17, .f (.v (.int .i64)))] [] [(.ret, [(2, .f (.v .bool))]), (.exit 0, [])]) = host_validLabel_L0b y0 y1 y2 := by kernel_rfl

theorem host_validLabel_eq (x : tySs T S_host_validLabel.ps) : run E_host_validLabel A_host_validLabel (Tryd.f38.body.getD .skip) (enterT E_host_validLabel.C S_host_validLabel.ps x) (retK E_host_validLabel Tryd.f38.results.toList S_host_validLabel.ps S_host_validLabel.rs) = S_host_validLabel.fn x := by kernel_rfl

theorem host_validLabel_env : EnvOk Tryd.prog E_host_validLabel := envOk (E := E_host_validLabel) cd_ok tys fl_ok fun f ds S h => by cases h

theorem host_validLabel_L0_ok : LoopOk Tryd.prog E_host_validLabel Tryd.f38.ntmps (kqOf S_host_validLabel.ps 0) (loopAt 0 (Tryd.f38.body.getD .skip)) ⟨[(0, .f (.v .str)), (16, .f (.v (.int .i64))), (17, .f (.v (.int .i64)))], [(.ret, [(2, .f (.v .bool))]), (.exit 0, [])], host_validLabel_L0, []⟩ :=
  loop_ok (A := A_host_validLabel) (done := []) (c0 := (Tryd.f38.body.getD .skip)) hmix host_validLabel_env done_nil rounds (by kernel_rfl) (by kernel_rfl) (fun x => host_validLabel_L0_eq x.1 x.2.1 x.2.2.1) (fun _ => rfl)

theorem host_validLabel_ok : SoundT Tryd.prog cd gdn 38 S_host_validLabel :=
  sound_fn (E := E_host_validLabel) (A := A_host_validLabel) (done := [0]) (c := (Tryd.f38.body.getD .skip)) (S := S_host_validLabel) (fn := Tryd.f38) hmix host_validLabel_env Tryd.func38 rfl (by kernel_rfl) (by kernel_rfl) (done_cons rfl host_validLabel_L0_ok done_nil) (by kernel_rfl) (by kernel_rfl) host_validLabel_eq

def host_Validate_L0b (y0 : (List (List UInt8))) (y1 : (List (List UInt8))) (y2 : Int) (y3 : Int) : Option (((List (List UInt8)) × (List (List UInt8)) × Int × Int × Unit) ⊕ ((Int × Unit) ⊕ ((List (List UInt8)) × Unit))) :=
 (bif (decide (y3 < y2)) then ((getI y1 y3).bind fun x2 => ((host_validLabel x2).bind fun r3 => (bif (!r3.2.1) then (some (Sum.inr (Sum.inl ((2 : Int), ()))))
 else (some (Sum.inl (y0, y1, y2, (IntKind.wrap .i64 (y3 + (1 : Int))), ()))))))
 else (some (Sum.inr (Sum.inr (y0, ())))))

def host_Validate_L0 (y : ((List (List UInt8)) × (List (List UInt8)) × Int × Int × Unit)) : Option ((Int × Unit) ⊕ ((List (List UInt8)) × Unit)) := iter (fun (y : ((List (List UInt8)) × (List (List UInt8)) × Int × Int × Unit)) => host_Validate_L0b y.1 y.2.1 y.2.2.1 y.2.2.2.1) rounds y

def host_Validate (a0 : (List UInt8)) : Option ((Unit) × (Int × Unit)) :=
 (bif (decide ((100 : Int) < ((a0).length : Int))) then (some ((), ((8 : Int), ())))
 else ((strings_Split a0 ([46] : List UInt8)).bind fun r1 => ((host_Validate_L0 (r1.2.1, r1.2.1, ((r1.2.1).length : Int), (0 : Int), ())).bind (Sum.elim (fun (z4 : (Int × Unit)) => (some ((), (z4.1, ())))) (fun (z5 : ((List (List UInt8)) × Unit)) => ((getI z5.1 (IntKind.wrap .i64 (((z5.1).length : Int) - (1 : Int)))).bind fun x6 => ((strings_Trim x6 ([48, 49, 50, 51, 52, 53, 54, 55, 56, 57] : List UInt8)).bind fun r7 => (bif (decide (r7.2.1 = ([] : List UInt8))) then (some ((), ((2 : Int), ())))
 else (some ((), ((0 : Int), ())))))))))))

def S_host_Validate : FSpec T := ⟨[.f (.v .str)], [(.v (.int .i64))], fun x => host_Validate x.1⟩

def E_host_Validate : Env T := ⟨tab.find, cd, globs, flc, fun f ds => match f with
    | 33 => some S_strings_Split
    | 38 => some S_host_validLabel
    | 40 => some S_strings_Trim
    | _ => none, fun f => match f with
    | 38 => true
    | 40 => true
    | _ => false⟩

def A_host_Validate : Loc2 T := ⟨fun id => match id with
    | 0 => some ⟨[(3, .f (.v (.rs 1))), (11, .f (.v (.rs 1))), (12, .f (.v (.int .i64))), (13, .f (.v (.int .i64)))], [(.ret, [(2, .f (.v (.int .i64)))]), (.exit 0, [(3, .f (.v (.rs 1)))])], host_Validate_L0, []⟩
    | _ => none, fun r => match r with
    | _ => none, fun r => match r with
    | _ => false⟩

theorem host_Validate_L0_eq (y0 : (List (List UInt8))) (y1 : (List (List UInt8))) (y2 : Int) (y3 : Int) : run E_host_Validate A_host_Validate (loopAt 0 (Tryd.f26.body.getD .skip)) (layC cd [(3, .f (.v (.rs 1))), (11, .f (.v (.rs 1))), (12, .f (.v (.int .i64))), (13, .f (.v (.int .i64)))] [] (y0, y1, y2, y3, ())) (roundK cd [(3, .f (.v (.rs 1))), (11, .f (.v (.rs 1))), (12, .f (.v (.int .i64))), (13, .f (.v (.int .i64)))] [] [(.ret, [(2, .f (.v (.int .i64)))]), (.exit 0, [(3, .f (.v (.rs 1)))])]) = host_Validate_L0b y0 y1 y2 y3 := by kernel_rfl

theorem host_Validate_eq (x : tySs T S_host_Validate.ps) : run E_host_Validate A_host_Validate (Tryd.f26.body.getD .skip) (enterT E_host_Validate.C S_host_Validate.ps x) (retK E_host_Validate Tryd.f26.results.toList S_host_Validate.ps S_host_Validate.rs) = S_host_Validate.fn x := by kernel_rfl

theorem host_Validate_env : EnvOk Tryd.prog E_host_Validate := envOk (E := E_host_Validate) cd_ok tys fl_ok fun f ds S h => by
    dsimp only [E_host_Validate] at h
    split at h
    · cases h; exact strings_Split_ok
    · cases h; exact host_validLabel_ok
    · cases h; exact strings_Trim_ok
    · cases h

theorem host_Validate_L0_ok : LoopOk Tryd.prog E_host_Validate Tryd.f26.ntmps (kqOf S_host_Validate.ps 0) (loopAt 0 (Tryd.f26.body.getD .skip)) ⟨[(3, .f (.v (.rs 1))), (11, .f (.v (.rs 1))), (12, .f (.v (.int .i64))), (13, .f (.v (.int .i64)))], [(.ret, [(2, .f (.v (.int .i64)))]), (.exit 0, [(3, .f (.v (.rs 1)))])], host_Validate_L0, []⟩ :=
  loop_ok (A := A_host_Validate) (done := []) (c0 := (Tryd.f26.body.getD .skip)) hmix host_Validate_env done_nil rounds (by kernel_rfl) (by kernel_rfl) (fun x => host_Validate_L0_eq x.1 x.2.1 x.2.2.1 x.2.2.2.1) (fun _ => rfl)

theorem host_Validate_ok : SoundT Tryd.prog cd gdn 26 S_host_Validate :=
  sound_fn (E := E_host_Validate) (A := A_host_Validate) (done := [0]) (c := (Tryd.f26.body.getD .skip)) (S := S_host_Validate) (fn := Tryd.f26) hmix host_Validate_env Tryd.func26 rfl (by kernel_rfl) (by kernel_rfl) (done_cons rfl host_Validate_L0_ok done_nil) (by kernel_rfl) (by kernel_rfl) host_Validate_eq

def host_Labels (a0 : (List UInt8)) : Option ((Unit) × ((List (List UInt8)) × Unit)) :=
 ((host_Validate a0).bind fun r1 => (bif (!decide (r1.2.1 = (0 : Int))) then (some ((), ([], ())))
 else ((strings_Split a0 ([46] : List UInt8)).bind fun r2 => (some ((), (r2.2.1, ()))))))

def S_host_Labels : FSpec T := ⟨[.f (.v .str)], [(.own 1)], fun x => host_Labels x.1⟩

def E_host_Labels : Env T := ⟨tab.find, cd, globs, flc, fun f ds => match f with
    | 26 => some S_host_Validate
    | 33 => some S_strings_Split
    | _ => none, fun f => match f with
    | 26 => true
    | _ => false⟩

def A_host_Labels : Loc2 T := ⟨fun id => match id with
    | _ => none, fun r => match r with
    | _ => none, fun r => match r with
    | _ => false⟩

theorem host_Labels_eq (x : tySs T S_host_Labels.ps) : run E_host_Labels A_host_Labels (Tryd.f17.body.getD .skip) (enterT E_host_Labels.C S_host_Labels.ps x) (retK E_host_Labels Tryd.f17.results.toList S_host_Labels.ps S_host_Labels.rs) = S_host_Labels.fn x := by kernel_rfl

theorem host_Labels_env : EnvOk Tryd.prog E_host_Labels := envOk (E := E_host_Labels) cd_ok tys fl_ok fun f ds S h => by
    dsimp only [E_host_Labels] at h
    split at h
    · cases h; exact host_Validate_ok
    · cases h; exact strings_Split_ok
    · cases h

theorem host_Labels_ok : SoundT Tryd.prog cd gdn 17 S_host_Labels :=
  sound_fn (E := E_host_Labels) (A := A_host_Labels) (done := []) (c := (Tryd.f17.body.getD .skip)) (S := S_host_Labels) (fn := Tryd.f17) hmix host_Labels_env Tryd.func17 rfl (by kernel_rfl) (by kernel_rfl) done_nil (by kernel_rfl) (by kernel_rfl) host_Labels_eq

def host_FormatRule_L0b (y0 : (ApiSuffix × Unit)) (y1 : (List (List UInt8))) (y2 : Int) (y3 : Int) : Option (((ApiSuffix × Unit) × (List (List UInt8)) × Int × Int × Unit) ⊕ (((List UInt8) × Int × Unit) ⊕ ((ApiSuffix × Unit) × Unit))) :=
 (bif (decide (y3 < y2)) then ((getI y1 y3).bind fun x1 => ((host_validLabel x1).bind fun r2 => (bif (!r2.2.1) then (some (Sum.inr (Sum.inl (([] : List UInt8), (4 : Int), ()))))
 else (some (Sum.inl ((y0.1, ()), y1, y2, (IntKind.wrap .i64 (y3 + (1 : Int))), ()))))))
 else (some (Sum.inr (Sum.inr ((y0.1, ()), ())))))

def host_FormatRule_L0 (y : ((ApiSuffix × Unit) × (List (List UInt8)) × Int × Int × Unit)) : Option (((List UInt8) × Int × Unit) ⊕ ((ApiSuffix × Unit) × Unit)) := iter (fun (y : ((ApiSuffix × Unit) × (List (List UInt8)) × Int × Int × Unit)) => host_FormatRule_L0b y.1 y.2.1 y.2.2.1 y.2.2.2.1) rounds y

def host_FormatRule (a0 : ApiSuffix) : Option ((Unit) × ((List UInt8) × Int × Unit)) :=
 (bif (decide ((100 : Int) < ((a0.labels).length : Int))) then (some ((), (([] : List UInt8), (4 : Int), ())))
 else (bif a0.wild then (bif a0.except then (some ((), (([] : List UInt8), (4 : Int), ())))
 else (bif a0.except then (bif (decide (((a0.labels).length : Int) < (2 : Int))) then (some ((), (([] : List UInt8), (4 : Int), ())))
 else ((host_FormatRule_L0 ((a0, ()), a0.labels, ((a0.labels).length : Int), (0 : Int), ())).bind (Sum.elim (fun (z3 : ((List UInt8) × Int × Unit)) => (some ((), (z3.1, z3.2.1, ())))) (fun (z4 : ((ApiSuffix × Unit) × Unit)) => ((strings_Join z4.1.1.labels ([46] : List UInt8)).bind fun r5 => ((host_Validate r5.2.1).bind fun r6 => (bif (!decide (r6.2.1 = (0 : Int))) then (some ((), (([] : List UInt8), (4 : Int), ())))
 else (bif z4.1.1.wild then (bif Nat.ble ((([42, 46] : List UInt8)).length + (r5.2.1).length) 9223372036854775807 then (some ((), ((([42, 46] : List UInt8) ++ r5.2.1), (0 : Int), ())))
 else none)
 else (bif z4.1.1.except then (bif Nat.ble ((([33] : List UInt8)).length + (r5.2.1).length) 9223372036854775807 then (some ((), ((([33] : List UInt8) ++ r5.2.1), (0 : Int), ())))
 else none)
 else (some ((), (r5.2.1, (0 : Int), ()))))))))))))
 else ((host_FormatRule_L0 ((a0, ()), a0.labels, ((a0.labels).length : Int), (0 : Int), ())).bind (Sum.elim (fun (z7 : ((List UInt8) × Int × Unit)) => (some ((), (z7.1, z7.2.1, ())))) (fun (z8 : ((ApiSuffix × Unit) × Unit)) => ((strings_Join z8.1.1.labels ([46] : List UInt8)).bind fun r9 => ((host_Validate r9.2.1).bind fun r10 => (bif (!decide (r10.2.1 = (0 : Int))) then (some ((), (([] : List UInt8), (4 : Int), ())))
 else (bif z8.1.1.wild then (bif Nat.ble ((([42, 46] : List UInt8)).length + (r9.2.1).length) 9223372036854775807 then (some ((), ((([42, 46] : List UInt8) ++ r9.2.1), (0 : Int), ())))
 else none)
 else (bif z8.1.1.except then (bif Nat.ble ((([33] : List UInt8)).length + (r9.2.1).length) 9223372036854775807 then (some ((), ((([33] : List UInt8) ++ r9.2.1), (0 : Int), ())))
 else none)
 else (some ((), (r9.2.1, (0 : Int), ())))))))))))))
 else (bif a0.except then (bif (decide (((a0.labels).length : Int) < (2 : Int))) then (some ((), (([] : List UInt8), (4 : Int), ())))
 else ((host_FormatRule_L0 ((a0, ()), a0.labels, ((a0.labels).length : Int), (0 : Int), ())).bind (Sum.elim (fun (z11 : ((List UInt8) × Int × Unit)) => (some ((), (z11.1, z11.2.1, ())))) (fun (z12 : ((ApiSuffix × Unit) × Unit)) => ((strings_Join z12.1.1.labels ([46] : List UInt8)).bind fun r13 => ((host_Validate r13.2.1).bind fun r14 => (bif (!decide (r14.2.1 = (0 : Int))) then (some ((), (([] : List UInt8), (4 : Int), ())))
 else (bif z12.1.1.wild then (bif Nat.ble ((([42, 46] : List UInt8)).length + (r13.2.1).length) 9223372036854775807 then (some ((), ((([42, 46] : List UInt8) ++ r13.2.1), (0 : Int), ())))
 else none)
 else (bif z12.1.1.except then (bif Nat.ble ((([33] : List UInt8)).length + (r13.2.1).length) 9223372036854775807 then (some ((), ((([33] : List UInt8) ++ r13.2.1), (0 : Int), ())))
 else none)
 else (some ((), (r13.2.1, (0 : Int), ()))))))))))))
 else ((host_FormatRule_L0 ((a0, ()), a0.labels, ((a0.labels).length : Int), (0 : Int), ())).bind (Sum.elim (fun (z15 : ((List UInt8) × Int × Unit)) => (some ((), (z15.1, z15.2.1, ())))) (fun (z16 : ((ApiSuffix × Unit) × Unit)) => ((strings_Join z16.1.1.labels ([46] : List UInt8)).bind fun r17 => ((host_Validate r17.2.1).bind fun r18 => (bif (!decide (r18.2.1 = (0 : Int))) then (some ((), (([] : List UInt8), (4 : Int), ())))
 else (bif z16.1.1.wild then (bif Nat.ble ((([42, 46] : List UInt8)).length + (r17.2.1).length) 9223372036854775807 then (some ((), ((([42, 46] : List UInt8) ++ r17.2.1), (0 : Int), ())))
 else none)
 else (bif z16.1.1.except then (bif Nat.ble ((([33] : List UInt8)).length + (r17.2.1).length) 9223372036854775807 then (some ((), ((([33] : List UInt8) ++ r17.2.1), (0 : Int), ())))
 else none)
 else (some ((), (r17.2.1, (0 : Int), ()))))))))))))))

def S_host_FormatRule : FSpec T := ⟨[.f (.v (.agg 2))], [(.v .str), (.v (.int .i64))], fun x => host_FormatRule x.1⟩

def E_host_FormatRule : Env T := ⟨tab.find, cd, globs, flc, fun f ds => match f with
    | 26 => some S_host_Validate
    | 27 => some S_strings_Join
    | 38 => some S_host_validLabel
    | _ => none, fun f => match f with
    | 26 => true
    | 27 => true
    | 38 => true
    | _ => false⟩

def A_host_FormatRule : Loc2 T := ⟨fun id => match id with
    | 0 => some ⟨[(1, .ptr [(.v (.agg 2))]), (30, .f (.v (.rs 1))), (31, .f (.v (.int .i64))), (32, .f (.v (.int .i64)))], [(.ret, [(2, .f (.v .str)), (3, .f (.v (.int .i64)))]), (.exit 0, [(1, .ptr [(.v (.agg 2))])])], host_FormatRule_L0, []⟩
    | _ => none, fun r => match r with
    | _ => none, fun r => match r with
    | _ => false⟩

theorem host_FormatRule_L0_eq (y0 : (ApiSuffix × Unit)) (y1 : (List (List UInt8))) (y2 : Int) (y3 : Int) : run E_host_FormatRule A_host_FormatRule (loopAt 0 (Tryd.f24.body.getD .skip)) (layC cd [(1, .ptr [(.v (.agg 2))]), (30, .f (.v (.rs 1))), (31, .f (.v (.int .i64))), (32, .f (.v (.int .i64)))] [] (y0, y1, y2, y3, ())) (roundK cd [(1, .ptr [(.v (.agg 2))]), (30, .f (.v (.rs 1))), (31, .f (.v (.int .i64))), (32, .f (.v (.int .i64)))] [] [(.ret, [(2, .f (.v .str)), (3, .f (.v (.int .i64)))]), (.exit 0, [(1, .ptr [(.v (.agg 2))])])]) = host_FormatRule_L0b y0 y1 y2 y3 := by kernel_rfl

theorem host_FormatRule_eq (x : tySs T S_host_FormatRule.ps) : run E_host_FormatRule A_host_FormatRule (Tryd.f24.body.getD .skip) (enterT E_host_FormatRule.C S_host_FormatRule.ps x) (retK E_host_FormatRule Tryd.f24.results.toList S_host_FormatRule.ps S_host_FormatRule.rs) = S_host_FormatRule.fn x := by kernel_rfl

theorem host_FormatRule_env : EnvOk Tryd.prog E_host_FormatRule := envOk (E := E_host_FormatRule) cd_ok tys fl_ok fun f ds S h => by
    dsimp only [E_host_FormatRule] at h
    split at h
    · cases h; exact host_Validate_ok
    · cases h; exact strings_Join_ok
    · cases h; exact host_validLabel_ok
    · cases h

theorem host_FormatRule_L0_ok : LoopOk Tryd.prog E_host_FormatRule Tryd.f24.ntmps (kqOf S_host_FormatRule.ps 0) (loopAt 0 (Tryd.f24.body.getD .skip)) ⟨[(1, .ptr [(.v (.agg 2))]), (30, .f (.v (.rs 1))), (31, .f (.v (.int .i64))), (32, .f (.v (.int .i64)))], [(.ret, [(2, .f (.v .str)), (3, .f (.v (.int .i64)))]), (.exit 0, [(1, .ptr [(.v (.agg 2))])])], host_FormatRule_L0, []⟩ :=
  loop_ok (A := A_host_FormatRule) (done := []) (c0 := (Tryd.f24.body.getD .skip)) hmix host_FormatRule_env done_nil rounds (by kernel_rfl) (by kernel_rfl) (fun x => host_FormatRule_L0_eq x.1 x.2.1 x.2.2.1 x.2.2.2.1) (fun _ => rfl)

theorem host_FormatRule_ok : SoundT Tryd.prog cd gdn 24 S_host_FormatRule :=
  sound_fn (E := E_host_FormatRule) (A := A_host_FormatRule) (done := [0]) (c := (Tryd.f24.body.getD .skip)) (S := S_host_FormatRule) (fn := Tryd.f24) hmix host_FormatRule_env Tryd.func24 rfl (by kernel_rfl) (by kernel_rfl) (done_cons rfl host_FormatRule_L0_ok done_nil) (by kernel_rfl) (by kernel_rfl) host_FormatRule_eq

def slices_Equal_string_string_L0b (y0 : (List (List UInt8))) (y1 : (List (List UInt8))) (y2 : Int) (y3 : Int) : Option (((List (List UInt8)) × (List (List UInt8)) × Int × Int × Unit) ⊕ ((Bool × Unit) ⊕ (Unit))) :=
 (bif (decide (y3 < y2)) then ((getI y0 y3).bind fun x1 => ((getI y1 y3).bind fun x2 => (bif (!decide (x1 = x2)) then (some (Sum.inr (Sum.inl (false, ()))))
 else (some (Sum.inl (y0, y1, y2, (IntKind.wrap .i64 (y3 + (1 : Int))), ()))))))
 else (some (Sum.inr (Sum.inr ()))))

def slices_Equal_string_string_L0 (y : ((List (List UInt8)) × (List (List UInt8)) × Int × Int × Unit)) : Option ((Bool × Unit) ⊕ (Unit)) := iter (fun (y : ((List (List UInt8)) × (List (List UInt8)) × Int × Int × Unit)) => slices_Equal_string_string_L0b y.1 y.2.1 y.2.2.1 y.2.2.2.1) rounds y

def slices_Equal_string_string (a0 : (List (List UInt8))) (a1 : (List (List UInt8))) : Option ((Unit) × (Bool × Unit)) :=
 (bif (!decide (((a0).length : Int) = ((a1).length : Int))) then (some ((), (false, ())))
 else ((slices_Equal_string_string_L0 (a0, a1, ((a0).length : Int), (0 : Int), ())).bind (Sum.elim (fun (z3 : (Bool × Unit)) => (some ((), (z3.1, ())))) (fun (z4 : (Unit)) => (some ((), (true, ())))))))

def S_slices_Equal_string_string : FSpec T := ⟨[.f (.v (.rs 1)), .f (.v (.rs 1))], [(.v .bool)], fun x => slices_Equal_string_string x.1 x.2.1⟩

def E_slices_Equal_string_string : Env T := ⟨tab.find, cd, globs, flc, fun f ds => match f with
    | _ => none, fun f => match f with
    | _ => false⟩

def A_slices_Equal_string_string : Loc2 T := ⟨fun id => match id with
    | 0 => some ⟨[(0, .f (.v (.rs 1))), (1, .f (.v (.rs 1))), (12, .f (.v (.int .i64))), (13, .f (.v (.int .i64)))], [(.ret, [(4, .f (.v .bool))]), (.exit 0, [])], slices_Equal_string_string_L0, []⟩
    | _ => none, fun r => match r with
    | _ => none, fun r => match r with
    | _ => false⟩

theorem slices_Equal_string_string_L0_eq (y0 : (List (List UInt8))) (y1 : (List (List UInt8))) (y2 : Int) (y3 : Int) : run E_slices_Equal_string_string A_slices_Equal_string_string (loopAt 0 (Tryd.f46.body.getD .skip)) (layC cd [(0, .f (.v (.rs 1))), (1, .f (.v (.rs 1))), (12, .f (.v (.int .i64))), (13, .f (.v (.int .i64)))] [] (y0, y1, y2, y3, ())) (roundK cd [(0, .f (.v (.rs 1))), (1, .f (.v (.rs 1))), (12, .f (.v (.int .i64))), (13, .f (.v (.int .i64)))] [] [(.ret, [(4, .f (.v .bool))]), (.exit 0, [])]) = slices_Equal_string_string_L0b y0 y1 y2 y3 := by kernel_rfl

theorem slices_Equal_string_string_eq (x : tySs T S_slices_Equal_string_string.ps) : run E_slices_Equal_string_string A_slices_Equal_string_string (Tryd.f46.body.getD .skip) (enterT E_slices_Equal_string_string.C S_slices_Equal_string_string.ps x) (retK E_slices_Equal_string_string Tryd.f46.results.toList S_slices_Equal_string_string.ps S_slices_Equal_string_string.rs) = S_slices_Equal_string_string.fn x := by kernel_rfl

theorem slices_Equal_string_string_env : EnvOk Tryd.prog E_slices_Equal_string_string := envOk (E := E_slices_Equal_string_string) cd_ok tys fl_ok fun f ds S h => by cases h

theorem slices_Equal_string_string_L0_ok : LoopOk Tryd.prog E_slices_Equal_string_string Tryd.f46.ntmps (kqOf S_slices_Equal_string_string.ps 0) (loopAt 0 (Tryd.f46.body.getD .skip)) ⟨[(0, .f (.v (.rs 1))), (1, .f (.v (.rs 1))), (12, .f (.v (.int .i64))), (13, .f (.v (.int .i64)))], [(.ret, [(4, .f (.v .bool))]), (.exit 0, [])], slices_Equal_string_string_L0, []⟩ :=
  loop_ok (A := A_slices_Equal_string_string) (done := []) (c0 := (Tryd.f46.body.getD .skip)) hmix slices_Equal_string_string_env done_nil rounds (by kernel_rfl) (by kernel_rfl) (fun x => slices_Equal_string_string_L0_eq x.1 x.2.1 x.2.2.1 x.2.2.2.1) (fun _ => rfl)

theorem slices_Equal_string_string_ok : SoundT Tryd.prog cd gdn 46 S_slices_Equal_string_string :=
  sound_fn (E := E_slices_Equal_string_string) (A := A_slices_Equal_string_string) (done := [0]) (c := (Tryd.f46.body.getD .skip)) (S := S_slices_Equal_string_string) (fn := Tryd.f46) hmix slices_Equal_string_string_env Tryd.func46 rfl (by kernel_rfl) (by kernel_rfl) (done_cons rfl slices_Equal_string_string_L0_ok done_nil) (by kernel_rfl) (by kernel_rfl) slices_Equal_string_string_eq

def host_ends (a0 : (List (List UInt8))) (a1 : (List (List UInt8))) : Option ((Unit) × (Bool × Unit)) :=
 (bif (decide (((a1).length : Int) ≤ ((a0).length : Int))) then (let v1 : Int := (IntKind.wrap .i64 (((a0).length : Int) - ((a1).length : Int)))
 (bif (decide ((0 : Int) ≤ v1) && decide (v1 ≤ ((a0).length : Int))) then ((slices_Equal_string_string (List.drop (v1).toNat a0) a1).bind fun r2 => (some ((), (r2.2.1, ()))))
 else none))
 else (some ((), (false, ()))))

def S_host_ends : FSpec T := ⟨[.f (.v (.rs 1)), .f (.v (.rs 1))], [(.v .bool)], fun x => host_ends x.1 x.2.1⟩

def E_host_ends : Env T := ⟨tab.find, cd, globs, flc, fun f ds => match f with
    | 46 => some S_slices_Equal_string_string
    | _ => none, fun f => match f with
    | 46 => true
    | _ => false⟩

def A_host_ends : Loc2 T := ⟨fun id => match id with
    | _ => none, fun r => match r with
    | _ => none, fun r => match r with
    | _ => false⟩

theorem host_ends_eq (x : tySs T S_host_ends.ps) : run E_host_ends A_host_ends (Tryd.f36.body.getD .skip) (enterT E_host_ends.C S_host_ends.ps x) (retK E_host_ends Tryd.f36.results.toList S_host_ends.ps S_host_ends.rs) = S_host_ends.fn x := by kernel_rfl

theorem host_ends_env : EnvOk Tryd.prog E_host_ends := envOk (E := E_host_ends) cd_ok tys fl_ok fun f ds S h => by
    dsimp only [E_host_ends] at h
    split at h
    · cases h; exact slices_Equal_string_string_ok
    · cases h

theorem host_ends_ok : SoundT Tryd.prog cd gdn 36 S_host_ends :=
  sound_fn (E := E_host_ends) (A := A_host_ends) (done := []) (c := (Tryd.f36.body.getD .skip)) (S := S_host_ends) (fn := Tryd.f36) hmix host_ends_env Tryd.func36 rfl (by kernel_rfl) (by kernel_rfl) done_nil (by kernel_rfl) (by kernel_rfl) host_ends_eq

def host_matches (a0 : ApiSuffix) (a1 : (List (List UInt8))) : Option ((Unit) × (Bool × Unit)) :=
 ((host_FormatRule a0).bind fun r1 => (bif (!decide (r1.2.2.1 = (0 : Int))) then (some ((), (false, ())))
 else ((host_ends a1 a0.labels).bind fun r2 => (bif (!r2.2.1) then (some ((), (false, ())))
 else (bif (!a0.wild) then (some ((), (true, ())))
 else (some ((), ((decide (((a0.labels).length : Int) < ((a1).length : Int))), ()))))))))

def S_host_matches : FSpec T := ⟨[.f (.v (.agg 2)), .f (.v (.rs 1))], [(.v .bool)], fun x => host_matches x.1 x.2.1⟩

def E_host_matches : Env T := ⟨tab.find, cd, globs, flc, fun f ds => match f with
    | 24 => some S_host_FormatRule
    | 36 => some S_host_ends
    | _ => none, fun f => match f with
    | 24 => true
    | 36 => true
    | _ => false⟩

def A_host_matches : Loc2 T := ⟨fun id => match id with
    | _ => none, fun r => match r with
    | _ => none, fun r => match r with
    | _ => false⟩

theorem host_matches_eq (x : tySs T S_host_matches.ps) : run E_host_matches A_host_matches (Tryd.f29.body.getD .skip) (enterT E_host_matches.C S_host_matches.ps x) (retK E_host_matches Tryd.f29.results.toList S_host_matches.ps S_host_matches.rs) = S_host_matches.fn x := by kernel_rfl

theorem host_matches_env : EnvOk Tryd.prog E_host_matches := envOk (E := E_host_matches) cd_ok tys fl_ok fun f ds S h => by
    dsimp only [E_host_matches] at h
    split at h
    · cases h; exact host_FormatRule_ok
    · cases h; exact host_ends_ok
    · cases h

theorem host_matches_ok : SoundT Tryd.prog cd gdn 29 S_host_matches :=
  sound_fn (E := E_host_matches) (A := A_host_matches) (done := []) (c := (Tryd.f29.body.getD .skip)) (S := S_host_matches) (fn := Tryd.f29) hmix host_matches_env Tryd.func29 rfl (by kernel_rfl) (by kernel_rfl) done_nil (by kernel_rfl) (by kernel_rfl) host_matches_eq

def host_Public_L0b (y0 : (List (List UInt8))) (y1 : Int) (y2 : Int) (y3 : (List (ApiSuffix))) (y4 : Int) (y5 : Int) : Option (((List (List UInt8)) × Int × Int × (List (ApiSuffix)) × Int × Int × Unit) ⊕ (Int × Int × Unit)) :=
 (bif (decide (y5 < y4)) then ((getI y3 y5).bind fun x3 => ((host_matches x3 y0).bind fun r4 => (bif (!r4.2.1) then (some (Sum.inl (y0, y1, y2, y3, y4, (IntKind.wrap .i64 (y5 + (1 : Int))), ())))
 else (bif x3.except then (let v5 : Int := (bif decide (y2 < ((x3.labels).length : Int)) then ((x3.labels).length : Int) else y2)
 (some (Sum.inl (y0, y1, v5, y3, y4, (IntKind.wrap .i64 (y5 + (1 : Int))), ()))))
 else (bif x3.wild then (let v6 : Int := (bif decide (y1 < (IntKind.wrap .i64 (((x3.labels).length : Int) + (1 : Int)))) then (IntKind.wrap .i64 (((x3.labels).length : Int) + (1 : Int))) else y1)
 (some (Sum.inl (y0, v6, y2, y3, y4, (IntKind.wrap .i64 (y5 + (1 : Int))), ()))))
 else (let v7 : Int := (bif decide (y1 < ((x3.labels).length : Int)) then ((x3.labels).length : Int) else y1)
 (some (Sum.inl (y0, v7, y2, y3, y4, (IntKind.wrap .i64 (y5 + (1 : Int))), ())))))))))
 else (some (Sum.inr (y1, y2, ()))))

def host_Public_L0 (y : ((List (List UInt8)) × Int × Int × (List (ApiSuffix)) × Int × Int × Unit)) : Option (Int × Int × Unit) := iter (fun (y : ((List (List UInt8)) × Int × Int × (List (ApiSuffix)) × Int × Int × Unit)) => host_Public_L0b y.1 y.2.1 y.2.2.1 y.2.2.2.1 y.2.2.2.2.1 y.2.2.2.2.2.1) rounds y

def host_Public (a0 : (List (ApiSuffix))) (a1 : (List UInt8)) : Option ((Unit) × (Int × Unit)) :=
 ((host_Labels a1).bind fun r1 => (bif (decide (((r1.2.1).length : Int) = (0 : Int))) then (some ((), ((0 : Int), ())))
 else (let v2 : Int := (bif decide ((64 : Int) < ((a0).length : Int)) then (64 : Int) else ((a0).length : Int))
 (bif (decide ((0 : Int) ≤ v2) && decide (v2 ≤ ((a0).length : Int))) then ((host_Public_L0 (r1.2.1, (1 : Int), (0 : Int), (List.take (v2).toNat a0), (((List.take (v2).toNat a0)).length : Int), (0 : Int), ())).bind (fun (z8 : (Int × Int × Unit)) => (bif (decide ((0 : Int) < z8.2.1)) then (some ((), ((IntKind.wrap .i64 (z8.2.1 - (1 : Int))), ())))
 else (some ((), (z8.1, ()))))))
 else none))))

def S_host_Public : FSpec T := ⟨[.f (.v (.rs 2)), .f (.v .str)], [(.v (.int .i64))], fun x => host_Public x.1 x.2.1⟩

def E_host_Public : Env T := ⟨tab.find, cd, globs, flc, fun f ds => match f with
    | 17 => some S_host_Labels
    | 29 => some S_host_matches
    | _ => none, fun f => match f with
    | 29 => true
    | _ => false⟩

def A_host_Public : Loc2 T := ⟨fun id => match id with
    | 0 => some ⟨[(5, .f (.own 1)), (6, .f (.v (.int .i64))), (7, .f (.v (.int .i64))), (19, .f (.v (.rs 2))), (20, .f (.v (.int .i64))), (21, .f (.v (.int .i64)))], [(.exit 0, [(6, .f (.v (.int .i64))), (7, .f (.v (.int .i64)))])], host_Public_L0, []⟩
    | _ => none, fun r => match r with
    | _ => none, fun r => match r with
    | _ => false⟩

theorem host_Public_L0_eq (y0 : (List (List UInt8))) (y1 : Int) (y2 : Int) (y3 : (List (ApiSuffix))) (y4 : Int) (y5 : Int) : run E_host_Public A_host_Public (loopAt 0 (Tryd.f14.body.getD .skip)) (layC cd [(5, .f (.own 1)), (6, .f (.v (.int .i64))), (7, .f (.v (.int .i64))), (19, .f (.v (.rs 2))), (20, .f (.v (.int .i64))), (21, .f (.v (.int .i64)))] [] (y0, y1, y2, y3, y4, y5, ())) (roundK cd [(5, .f (.own 1)), (6, .f (.v (.int .i64))), (7, .f (.v (.int .i64))), (19, .f (.v (.rs 2))), (20, .f (.v (.int .i64))), (21, .f (.v (.int .i64)))] [] [(.exit 0, [(6, .f (.v (.int .i64))), (7, .f (.v (.int .i64)))])]) = host_Public_L0b y0 y1 y2 y3 y4 y5 := by kernel_rfl

theorem host_Public_eq (x : tySs T S_host_Public.ps) : run E_host_Public A_host_Public (Tryd.f14.body.getD .skip) (enterT E_host_Public.C S_host_Public.ps x) (retK E_host_Public Tryd.f14.results.toList S_host_Public.ps S_host_Public.rs) = S_host_Public.fn x := by kernel_rfl

theorem host_Public_env : EnvOk Tryd.prog E_host_Public := envOk (E := E_host_Public) cd_ok tys fl_ok fun f ds S h => by
    dsimp only [E_host_Public] at h
    split at h
    · cases h; exact host_Labels_ok
    · cases h; exact host_matches_ok
    · cases h

theorem host_Public_L0_ok : LoopOk Tryd.prog E_host_Public Tryd.f14.ntmps (kqOf S_host_Public.ps 0) (loopAt 0 (Tryd.f14.body.getD .skip)) ⟨[(5, .f (.own 1)), (6, .f (.v (.int .i64))), (7, .f (.v (.int .i64))), (19, .f (.v (.rs 2))), (20, .f (.v (.int .i64))), (21, .f (.v (.int .i64)))], [(.exit 0, [(6, .f (.v (.int .i64))), (7, .f (.v (.int .i64)))])], host_Public_L0, []⟩ :=
  loop_ok (A := A_host_Public) (done := []) (c0 := (Tryd.f14.body.getD .skip)) hmix host_Public_env done_nil rounds (by kernel_rfl) (by kernel_rfl) (fun x => host_Public_L0_eq x.1 x.2.1 x.2.2.1 x.2.2.2.1 x.2.2.2.2.1 x.2.2.2.2.2.1) (fun _ => rfl)

theorem host_Public_ok : SoundT Tryd.prog cd gdn 14 S_host_Public :=
  sound_fn (E := E_host_Public) (A := A_host_Public) (done := [0]) (c := (Tryd.f14.body.getD .skip)) (S := S_host_Public) (fn := Tryd.f14) hmix host_Public_env Tryd.func14 rfl (by kernel_rfl) (by kernel_rfl) (done_cons rfl host_Public_L0_ok done_nil) (by kernel_rfl) (by kernel_rfl) host_Public_eq

def host_Registrable (a0 : (List (ApiSuffix))) (a1 : (List UInt8)) : Option ((Unit) × ((List UInt8) × Bool × Unit)) :=
 ((host_Labels a1).bind fun r1 => ((host_Public a0 a1).bind fun r2 => (bif (decide (((r1.2.1).length : Int) ≤ r2.2.1)) then (some ((), (([] : List UInt8), false, ())))
 else (let v3 : Int := (IntKind.wrap .i64 ((IntKind.wrap .i64 (((r1.2.1).length : Int) - r2.2.1)) - (1 : Int)))
 (bif (decide ((0 : Int) ≤ v3) && decide (v3 ≤ ((r1.2.1).length : Int))) then (bif decide (((r1.2.1).length - (v3).toNat) + (v3).toNat ≤ (r1.2.1).length) then ((strings_Join (List.take ((r1.2.1).length - (v3).toNat) (List.drop (v3).toNat r1.2.1)) ([46] : List UInt8)).bind fun r4 => (some ((), (r4.2.1, true, ()))))
 else none)
 else none)))))

def S_host_Registrable : FSpec T := ⟨[.f (.v (.rs 2)), .f (.v .str)], [(.v .str), (.v .bool)], fun x => host_Registrable x.1 x.2.1⟩

def E_host_Registrable : Env T := ⟨tab.find, cd, globs, flc, fun f ds => match f with
    | 14 => some S_host_Public
    | 17 => some S_host_Labels
    | 27 => some S_strings_Join
    | _ => none, fun f => match f with
    | 14 => true
    | 27 => true
    | _ => false⟩

def A_host_Registrable : Loc2 T := ⟨fun id => match id with
    | _ => none, fun r => match r with
    | _ => none, fun r => match r with
    | _ => false⟩

theorem host_Registrable_eq (x : tySs T S_host_Registrable.ps) : run E_host_Registrable A_host_Registrable (Tryd.f12.body.getD .skip) (enterT E_host_Registrable.C S_host_Registrable.ps x) (retK E_host_Registrable Tryd.f12.results.toList S_host_Registrable.ps S_host_Registrable.rs) = S_host_Registrable.fn x := by kernel_rfl

theorem host_Registrable_env : EnvOk Tryd.prog E_host_Registrable := envOk (E := E_host_Registrable) cd_ok tys fl_ok fun f ds S h => by
    dsimp only [E_host_Registrable] at h
    split at h
    · cases h; exact host_Public_ok
    · cases h; exact host_Labels_ok
    · cases h; exact strings_Join_ok
    · cases h

theorem host_Registrable_ok : SoundT Tryd.prog cd gdn 12 S_host_Registrable :=
  sound_fn (E := E_host_Registrable) (A := A_host_Registrable) (done := []) (c := (Tryd.f12.body.getD .skip)) (S := S_host_Registrable) (fn := Tryd.f12) hmix host_Registrable_env Tryd.func12 rfl (by kernel_rfl) (by kernel_rfl) done_nil (by kernel_rfl) (by kernel_rfl) host_Registrable_eq

def passkeylaw23_awake : Option ((Unit) × (Bool × Unit)) :=
 (let v1 : List (List UInt8) := ([([99, 111] : List UInt8), ([117, 107] : List UInt8)] : List (List UInt8))
 (let v2 : List (List UInt8) := ([([119, 119, 119] : List UInt8), ([99, 107] : List UInt8)] : List (List UInt8))
 (let v3 : List (ApiSuffix) := ([(⟨([([117, 107] : List UInt8)] : List (List UInt8)), false, false⟩ : ApiSuffix), (⟨v1, false, false⟩ : ApiSuffix), (⟨([([99, 107] : List UInt8)] : List (List UInt8)), true, false⟩ : ApiSuffix), (⟨v2, false, true⟩ : ApiSuffix)] : List (ApiSuffix))
 ((host_Registrable v3 ([97, 46, 98, 46, 99, 111, 46, 117, 107] : List UInt8)).bind fun r4 => ((host_Registrable v3 ([121, 46, 99, 107] : List UInt8)).bind fun r5 => ((host_Registrable v3 ([119, 119, 119, 46, 99, 107] : List UInt8)).bind fun r6 => ((host_Validate ([97, 45, 98, 46, 99, 49] : List UInt8)).bind fun r7 => (bif (decide (r7.2.1 = (0 : Int))) then ((host_Validate ([49, 48, 46, 48, 46, 48, 46, 49] : List UInt8)).bind fun r8 => (bif (decide (r8.2.1 = (2 : Int))) then ((host_Public v3 ([97, 46, 98, 46, 99, 111, 46, 117, 107] : List UInt8)).bind fun r9 => (bif (decide (r9.2.1 = (2 : Int))) then (bif r4.2.2.1 then (bif (decide (r4.2.1 = ([98, 46, 99, 111, 46, 117, 107] : List UInt8))) then (bif (!r5.2.2.1) then (bif r6.2.2.1 then (some ((), ((decide (r6.2.1 = ([119, 119, 119, 46, 99, 107] : List UInt8))), ())))
 else (some ((), (false, ()))))
 else (some ((), (false, ()))))
 else (some ((), (false, ()))))
 else (some ((), (false, ()))))
 else (some ((), (false, ())))))
 else (some ((), (false, ())))))
 else (some ((), (false, ())))))))))))

def S_passkeylaw23_awake : FSpec T := ⟨[], [(.v .bool)], fun x => passkeylaw23_awake ⟩

def E_passkeylaw23_awake : Env T := ⟨tab.find, cd, globs, flc, fun f ds => match f with
    | 12 => some S_host_Registrable
    | 14 => some S_host_Public
    | 26 => some S_host_Validate
    | _ => none, fun f => match f with
    | 12 => true
    | 14 => true
    | 26 => true
    | _ => false⟩

def A_passkeylaw23_awake : Loc2 T := ⟨fun id => match id with
    | _ => none, fun r => match r with
    | _ => none, fun r => match r with
    | _ => false⟩

theorem passkeylaw23_awake_eq (x : tySs T S_passkeylaw23_awake.ps) : run E_passkeylaw23_awake A_passkeylaw23_awake (Tryd.f9.body.getD .skip) (enterT E_passkeylaw23_awake.C S_passkeylaw23_awake.ps x) (retK E_passkeylaw23_awake Tryd.f9.results.toList S_passkeylaw23_awake.ps S_passkeylaw23_awake.rs) = S_passkeylaw23_awake.fn x := by kernel_rfl

theorem passkeylaw23_awake_env : EnvOk Tryd.prog E_passkeylaw23_awake := envOk (E := E_passkeylaw23_awake) cd_ok tys fl_ok fun f ds S h => by
    dsimp only [E_passkeylaw23_awake] at h
    split at h
    · cases h; exact host_Registrable_ok
    · cases h; exact host_Public_ok
    · cases h; exact host_Validate_ok
    · cases h

theorem passkeylaw23_awake_ok : SoundT Tryd.prog cd gdn 9 S_passkeylaw23_awake :=
  sound_fn (E := E_passkeylaw23_awake) (A := A_passkeylaw23_awake) (done := []) (c := (Tryd.f9.body.getD .skip)) (S := S_passkeylaw23_awake) (fn := Tryd.f9) hmix passkeylaw23_awake_env Tryd.func9 rfl (by kernel_rfl) (by kernel_rfl) done_nil (by kernel_rfl) (by kernel_rfl) passkeylaw23_awake_eq

def passkeycast_Rules_L0b (y0 : Int) (y1 : (List (ApiSuffix))) (y2 : (List (ApiSuffix))) (y3 : Int) : Option ((Int × (List (ApiSuffix)) × (List (ApiSuffix)) × Int × Unit) ⊕ ((List (ApiSuffix)) × Unit)) :=
 (bif (decide (y3 < ((y1).length : Int))) then (let v6 : Int := (Int.fdiv y0 (2 ^ (min (BitVec.ofInt 64 y3).toNat (IntKind.bits .i64))))
 (let v7 : Int := (IntKind.wrap .i64 ((BitVec.ofInt (IntKind.bits .i64) v6 &&& BitVec.ofInt (IntKind.bits .i64) (1 : Int)).toNat : Int))
 (bif (decide (v7 = (0 : Int))) then (bif (decide ((0 : Int) ≤ y3) && decide (y3 < ((y1).length : Int))) then (((y1)[(y3).toNat]?).bind fun x8 => (bif small ((y2).length + (([x8] : List (ApiSuffix)) : List (ApiSuffix)).length) 32 then (some (Sum.inl (y0, y1, (y2 ++ ([x8] : List (ApiSuffix))), (IntKind.wrap .i64 (y3 + (1 : Int))), ())))
 else none))
 else none)
 else (some (Sum.inl (y0, y1, y2, (IntKind.wrap .i64 (y3 + (1 : Int))), ()))))))
 else (some (Sum.inr (y2, ()))))

def passkeycast_Rules_L0 (y : (Int × (List (ApiSuffix)) × (List (ApiSuffix)) × Int × Unit)) : Option ((List (ApiSuffix)) × Unit) := iter (fun (y : (Int × (List (ApiSuffix)) × (List (ApiSuffix)) × Int × Unit)) => passkeycast_Rules_L0b y.1 y.2.1 y.2.2.1 y.2.2.2.1) rounds y

def passkeycast_Rules (a0 : Int) : Option ((Unit) × ((List (ApiSuffix)) × Unit)) :=
 (let v1 : List (List UInt8) := ([([99, 111] : List UInt8), ([117, 107] : List UInt8)] : List (List UInt8))
 (let v2 : List (List UInt8) := ([([119, 119, 119] : List UInt8), ([99, 107] : List UInt8)] : List (List UInt8))
 (let v3 : List (List UInt8) := ([([103, 105, 116, 104, 117, 98] : List UInt8), ([105, 111] : List UInt8)] : List (List UInt8))
 (let v4 : List (List UInt8) := ([([98] : List UInt8), ([99, 111] : List UInt8), ([117, 107] : List UInt8)] : List (List UInt8))
 (let v5 : List (ApiSuffix) := ([(⟨([([99, 111, 109] : List UInt8)] : List (List UInt8)), false, false⟩ : ApiSuffix), (⟨([([117, 107] : List UInt8)] : List (List UInt8)), false, false⟩ : ApiSuffix), (⟨v1, false, false⟩ : ApiSuffix), (⟨([([99, 107] : List UInt8)] : List (List UInt8)), true, false⟩ : ApiSuffix), (⟨v2, false, true⟩ : ApiSuffix), (⟨v3, false, false⟩ : ApiSuffix), (⟨([([116, 101, 115, 116] : List UInt8)] : List (List UInt8)), false, false⟩ : ApiSuffix), (⟨v4, false, true⟩ : ApiSuffix)] : List (ApiSuffix))
 ((passkeycast_Rules_L0 (a0, v5, [], (0 : Int), ())).bind (fun (z9 : ((List (ApiSuffix)) × Unit)) => (some ((), (z9.1, ()))))))))))

def S_passkeycast_Rules : FSpec T := ⟨[.f (.v (.int .i64))], [(.own 2)], fun x => passkeycast_Rules x.1⟩

def E_passkeycast_Rules : Env T := ⟨tab.find, cd, globs, flc, fun f ds => match f with
    | _ => none, fun f => match f with
    | _ => false⟩

def A_passkeycast_Rules : Loc2 T := ⟨fun id => match id with
    | 0 => some ⟨[(0, .f (.v (.int .i64))), (3, .f (.own 2)), (4, .f (.own 2)), (5, .f (.v (.int .i64)))], [(.exit 0, [(4, .f (.own 2))])], passkeycast_Rules_L0, []⟩
    | _ => none, fun r => match r with
    | _ => none, fun r => match r with
    | _ => false⟩

theorem passkeycast_Rules_L0_eq (y0 : Int) (y1 : (List (ApiSuffix))) (y2 : (List (ApiSuffix))) (y3 : Int) : run E_passkeycast_Rules A_passkeycast_Rules (loopAt 0 (Tryd.f10.body.getD .skip)) (layC cd [(0, .f (.v (.int .i64))), (3, .f (.own 2)), (4, .f (.own 2)), (5, .f (.v (.int .i64)))] [] (y0, y1, y2, y3, ())) (roundK cd [(0, .f (.v (.int .i64))), (3, .f (.own 2)), (4, .f (.own 2)), (5, .f (.v (.int .i64)))] [] [(.exit 0, [(4, .f (.own 2))])]) = passkeycast_Rules_L0b y0 y1 y2 y3 := by kernel_rfl

theorem passkeycast_Rules_eq (x : tySs T S_passkeycast_Rules.ps) : run E_passkeycast_Rules A_passkeycast_Rules (Tryd.f10.body.getD .skip) (enterT E_passkeycast_Rules.C S_passkeycast_Rules.ps x) (retK E_passkeycast_Rules Tryd.f10.results.toList S_passkeycast_Rules.ps S_passkeycast_Rules.rs) = S_passkeycast_Rules.fn x := by kernel_rfl

theorem passkeycast_Rules_env : EnvOk Tryd.prog E_passkeycast_Rules := envOk (E := E_passkeycast_Rules) cd_ok tys fl_ok fun f ds S h => by cases h

theorem passkeycast_Rules_L0_ok : LoopOk Tryd.prog E_passkeycast_Rules Tryd.f10.ntmps (kqOf S_passkeycast_Rules.ps 0) (loopAt 0 (Tryd.f10.body.getD .skip)) ⟨[(0, .f (.v (.int .i64))), (3, .f (.own 2)), (4, .f (.own 2)), (5, .f (.v (.int .i64)))], [(.exit 0, [(4, .f (.own 2))])], passkeycast_Rules_L0, []⟩ :=
  loop_ok (A := A_passkeycast_Rules) (done := []) (c0 := (Tryd.f10.body.getD .skip)) hmix passkeycast_Rules_env done_nil rounds (by kernel_rfl) (by kernel_rfl) (fun x => passkeycast_Rules_L0_eq x.1 x.2.1 x.2.2.1 x.2.2.2.1) (fun _ => rfl)

theorem passkeycast_Rules_ok : SoundT Tryd.prog cd gdn 10 S_passkeycast_Rules :=
  sound_fn (E := E_passkeycast_Rules) (A := A_passkeycast_Rules) (done := [0]) (c := (Tryd.f10.body.getD .skip)) (S := S_passkeycast_Rules) (fn := Tryd.f10) hmix passkeycast_Rules_env Tryd.func10 rfl (by kernel_rfl) (by kernel_rfl) (done_cons rfl passkeycast_Rules_L0_ok done_nil) (by kernel_rfl) (by kernel_rfl) passkeycast_Rules_eq

def passkeycast_Mod (a0 : Int) (a1 : Int) : Option ((Unit) × (Int × Unit)) :=
 (bif decide ((BitVec.ofInt 64 a1) = 0) then none
 else (let v1 : Int := (IntKind.wrap .i64 (((BitVec.ofInt 64 a0) % (BitVec.ofInt 64 a1)).toNat : Int))
 (some ((), (v1, ())))))

def S_passkeycast_Mod : FSpec T := ⟨[.f (.v (.int .i64)), .f (.v (.int .i64))], [(.v (.int .i64))], fun x => passkeycast_Mod x.1 x.2.1⟩

def E_passkeycast_Mod : Env T := ⟨tab.find, cd, globs, flc, fun f ds => match f with
    | _ => none, fun f => match f with
    | _ => false⟩

def A_passkeycast_Mod : Loc2 T := ⟨fun id => match id with
    | _ => none, fun r => match r with
    | _ => none, fun r => match r with
    | _ => false⟩

theorem passkeycast_Mod_eq (x : tySs T S_passkeycast_Mod.ps) : run E_passkeycast_Mod A_passkeycast_Mod (Tryd.f18.body.getD .skip) (enterT E_passkeycast_Mod.C S_passkeycast_Mod.ps x) (retK E_passkeycast_Mod Tryd.f18.results.toList S_passkeycast_Mod.ps S_passkeycast_Mod.rs) = S_passkeycast_Mod.fn x := by kernel_rfl

theorem passkeycast_Mod_env : EnvOk Tryd.prog E_passkeycast_Mod := envOk (E := E_passkeycast_Mod) cd_ok tys fl_ok fun f ds S h => by cases h

theorem passkeycast_Mod_ok : SoundT Tryd.prog cd gdn 18 S_passkeycast_Mod :=
  sound_fn (E := E_passkeycast_Mod) (A := A_passkeycast_Mod) (done := []) (c := (Tryd.f18.body.getD .skip)) (S := S_passkeycast_Mod) (fn := Tryd.f18) hmix passkeycast_Mod_env Tryd.func18 rfl (by kernel_rfl) (by kernel_rfl) done_nil (by kernel_rfl) (by kernel_rfl) passkeycast_Mod_eq

def passkeycast_Host (a0 : Int) : Option ((Unit) × ((List UInt8) × Unit)) :=
 (let v1 : List (List UInt8) := ([([101, 120, 97, 109, 112, 108, 101, 46, 99, 111, 109] : List UInt8), ([108, 111, 103, 105, 110, 46, 101, 120, 97, 109, 112, 108, 101, 46, 99, 111, 109] : List UInt8), ([97, 46, 98, 46, 99, 111, 46, 117, 107] : List UInt8), ([98, 46, 99, 111, 46, 117, 107] : List UInt8), ([99, 111, 46, 117, 107] : List UInt8), ([117, 107] : List UInt8), ([120, 46, 121, 46, 99, 107] : List UInt8), ([119, 119, 119, 46, 99, 107] : List UInt8), ([99, 107] : List UInt8), ([108, 111, 99, 97, 108, 104, 111, 115, 116] : List UInt8), ([101, 118, 105, 108, 46, 116, 101, 115, 116] : List UInt8), ([101, 120, 97, 109, 112, 108, 101, 46, 99, 111, 109, 46, 101, 118, 105, 108, 46, 116, 101, 115, 116] : List UInt8), ([97, 46, 108, 111, 103, 105, 110, 46, 101, 120, 97, 109, 112, 108, 101, 46, 99, 111, 109] : List UInt8), ([120, 97, 109, 112, 108, 101, 46, 99, 111, 109] : List UInt8), ([121, 46, 99, 107] : List UInt8), ([122, 46, 120, 46, 121, 46, 99, 107] : List UInt8), ([103, 105, 116, 104, 117, 98, 46, 105, 111] : List UInt8), ([109, 101, 46, 103, 105, 116, 104, 117, 98, 46, 105, 111] : List UInt8), ([121, 111, 117, 46, 103, 105, 116, 104, 117, 98, 46, 105, 111] : List UInt8), ([105, 111] : List UInt8), ([49, 46, 50, 46, 51, 46, 52] : List UInt8), ([] : List UInt8), ([97, 46, 46, 98] : List UInt8), ([69, 120, 97, 109, 112, 108, 101, 46, 99, 111, 109] : List UInt8), ([45, 97, 46, 99, 111, 109] : List UInt8), ([97, 46, 99, 111, 109, 46] : List UInt8), ([97, 45, 98, 46, 99, 49] : List UInt8), ([99, 49] : List UInt8)] : List (List UInt8))
 ((passkeycast_Mod a0 (28 : Int)).bind fun r2 => (bif (decide ((0 : Int) ≤ r2.2.1) && decide (r2.2.1 < (28 : Int))) then (((v1)[(r2.2.1).toNat]?).bind fun x3 => (some ((), (x3, ()))))
 else none)))

def S_passkeycast_Host : FSpec T := ⟨[.f (.v (.int .i64))], [(.v .str)], fun x => passkeycast_Host x.1⟩

def E_passkeycast_Host : Env T := ⟨tab.find, cd, globs, flc, fun f ds => match f with
    | 18 => some S_passkeycast_Mod
    | _ => none, fun f => match f with
    | 18 => true
    | _ => false⟩

def A_passkeycast_Host : Loc2 T := ⟨fun id => match id with
    | _ => none, fun r => match r with
    | _ => none, fun r => match r with
    | _ => false⟩

theorem passkeycast_Host_eq (x : tySs T S_passkeycast_Host.ps) : run E_passkeycast_Host A_passkeycast_Host (Tryd.f11.body.getD .skip) (enterT E_passkeycast_Host.C S_passkeycast_Host.ps x) (retK E_passkeycast_Host Tryd.f11.results.toList S_passkeycast_Host.ps S_passkeycast_Host.rs) = S_passkeycast_Host.fn x := by kernel_rfl

theorem passkeycast_Host_env : EnvOk Tryd.prog E_passkeycast_Host := envOk (E := E_passkeycast_Host) cd_ok tys fl_ok fun f ds S h => by
    dsimp only [E_passkeycast_Host] at h
    split at h
    · cases h; exact passkeycast_Mod_ok
    · cases h

theorem passkeycast_Host_ok : SoundT Tryd.prog cd gdn 11 S_passkeycast_Host :=
  sound_fn (E := E_passkeycast_Host) (A := A_passkeycast_Host) (done := []) (c := (Tryd.f11.body.getD .skip)) (S := S_passkeycast_Host) (fn := Tryd.f11) hmix passkeycast_Host_env Tryd.func11 rfl (by kernel_rfl) (by kernel_rfl) done_nil (by kernel_rfl) (by kernel_rfl) passkeycast_Host_eq

def passkeyref23_split_L0b (y0 : (List UInt8)) (y1 : UInt8) (y2 : (List (List UInt8))) (y3 : Int) (y4 : Int) : Option (((List UInt8) × UInt8 × (List (List UInt8)) × Int × Int × Unit) ⊕ ((List UInt8) × (List (List UInt8)) × Int × Unit)) :=
 (bif (decide (y4 < ((y0).length : Int))) then ((getI y0 y4).bind fun x1 => (bif (decide (x1.toBitVec = y1.toBitVec)) then (bif (decide ((0 : Int) ≤ y4) && decide (y4 ≤ ((y0).length : Int))) then (bif (decide ((0 : Int) ≤ y3) && decide (y3 ≤ ((y4).toNat : Int))) then (let v2 : List (List UInt8) := ([(List.drop (y3).toNat (List.take (y4).toNat y0))] : List (List UInt8))
 (bif small ((y2).length + (v2 : List (List UInt8)).length) 16 then (some (Sum.inl (y0, y1, (y2 ++ v2), (IntKind.wrap .i64 (y4 + (1 : Int))), (IntKind.wrap .i64 (y4 + (1 : Int))), ())))
 else none))
 else none)
 else none)
 else (some (Sum.inl (y0, y1, y2, y3, (IntKind.wrap .i64 (y4 + (1 : Int))), ())))))
 else (some (Sum.inr (y0, y2, y3, ()))))

def passkeyref23_split_L0 (y : ((List UInt8) × UInt8 × (List (List UInt8)) × Int × Int × Unit)) : Option ((List UInt8) × (List (List UInt8)) × Int × Unit) := iter (fun (y : ((List UInt8) × UInt8 × (List (List UInt8)) × Int × Int × Unit)) => passkeyref23_split_L0b y.1 y.2.1 y.2.2.1 y.2.2.2.1 y.2.2.2.2.1) rounds y

def passkeyref23_split (a0 : (List UInt8)) (a1 : UInt8) : Option ((Unit) × ((List (List UInt8)) × Unit)) :=
 ((passkeyref23_split_L0 (a0, a1, [], (0 : Int), (0 : Int), ())).bind (fun (z3 : ((List UInt8) × (List (List UInt8)) × Int × Unit)) => (bif (decide ((0 : Int) ≤ z3.2.2.1) && decide (z3.2.2.1 ≤ ((z3.1).length : Int))) then (bif small ((z3.2.1).length + (([(List.drop (z3.2.2.1).toNat z3.1)] : List (List UInt8)) : List (List UInt8)).length) 16 then (let v4 : List (List UInt8) := (z3.2.1 ++ ([(List.drop (z3.2.2.1).toNat z3.1)] : List (List UInt8)))
 (some ((), (v4, ()))))
 else none)
 else none)))

def S_passkeyref23_split : FSpec T := ⟨[.f (.v .str), .f (.v .u8)], [(.own 1)], fun x => passkeyref23_split x.1 x.2.1⟩

def E_passkeyref23_split : Env T := ⟨tab.find, cd, globs, flc, fun f ds => match f with
    | _ => none, fun f => match f with
    | _ => false⟩

def A_passkeyref23_split : Loc2 T := ⟨fun id => match id with
    | 0 => some ⟨[(0, .f (.v .str)), (1, .f (.v .u8)), (5, .f (.own 1)), (6, .f (.v (.int .i64))), (7, .f (.v (.int .i64)))], [(.exit 0, [(0, .f (.v .str)), (5, .f (.own 1)), (6, .f (.v (.int .i64)))])], passkeyref23_split_L0, []⟩
    | _ => none, fun r => match r with
    | _ => none, fun r => match r with
    | _ => false⟩

theorem passkeyref23_split_L0_eq (y0 : (List UInt8)) (y1 : UInt8) (y2 : (List (List UInt8))) (y3 : Int) (y4 : Int) : run E_passkeyref23_split A_passkeyref23_split (loopAt 0 (Tryd.f32.body.getD .skip)) (layC cd [(0, .f (.v .str)), (1, .f (.v .u8)), (5, .f (.own 1)), (6, .f (.v (.int .i64))), (7, .f (.v (.int .i64)))] [] (y0, y1, y2, y3, y4, ())) (roundK cd [(0, .f (.v .str)), (1, .f (.v .u8)), (5, .f (.own 1)), (6, .f (.v (.int .i64))), (7, .f (.v (.int .i64)))] [] [(.exit 0, [(0, .f (.v .str)), (5, .f (.own 1)), (6, .f (.v (.int .i64)))])]) = passkeyref23_split_L0b y0 y1 y2 y3 y4 := by kernel_rfl

theorem passkeyref23_split_eq (x : tySs T S_passkeyref23_split.ps) : run E_passkeyref23_split A_passkeyref23_split (Tryd.f32.body.getD .skip) (enterT E_passkeyref23_split.C S_passkeyref23_split.ps x) (retK E_passkeyref23_split Tryd.f32.results.toList S_passkeyref23_split.ps S_passkeyref23_split.rs) = S_passkeyref23_split.fn x := by kernel_rfl

theorem passkeyref23_split_env : EnvOk Tryd.prog E_passkeyref23_split := envOk (E := E_passkeyref23_split) cd_ok tys fl_ok fun f ds S h => by cases h

theorem passkeyref23_split_L0_ok : LoopOk Tryd.prog E_passkeyref23_split Tryd.f32.ntmps (kqOf S_passkeyref23_split.ps 0) (loopAt 0 (Tryd.f32.body.getD .skip)) ⟨[(0, .f (.v .str)), (1, .f (.v .u8)), (5, .f (.own 1)), (6, .f (.v (.int .i64))), (7, .f (.v (.int .i64)))], [(.exit 0, [(0, .f (.v .str)), (5, .f (.own 1)), (6, .f (.v (.int .i64)))])], passkeyref23_split_L0, []⟩ :=
  loop_ok (A := A_passkeyref23_split) (done := []) (c0 := (Tryd.f32.body.getD .skip)) hmix passkeyref23_split_env done_nil rounds (by kernel_rfl) (by kernel_rfl) (fun x => passkeyref23_split_L0_eq x.1 x.2.1 x.2.2.1 x.2.2.2.1 x.2.2.2.2.1) (fun _ => rfl)

theorem passkeyref23_split_ok : SoundT Tryd.prog cd gdn 32 S_passkeyref23_split :=
  sound_fn (E := E_passkeyref23_split) (A := A_passkeyref23_split) (done := [0]) (c := (Tryd.f32.body.getD .skip)) (S := S_passkeyref23_split) (fn := Tryd.f32) hmix passkeyref23_split_env Tryd.func32 rfl (by kernel_rfl) (by kernel_rfl) (done_cons rfl passkeyref23_split_L0_ok done_nil) (by kernel_rfl) (by kernel_rfl) passkeyref23_split_eq

def passkeyref23_digit (a0 : UInt8) : Option ((Unit) × (Bool × Unit)) :=
 (bif (decide ((48 : UInt8).toBitVec.toNat ≤ a0.toBitVec.toNat)) then (some ((), ((decide (a0.toBitVec.toNat ≤ (57 : UInt8).toBitVec.toNat)), ())))
 else (some ((), (false, ()))))

def S_passkeyref23_digit : FSpec T := ⟨[.f (.v .u8)], [(.v .bool)], fun x => passkeyref23_digit x.1⟩

def E_passkeyref23_digit : Env T := ⟨tab.find, cd, globs, flc, fun f ds => match f with
    | _ => none, fun f => match f with
    | _ => false⟩

def A_passkeyref23_digit : Loc2 T := ⟨fun id => match id with
    | _ => none, fun r => match r with
    | _ => none, fun r => match r with
    | _ => false⟩

theorem passkeyref23_digit_eq (x : tySs T S_passkeyref23_digit.ps) : run E_passkeyref23_digit A_passkeyref23_digit (Tryd.f44.body.getD .skip) (enterT E_passkeyref23_digit.C S_passkeyref23_digit.ps x) (retK E_passkeyref23_digit Tryd.f44.results.toList S_passkeyref23_digit.ps S_passkeyref23_digit.rs) = S_passkeyref23_digit.fn x := by kernel_rfl

theorem passkeyref23_digit_env : EnvOk Tryd.prog E_passkeyref23_digit := envOk (E := E_passkeyref23_digit) cd_ok tys fl_ok fun f ds S h => by cases h

theorem passkeyref23_digit_ok : SoundT Tryd.prog cd gdn 44 S_passkeyref23_digit :=
  sound_fn (E := E_passkeyref23_digit) (A := A_passkeyref23_digit) (done := []) (c := (Tryd.f44.body.getD .skip)) (S := S_passkeyref23_digit) (fn := Tryd.f44) hmix passkeyref23_digit_env Tryd.func44 rfl (by kernel_rfl) (by kernel_rfl) done_nil (by kernel_rfl) (by kernel_rfl) passkeyref23_digit_eq

def passkeyref23_label_L0b (y0 : (List UInt8)) (y1 : Int) : Option (((List UInt8) × Int × Unit) ⊕ ((Bool × Unit) ⊕ (Unit))) :=
 (bif (decide (y1 < ((y0).length : Int))) then ((getI y0 y1).bind fun x3 => (bif (decide ((97 : UInt8).toBitVec.toNat ≤ x3.toBitVec.toNat)) then ((getI y0 y1).bind fun x4 => (bif (!(decide (x4.toBitVec.toNat ≤ (122 : UInt8).toBitVec.toNat))) then ((getI y0 y1).bind fun x5 => ((passkeyref23_digit x5).bind fun r6 => (bif (!r6.2.1) then ((getI y0 y1).bind fun x7 => (bif (!decide (x7.toBitVec = (45 : UInt8).toBitVec)) then (some (Sum.inr (Sum.inl (false, ()))))
 else (some (Sum.inl (y0, (IntKind.wrap .i64 (y1 + (1 : Int))), ())))))
 else (some (Sum.inl (y0, (IntKind.wrap .i64 (y1 + (1 : Int))), ()))))))
 else (some (Sum.inl (y0, (IntKind.wrap .i64 (y1 + (1 : Int))), ())))))
 else ((getI y0 y1).bind fun x8 => ((passkeyref23_digit x8).bind fun r9 => (bif (!r9.2.1) then ((getI y0 y1).bind fun x10 => (bif (!decide (x10.toBitVec = (45 : UInt8).toBitVec)) then (some (Sum.inr (Sum.inl (false, ()))))
 else (some (Sum.inl (y0, (IntKind.wrap .i64 (y1 + (1 : Int))), ())))))
 else (some (Sum.inl (y0, (IntKind.wrap .i64 (y1 + (1 : Int))), ()))))))))
 else (some (Sum.inr (Sum.inr ()))))

def passkeyref23_label_L0 (y : ((List UInt8) × Int × Unit)) : Option ((Bool × Unit) ⊕ (Unit)) := iter (fun (y : ((List UInt8) × Int × Unit)) => passkeyref23_label_L0b y.1 y.2.1) rounds y

def passkeyref23_label (a0 : (List UInt8)) : Option ((Unit) × (Bool × Unit)) :=
 (bif (decide (((a0).length : Int) < (1 : Int))) then (some ((), (false, ())))
 else (bif (decide ((63 : Int) < ((a0).length : Int))) then (some ((), (false, ())))
 else ((getI a0 (0 : Int)).bind fun x1 => (bif (decide (x1.toBitVec = (45 : UInt8).toBitVec)) then (some ((), (false, ())))
 else ((getI a0 (IntKind.wrap .i64 (((a0).length : Int) - (1 : Int)))).bind fun x2 => (bif (decide (x2.toBitVec = (45 : UInt8).toBitVec)) then (some ((), (false, ())))
 else ((passkeyref23_label_L0 (a0, (0 : Int), ())).bind (Sum.elim (fun (z11 : (Bool × Unit)) => (some ((), (z11.1, ())))) (fun (z12 : (Unit)) => (some ((), (true, ()))))))))))))

def S_passkeyref23_label : FSpec T := ⟨[.f (.v .str)], [(.v .bool)], fun x => passkeyref23_label x.1⟩

def E_passkeyref23_label : Env T := ⟨tab.find, cd, globs, flc, fun f ds => match f with
    | 44 => some S_passkeyref23_digit
    | _ => none, fun f => match f with
    | 44 => true
    | _ => false⟩

def A_passkeyref23_label : Loc2 T := ⟨fun id => match id with
    | 0 => some ⟨[(0, .f (.v .str)), (3, .f (.v (.int .i64)))], [(.ret, [(2, .f (.v .bool))]), (.exit 0, [])], passkeyref23_label_L0, []⟩
    | _ => none, fun r => match r with
    | _ => none, fun r => match r with
    | _ => false⟩

theorem passkeyref23_label_L0_eq (y0 : (List UInt8)) (y1 : Int) : run E_passkeyref23_label A_passkeyref23_label (loopAt 0 (Tryd.f39.body.getD .skip)) (layC cd [(0, .f (.v .str)), (3, .f (.v (.int .i64)))] [] (y0, y1, ())) (roundK cd [(0, .f (.v .str)), (3, .f (.v (.int .i64)))] [] [(.ret, [(2, .f (.v .bool))]), (.exit 0, [])]) = passkeyref23_label_L0b y0 y1 := by kernel_rfl

theorem passkeyref23_label_eq (x : tySs T S_passkeyref23_label.ps) : run E_passkeyref23_label A_passkeyref23_label (Tryd.f39.body.getD .skip) (enterT E_passkeyref23_label.C S_passkeyref23_label.ps x) (retK E_passkeyref23_label Tryd.f39.results.toList S_passkeyref23_label.ps S_passkeyref23_label.rs) = S_passkeyref23_label.fn x := by kernel_rfl

theorem passkeyref23_label_env : EnvOk Tryd.prog E_passkeyref23_label := envOk (E := E_passkeyref23_label) cd_ok tys fl_ok fun f ds S h => by
    dsimp only [E_passkeyref23_label] at h
    split at h
    · cases h; exact passkeyref23_digit_ok
    · cases h

theorem passkeyref23_label_L0_ok : LoopOk Tryd.prog E_passkeyref23_label Tryd.f39.ntmps (kqOf S_passkeyref23_label.ps 0) (loopAt 0 (Tryd.f39.body.getD .skip)) ⟨[(0, .f (.v .str)), (3, .f (.v (.int .i64)))], [(.ret, [(2, .f (.v .bool))]), (.exit 0, [])], passkeyref23_label_L0, []⟩ :=
  loop_ok (A := A_passkeyref23_label) (done := []) (c0 := (Tryd.f39.body.getD .skip)) hmix passkeyref23_label_env done_nil rounds (by kernel_rfl) (by kernel_rfl) (fun x => passkeyref23_label_L0_eq x.1 x.2.1) (fun _ => rfl)

theorem passkeyref23_label_ok : SoundT Tryd.prog cd gdn 39 S_passkeyref23_label :=
  sound_fn (E := E_passkeyref23_label) (A := A_passkeyref23_label) (done := [0]) (c := (Tryd.f39.body.getD .skip)) (S := S_passkeyref23_label) (fn := Tryd.f39) hmix passkeyref23_label_env Tryd.func39 rfl (by kernel_rfl) (by kernel_rfl) (done_cons rfl passkeyref23_label_L0_ok done_nil) (by kernel_rfl) (by kernel_rfl) passkeyref23_label_eq

def passkeyref23_Validate_L0b (y0 : (List (List UInt8))) (y1 : Int) : Option (((List (List UInt8)) × Int × Unit) ⊕ ((Int × Unit) ⊕ ((List (List UInt8)) × Unit))) :=
 (bif (decide (y1 < ((y0).length : Int))) then (bif (decide ((0 : Int) ≤ y1) && decide (y1 < ((y0).length : Int))) then (((y0)[(y1).toNat]?).bind fun x2 => ((passkeyref23_label x2).bind fun r3 => (bif (!r3.2.1) then (some (Sum.inr (Sum.inl ((2 : Int), ()))))
 else (some (Sum.inl (y0, (IntKind.wrap .i64 (y1 + (1 : Int))), ()))))))
 else none)
 else (some (Sum.inr (Sum.inr (y0, ())))))

def passkeyref23_Validate_L0 (y : ((List (List UInt8)) × Int × Unit)) : Option ((Int × Unit) ⊕ ((List (List UInt8)) × Unit)) := iter (fun (y : ((List (List UInt8)) × Int × Unit)) => passkeyref23_Validate_L0b y.1 y.2.1) rounds y

def passkeyref23_Validate_L2b (y0 : (List UInt8)) (y1 : Int) : Option (((List UInt8) × Int × Unit) ⊕ ((Int × Unit) ⊕ (Unit))) :=
 (bif (decide (y1 < ((y0).length : Int))) then ((getI y0 y1).bind fun x7 => ((passkeyref23_digit x7).bind fun r8 => (bif (!r8.2.1) then (some (Sum.inr (Sum.inl ((0 : Int), ()))))
 else (some (Sum.inl (y0, (IntKind.wrap .i64 (y1 + (1 : Int))), ()))))))
 else (some (Sum.inr (Sum.inr ()))))

def passkeyref23_Validate_L2 (y : ((List UInt8) × Int × Unit)) : Option ((Int × Unit) ⊕ (Unit)) := iter (fun (y : ((List UInt8) × Int × Unit)) => passkeyref23_Validate_L2b y.1 y.2.1) rounds y

def passkeyref23_Validate (a0 : (List UInt8)) : Option ((Unit) × (Int × Unit)) :=
 (bif (decide ((100 : Int) < ((a0).length : Int))) then (some ((), ((8 : Int), ())))
 else ((passkeyref23_split a0 (46 : UInt8)).bind fun r1 => ((passkeyref23_Validate_L0 (r1.2.1, (0 : Int), ())).bind (Sum.elim (fun (z4 : (Int × Unit)) => (some ((), (z4.1, ())))) (fun (z5 : ((List (List UInt8)) × Unit)) => (bif (decide ((0 : Int) ≤ (IntKind.wrap .i64 (((z5.1).length : Int) - (1 : Int)))) && decide ((IntKind.wrap .i64 (((z5.1).length : Int) - (1 : Int))) < ((z5.1).length : Int))) then (((z5.1)[((IntKind.wrap .i64 (((z5.1).length : Int) - (1 : Int)))).toNat]?).bind fun x6 => ((passkeyref23_Validate_L2 (x6, (0 : Int), ())).bind (Sum.elim (fun (z9 : (Int × Unit)) => (some ((), (z9.1, ())))) (fun (z10 : (Unit)) => (some ((), ((2 : Int), ())))))))
 else none))))))

def S_passkeyref23_Validate : FSpec T := ⟨[.f (.v .str)], [(.v (.int .i64))], fun x => passkeyref23_Validate x.1⟩

def E_passkeyref23_Validate : Env T := ⟨tab.find, cd, globs, flc, fun f ds => match f with
    | 32 => some S_passkeyref23_split
    | 39 => some S_passkeyref23_label
    | 44 => some S_passkeyref23_digit
    | _ => none, fun f => match f with
    | 39 => true
    | 44 => true
    | _ => false⟩

def A_passkeyref23_Validate : Loc2 T := ⟨fun id => match id with
    | 0 => some ⟨[(3, .f (.own 1)), (4, .f (.v (.int .i64)))], [(.ret, [(2, .f (.v (.int .i64)))]), (.exit 0, [(3, .f (.own 1))])], passkeyref23_Validate_L0, []⟩
    | 2 => some ⟨[(5, .f (.v .str)), (6, .f (.v (.int .i64)))], [(.ret, [(2, .f (.v (.int .i64)))]), (.exit 2, [])], passkeyref23_Validate_L2, []⟩
    | _ => none, fun r => match r with
    | _ => none, fun r => match r with
    | _ => false⟩

theorem passkeyref23_Validate_L0_eq (y0 : (List (List UInt8))) (y1 : Int) : run E_passkeyref23_Validate A_passkeyref23_Validate (loopAt 0 (Tryd.f31.body.getD .skip)) (layC cd [(3, .f (.own 1)), (4, .f (.v (.int .i64)))] [] (y0, y1, ())) (roundK cd [(3, .f (.own 1)), (4, .f (.v (.int .i64)))] [] [(.ret, [(2, .f (.v (.int .i64)))]), (.exit 0, [(3, .f (.own 1))])]) = passkeyref23_Validate_L0b y0 y1 := by kernel_rfl

theorem passkeyref23_Validate_L2_eq (y0 : (List UInt8)) (y1 : Int) : run E_passkeyref23_Validate A_passkeyref23_Validate (loopAt 2 (Tryd.f31.body.getD .skip)) (layC cd [(5, .f (.v .str)), (6, .f (.v (.int .i64)))] [] (y0, y1, ())) (roundK cd [(5, .f (.v .str)), (6, .f (.v (.int .i64)))] [] [(.ret, [(2, .f (.v (.int .i64)))]), (.exit 2, [])]) = passkeyref23_Validate_L2b y0 y1 := by kernel_rfl

theorem passkeyref23_Validate_eq (x : tySs T S_passkeyref23_Validate.ps) : run E_passkeyref23_Validate A_passkeyref23_Validate (Tryd.f31.body.getD .skip) (enterT E_passkeyref23_Validate.C S_passkeyref23_Validate.ps x) (retK E_passkeyref23_Validate Tryd.f31.results.toList S_passkeyref23_Validate.ps S_passkeyref23_Validate.rs) = S_passkeyref23_Validate.fn x := by kernel_rfl

theorem passkeyref23_Validate_env : EnvOk Tryd.prog E_passkeyref23_Validate := envOk (E := E_passkeyref23_Validate) cd_ok tys fl_ok fun f ds S h => by
    dsimp only [E_passkeyref23_Validate] at h
    split at h
    · cases h; exact passkeyref23_split_ok
    · cases h; exact passkeyref23_label_ok
    · cases h; exact passkeyref23_digit_ok
    · cases h

theorem passkeyref23_Validate_L0_ok : LoopOk Tryd.prog E_passkeyref23_Validate Tryd.f31.ntmps (kqOf S_passkeyref23_Validate.ps 0) (loopAt 0 (Tryd.f31.body.getD .skip)) ⟨[(3, .f (.own 1)), (4, .f (.v (.int .i64)))], [(.ret, [(2, .f (.v (.int .i64)))]), (.exit 0, [(3, .f (.own 1))])], passkeyref23_Validate_L0, []⟩ :=
  loop_ok (A := A_passkeyref23_Validate) (done := []) (c0 := (Tryd.f31.body.getD .skip)) hmix passkeyref23_Validate_env done_nil rounds (by kernel_rfl) (by kernel_rfl) (fun x => passkeyref23_Validate_L0_eq x.1 x.2.1) (fun _ => rfl)

theorem passkeyref23_Validate_L2_ok : LoopOk Tryd.prog E_passkeyref23_Validate Tryd.f31.ntmps (kqOf S_passkeyref23_Validate.ps 0) (loopAt 2 (Tryd.f31.body.getD .skip)) ⟨[(5, .f (.v .str)), (6, .f (.v (.int .i64)))], [(.ret, [(2, .f (.v (.int .i64)))]), (.exit 2, [])], passkeyref23_Validate_L2, []⟩ :=
  loop_ok (A := A_passkeyref23_Validate) (done := [0]) (c0 := (Tryd.f31.body.getD .skip)) hmix passkeyref23_Validate_env (done_cons rfl passkeyref23_Validate_L0_ok done_nil) rounds (by kernel_rfl) (by kernel_rfl) (fun x => passkeyref23_Validate_L2_eq x.1 x.2.1) (fun _ => rfl)

theorem passkeyref23_Validate_ok : SoundT Tryd.prog cd gdn 31 S_passkeyref23_Validate :=
  sound_fn (E := E_passkeyref23_Validate) (A := A_passkeyref23_Validate) (done := [0, 2]) (c := (Tryd.f31.body.getD .skip)) (S := S_passkeyref23_Validate) (fn := Tryd.f31) hmix passkeyref23_Validate_env Tryd.func31 rfl (by kernel_rfl) (by kernel_rfl) (done_cons rfl passkeyref23_Validate_L0_ok (done_cons rfl passkeyref23_Validate_L2_ok done_nil)) (by kernel_rfl) (by kernel_rfl) passkeyref23_Validate_eq

def passkeyref23_Labels (a0 : (List UInt8)) : Option ((Unit) × ((List (List UInt8)) × Unit)) :=
 ((passkeyref23_Validate a0).bind fun r1 => (bif (!decide (r1.2.1 = (0 : Int))) then (some ((), ([], ())))
 else ((passkeyref23_split a0 (46 : UInt8)).bind fun r2 => (some ((), (r2.2.1, ()))))))

def S_passkeyref23_Labels : FSpec T := ⟨[.f (.v .str)], [(.own 1)], fun x => passkeyref23_Labels x.1⟩

def E_passkeyref23_Labels : Env T := ⟨tab.find, cd, globs, flc, fun f ds => match f with
    | 31 => some S_passkeyref23_Validate
    | 32 => some S_passkeyref23_split
    | _ => none, fun f => match f with
    | 31 => true
    | _ => false⟩

def A_passkeyref23_Labels : Loc2 T := ⟨fun id => match id with
    | _ => none, fun r => match r with
    | _ => none, fun r => match r with
    | _ => false⟩

theorem passkeyref23_Labels_eq (x : tySs T S_passkeyref23_Labels.ps) : run E_passkeyref23_Labels A_passkeyref23_Labels (Tryd.f16.body.getD .skip) (enterT E_passkeyref23_Labels.C S_passkeyref23_Labels.ps x) (retK E_passkeyref23_Labels Tryd.f16.results.toList S_passkeyref23_Labels.ps S_passkeyref23_Labels.rs) = S_passkeyref23_Labels.fn x := by kernel_rfl

theorem passkeyref23_Labels_env : EnvOk Tryd.prog E_passkeyref23_Labels := envOk (E := E_passkeyref23_Labels) cd_ok tys fl_ok fun f ds S h => by
    dsimp only [E_passkeyref23_Labels] at h
    split at h
    · cases h; exact passkeyref23_Validate_ok
    · cases h; exact passkeyref23_split_ok
    · cases h

theorem passkeyref23_Labels_ok : SoundT Tryd.prog cd gdn 16 S_passkeyref23_Labels :=
  sound_fn (E := E_passkeyref23_Labels) (A := A_passkeyref23_Labels) (done := []) (c := (Tryd.f16.body.getD .skip)) (S := S_passkeyref23_Labels) (fn := Tryd.f16) hmix passkeyref23_Labels_env Tryd.func16 rfl (by kernel_rfl) (by kernel_rfl) done_nil (by kernel_rfl) (by kernel_rfl) passkeyref23_Labels_eq

def passkeyref23_join_L0b (y0 : (List (List UInt8))) (y1 : (List UInt8)) (y2 : Int) : Option (((List (List UInt8)) × (List UInt8) × Int × Unit) ⊕ ((List UInt8) × Unit)) :=
 (bif (decide (y2 < ((y0).length : Int))) then (bif (decide ((0 : Int) < y2)) then (bif Nat.ble ((y1).length + (([46] : List UInt8)).length) 9223372036854775807 then ((getI y0 y2).bind fun x1 => (bif Nat.ble (((y1 ++ ([46] : List UInt8))).length + (x1).length) 9223372036854775807 then (some (Sum.inl (y0, ((y1 ++ ([46] : List UInt8)) ++ x1), (IntKind.wrap .i64 (y2 + (1 : Int))), ())))
 else none))
 else none)
 else ((getI y0 y2).bind fun x2 => (bif Nat.ble ((y1).length + (x2).length) 9223372036854775807 then (some (Sum.inl (y0, (y1 ++ x2), (IntKind.wrap .i64 (y2 + (1 : Int))), ())))
 else none)))
 else (some (Sum.inr (y1, ()))))

def passkeyref23_join_L0 (y : ((List (List UInt8)) × (List UInt8) × Int × Unit)) : Option ((List UInt8) × Unit) := iter (fun (y : ((List (List UInt8)) × (List UInt8) × Int × Unit)) => passkeyref23_join_L0b y.1 y.2.1 y.2.2.1) rounds y

def passkeyref23_join (a0 : (List (List UInt8))) : Option ((Unit) × ((List UInt8) × Unit)) :=
 ((passkeyref23_join_L0 (a0, ([] : List UInt8), (0 : Int), ())).bind (fun (z3 : ((List UInt8) × Unit)) => (some ((), (z3.1, ())))))

def S_passkeyref23_join : FSpec T := ⟨[.f (.v (.rs 1))], [(.v .str)], fun x => passkeyref23_join x.1⟩

def E_passkeyref23_join : Env T := ⟨tab.find, cd, globs, flc, fun f ds => match f with
    | _ => none, fun f => match f with
    | _ => false⟩

def A_passkeyref23_join : Loc2 T := ⟨fun id => match id with
    | 0 => some ⟨[(0, .f (.v (.rs 1))), (3, .f (.v .str)), (4, .f (.v (.int .i64)))], [(.exit 0, [(3, .f (.v .str))])], passkeyref23_join_L0, []⟩
    | _ => none, fun r => match r with
    | _ => none, fun r => match r with
    | _ => false⟩

theorem passkeyref23_join_L0_eq (y0 : (List (List UInt8))) (y1 : (List UInt8)) (y2 : Int) : run E_passkeyref23_join A_passkeyref23_join (loopAt 0 (Tryd.f28.body.getD .skip)) (layC cd [(0, .f (.v (.rs 1))), (3, .f (.v .str)), (4, .f (.v (.int .i64)))] [] (y0, y1, y2, ())) (roundK cd [(0, .f (.v (.rs 1))), (3, .f (.v .str)), (4, .f (.v (.int .i64)))] [] [(.exit 0, [(3, .f (.v .str))])]) = passkeyref23_join_L0b y0 y1 y2 := by kernel_rfl

theorem passkeyref23_join_eq (x : tySs T S_passkeyref23_join.ps) : run E_passkeyref23_join A_passkeyref23_join (Tryd.f28.body.getD .skip) (enterT E_passkeyref23_join.C S_passkeyref23_join.ps x) (retK E_passkeyref23_join Tryd.f28.results.toList S_passkeyref23_join.ps S_passkeyref23_join.rs) = S_passkeyref23_join.fn x := by kernel_rfl

theorem passkeyref23_join_env : EnvOk Tryd.prog E_passkeyref23_join := envOk (E := E_passkeyref23_join) cd_ok tys fl_ok fun f ds S h => by cases h

theorem passkeyref23_join_L0_ok : LoopOk Tryd.prog E_passkeyref23_join Tryd.f28.ntmps (kqOf S_passkeyref23_join.ps 0) (loopAt 0 (Tryd.f28.body.getD .skip)) ⟨[(0, .f (.v (.rs 1))), (3, .f (.v .str)), (4, .f (.v (.int .i64)))], [(.exit 0, [(3, .f (.v .str))])], passkeyref23_join_L0, []⟩ :=
  loop_ok (A := A_passkeyref23_join) (done := []) (c0 := (Tryd.f28.body.getD .skip)) hmix passkeyref23_join_env done_nil rounds (by kernel_rfl) (by kernel_rfl) (fun x => passkeyref23_join_L0_eq x.1 x.2.1 x.2.2.1) (fun _ => rfl)

theorem passkeyref23_join_ok : SoundT Tryd.prog cd gdn 28 S_passkeyref23_join :=
  sound_fn (E := E_passkeyref23_join) (A := A_passkeyref23_join) (done := [0]) (c := (Tryd.f28.body.getD .skip)) (S := S_passkeyref23_join) (fn := Tryd.f28) hmix passkeyref23_join_env Tryd.func28 rfl (by kernel_rfl) (by kernel_rfl) (done_cons rfl passkeyref23_join_L0_ok done_nil) (by kernel_rfl) (by kernel_rfl) passkeyref23_join_eq

def passkeyref23_FormatRule_L0b (y0 : (ApiSuffix × Unit)) (y1 : Int) : Option (((ApiSuffix × Unit) × Int × Unit) ⊕ (((List UInt8) × Int × Unit) ⊕ ((ApiSuffix × Unit) × Unit))) :=
 (bif (decide (y1 < ((y0.1.labels).length : Int))) then ((getI y0.1.labels y1).bind fun x1 => ((passkeyref23_label x1).bind fun r2 => (bif (!r2.2.1) then (some (Sum.inr (Sum.inl (([] : List UInt8), (4 : Int), ()))))
 else (some (Sum.inl ((y0.1, ()), (IntKind.wrap .i64 (y1 + (1 : Int))), ()))))))
 else (some (Sum.inr (Sum.inr ((y0.1, ()), ())))))

def passkeyref23_FormatRule_L0 (y : ((ApiSuffix × Unit) × Int × Unit)) : Option (((List UInt8) × Int × Unit) ⊕ ((ApiSuffix × Unit) × Unit)) := iter (fun (y : ((ApiSuffix × Unit) × Int × Unit)) => passkeyref23_FormatRule_L0b y.1 y.2.1) rounds y

def passkeyref23_FormatRule (a0 : ApiSuffix) : Option ((Unit) × ((List UInt8) × Int × Unit)) :=
 ((passkeyref23_FormatRule_L0 ((a0, ()), (0 : Int), ())).bind (Sum.elim (fun (z3 : ((List UInt8) × Int × Unit)) => (some ((), (z3.1, z3.2.1, ())))) (fun (z4 : ((ApiSuffix × Unit) × Unit)) => ((passkeyref23_join z4.1.1.labels).bind fun r5 => ((passkeyref23_Validate r5.2.1).bind fun r6 => (bif (!decide (r6.2.1 = (0 : Int))) then (some ((), (([] : List UInt8), (4 : Int), ())))
 else (bif z4.1.1.wild then (bif z4.1.1.except then (some ((), (([] : List UInt8), (4 : Int), ())))
 else (bif z4.1.1.except then (bif (decide (((z4.1.1.labels).length : Int) < (2 : Int))) then (some ((), (([] : List UInt8), (4 : Int), ())))
 else (bif z4.1.1.wild then (bif Nat.ble ((([42, 46] : List UInt8)).length + (r5.2.1).length) 9223372036854775807 then (some ((), ((([42, 46] : List UInt8) ++ r5.2.1), (0 : Int), ())))
 else none)
 else (bif z4.1.1.except then (bif Nat.ble ((([33] : List UInt8)).length + (r5.2.1).length) 9223372036854775807 then (some ((), ((([33] : List UInt8) ++ r5.2.1), (0 : Int), ())))
 else none)
 else (some ((), (r5.2.1, (0 : Int), ()))))))
 else (bif z4.1.1.wild then (bif Nat.ble ((([42, 46] : List UInt8)).length + (r5.2.1).length) 9223372036854775807 then (some ((), ((([42, 46] : List UInt8) ++ r5.2.1), (0 : Int), ())))
 else none)
 else (bif z4.1.1.except then (bif Nat.ble ((([33] : List UInt8)).length + (r5.2.1).length) 9223372036854775807 then (some ((), ((([33] : List UInt8) ++ r5.2.1), (0 : Int), ())))
 else none)
 else (some ((), (r5.2.1, (0 : Int), ())))))))
 else (bif z4.1.1.except then (bif (decide (((z4.1.1.labels).length : Int) < (2 : Int))) then (some ((), (([] : List UInt8), (4 : Int), ())))
 else (bif z4.1.1.wild then (bif Nat.ble ((([42, 46] : List UInt8)).length + (r5.2.1).length) 9223372036854775807 then (some ((), ((([42, 46] : List UInt8) ++ r5.2.1), (0 : Int), ())))
 else none)
 else (bif z4.1.1.except then (bif Nat.ble ((([33] : List UInt8)).length + (r5.2.1).length) 9223372036854775807 then (some ((), ((([33] : List UInt8) ++ r5.2.1), (0 : Int), ())))
 else none)
 else (some ((), (r5.2.1, (0 : Int), ()))))))
 else (bif z4.1.1.wild then (bif Nat.ble ((([42, 46] : List UInt8)).length + (r5.2.1).length) 9223372036854775807 then (some ((), ((([42, 46] : List UInt8) ++ r5.2.1), (0 : Int), ())))
 else none)
 else (bif z4.1.1.except then (bif Nat.ble ((([33] : List UInt8)).length + (r5.2.1).length) 9223372036854775807 then (some ((), ((([33] : List UInt8) ++ r5.2.1), (0 : Int), ())))
 else none)
 else (some ((), (r5.2.1, (0 : Int), ())))))))))))))

def S_passkeyref23_FormatRule : FSpec T := ⟨[.f (.v (.agg 2))], [(.v .str), (.v (.int .i64))], fun x => passkeyref23_FormatRule x.1⟩

def E_passkeyref23_FormatRule : Env T := ⟨tab.find, cd, globs, flc, fun f ds => match f with
    | 28 => some S_passkeyref23_join
    | 31 => some S_passkeyref23_Validate
    | 39 => some S_passkeyref23_label
    | _ => none, fun f => match f with
    | 28 => true
    | 31 => true
    | 39 => true
    | _ => false⟩

def A_passkeyref23_FormatRule : Loc2 T := ⟨fun id => match id with
    | 0 => some ⟨[(1, .ptr [(.v (.agg 2))]), (4, .f (.v (.int .i64)))], [(.ret, [(2, .f (.v .str)), (3, .f (.v (.int .i64)))]), (.exit 0, [(1, .ptr [(.v (.agg 2))])])], passkeyref23_FormatRule_L0, []⟩
    | _ => none, fun r => match r with
    | _ => none, fun r => match r with
    | _ => false⟩

theorem passkeyref23_FormatRule_L0_eq (y0 : (ApiSuffix × Unit)) (y1 : Int) : run E_passkeyref23_FormatRule A_passkeyref23_FormatRule (loopAt 0 (Tryd.f25.body.getD .skip)) (layC cd [(1, .ptr [(.v (.agg 2))]), (4, .f (.v (.int .i64)))] [] (y0, y1, ())) (roundK cd [(1, .ptr [(.v (.agg 2))]), (4, .f (.v (.int .i64)))] [] [(.ret, [(2, .f (.v .str)), (3, .f (.v (.int .i64)))]), (.exit 0, [(1, .ptr [(.v (.agg 2))])])]) = passkeyref23_FormatRule_L0b y0 y1 := by kernel_rfl

theorem passkeyref23_FormatRule_eq (x : tySs T S_passkeyref23_FormatRule.ps) : run E_passkeyref23_FormatRule A_passkeyref23_FormatRule (Tryd.f25.body.getD .skip) (enterT E_passkeyref23_FormatRule.C S_passkeyref23_FormatRule.ps x) (retK E_passkeyref23_FormatRule Tryd.f25.results.toList S_passkeyref23_FormatRule.ps S_passkeyref23_FormatRule.rs) = S_passkeyref23_FormatRule.fn x := by kernel_rfl

theorem passkeyref23_FormatRule_env : EnvOk Tryd.prog E_passkeyref23_FormatRule := envOk (E := E_passkeyref23_FormatRule) cd_ok tys fl_ok fun f ds S h => by
    dsimp only [E_passkeyref23_FormatRule] at h
    split at h
    · cases h; exact passkeyref23_join_ok
    · cases h; exact passkeyref23_Validate_ok
    · cases h; exact passkeyref23_label_ok
    · cases h

theorem passkeyref23_FormatRule_L0_ok : LoopOk Tryd.prog E_passkeyref23_FormatRule Tryd.f25.ntmps (kqOf S_passkeyref23_FormatRule.ps 0) (loopAt 0 (Tryd.f25.body.getD .skip)) ⟨[(1, .ptr [(.v (.agg 2))]), (4, .f (.v (.int .i64)))], [(.ret, [(2, .f (.v .str)), (3, .f (.v (.int .i64)))]), (.exit 0, [(1, .ptr [(.v (.agg 2))])])], passkeyref23_FormatRule_L0, []⟩ :=
  loop_ok (A := A_passkeyref23_FormatRule) (done := []) (c0 := (Tryd.f25.body.getD .skip)) hmix passkeyref23_FormatRule_env done_nil rounds (by kernel_rfl) (by kernel_rfl) (fun x => passkeyref23_FormatRule_L0_eq x.1 x.2.1) (fun _ => rfl)

theorem passkeyref23_FormatRule_ok : SoundT Tryd.prog cd gdn 25 S_passkeyref23_FormatRule :=
  sound_fn (E := E_passkeyref23_FormatRule) (A := A_passkeyref23_FormatRule) (done := [0]) (c := (Tryd.f25.body.getD .skip)) (S := S_passkeyref23_FormatRule) (fn := Tryd.f25) hmix passkeyref23_FormatRule_env Tryd.func25 rfl (by kernel_rfl) (by kernel_rfl) (done_cons rfl passkeyref23_FormatRule_L0_ok done_nil) (by kernel_rfl) (by kernel_rfl) passkeyref23_FormatRule_eq

def passkeyref23_ends_L0b (y0 : (List (List UInt8))) (y1 : (List (List UInt8))) (y2 : Int) : Option (((List (List UInt8)) × (List (List UInt8)) × Int × Unit) ⊕ ((Bool × Unit) ⊕ (Unit))) :=
 (bif (decide (y2 < ((y1).length : Int))) then (let v1 : Int := (IntKind.wrap .i64 (((y0).length : Int) - ((y1).length : Int)))
 ((getI y0 (IntKind.wrap .i64 (v1 + y2))).bind fun x2 => ((getI y1 y2).bind fun x3 => (bif (!decide (x2 = x3)) then (some (Sum.inr (Sum.inl (false, ()))))
 else (some (Sum.inl (y0, y1, (IntKind.wrap .i64 (y2 + (1 : Int))), ())))))))
 else (some (Sum.inr (Sum.inr ()))))

def passkeyref23_ends_L0 (y : ((List (List UInt8)) × (List (List UInt8)) × Int × Unit)) : Option ((Bool × Unit) ⊕ (Unit)) := iter (fun (y : ((List (List UInt8)) × (List (List UInt8)) × Int × Unit)) => passkeyref23_ends_L0b y.1 y.2.1 y.2.2.1) rounds y

def passkeyref23_ends (a0 : (List (List UInt8))) (a1 : (List (List UInt8))) : Option ((Unit) × (Bool × Unit)) :=
 (bif (decide (((a0).length : Int) < ((a1).length : Int))) then (some ((), (false, ())))
 else ((passkeyref23_ends_L0 (a0, a1, (0 : Int), ())).bind (Sum.elim (fun (z4 : (Bool × Unit)) => (some ((), (z4.1, ())))) (fun (z5 : (Unit)) => (some ((), (true, ())))))))

def S_passkeyref23_ends : FSpec T := ⟨[.f (.v (.rs 1)), .f (.v (.rs 1))], [(.v .bool)], fun x => passkeyref23_ends x.1 x.2.1⟩

def E_passkeyref23_ends : Env T := ⟨tab.find, cd, globs, flc, fun f ds => match f with
    | _ => none, fun f => match f with
    | _ => false⟩

def A_passkeyref23_ends : Loc2 T := ⟨fun id => match id with
    | 0 => some ⟨[(0, .f (.v (.rs 1))), (1, .f (.v (.rs 1))), (5, .f (.v (.int .i64)))], [(.ret, [(4, .f (.v .bool))]), (.exit 0, [])], passkeyref23_ends_L0, []⟩
    | _ => none, fun r => match r with
    | _ => none, fun r => match r with
    | _ => false⟩

theorem passkeyref23_ends_L0_eq (y0 : (List (List UInt8))) (y1 : (List (List UInt8))) (y2 : Int) : run E_passkeyref23_ends A_passkeyref23_ends (loopAt 0 (Tryd.f30.body.getD .skip)) (layC cd [(0, .f (.v (.rs 1))), (1, .f (.v (.rs 1))), (5, .f (.v (.int .i64)))] [] (y0, y1, y2, ())) (roundK cd [(0, .f (.v (.rs 1))), (1, .f (.v (.rs 1))), (5, .f (.v (.int .i64)))] [] [(.ret, [(4, .f (.v .bool))]), (.exit 0, [])]) = passkeyref23_ends_L0b y0 y1 y2 := by kernel_rfl

theorem passkeyref23_ends_eq (x : tySs T S_passkeyref23_ends.ps) : run E_passkeyref23_ends A_passkeyref23_ends (Tryd.f30.body.getD .skip) (enterT E_passkeyref23_ends.C S_passkeyref23_ends.ps x) (retK E_passkeyref23_ends Tryd.f30.results.toList S_passkeyref23_ends.ps S_passkeyref23_ends.rs) = S_passkeyref23_ends.fn x := by kernel_rfl

theorem passkeyref23_ends_env : EnvOk Tryd.prog E_passkeyref23_ends := envOk (E := E_passkeyref23_ends) cd_ok tys fl_ok fun f ds S h => by cases h

theorem passkeyref23_ends_L0_ok : LoopOk Tryd.prog E_passkeyref23_ends Tryd.f30.ntmps (kqOf S_passkeyref23_ends.ps 0) (loopAt 0 (Tryd.f30.body.getD .skip)) ⟨[(0, .f (.v (.rs 1))), (1, .f (.v (.rs 1))), (5, .f (.v (.int .i64)))], [(.ret, [(4, .f (.v .bool))]), (.exit 0, [])], passkeyref23_ends_L0, []⟩ :=
  loop_ok (A := A_passkeyref23_ends) (done := []) (c0 := (Tryd.f30.body.getD .skip)) hmix passkeyref23_ends_env done_nil rounds (by kernel_rfl) (by kernel_rfl) (fun x => passkeyref23_ends_L0_eq x.1 x.2.1 x.2.2.1) (fun _ => rfl)

theorem passkeyref23_ends_ok : SoundT Tryd.prog cd gdn 30 S_passkeyref23_ends :=
  sound_fn (E := E_passkeyref23_ends) (A := A_passkeyref23_ends) (done := [0]) (c := (Tryd.f30.body.getD .skip)) (S := S_passkeyref23_ends) (fn := Tryd.f30) hmix passkeyref23_ends_env Tryd.func30 rfl (by kernel_rfl) (by kernel_rfl) (done_cons rfl passkeyref23_ends_L0_ok done_nil) (by kernel_rfl) (by kernel_rfl) passkeyref23_ends_eq

def passkeyref23_Public_L0b (y0 : (List (ApiSuffix))) (y1 : (List (List UInt8))) (y2 : Int) (y3 : Int) (y4 : Int) : Option (((List (ApiSuffix)) × (List (List UInt8)) × Int × Int × Int × Unit) ⊕ (Int × Int × Unit)) :=
 (bif (decide (y4 < ((y0).length : Int))) then (bif (decide (y4 < (64 : Int))) then ((getI y0 y4).bind fun x2 => ((passkeyref23_FormatRule x2).bind fun r3 => (bif (!decide (r3.2.2.1 = (0 : Int))) then (some (Sum.inl (y0, y1, y2, y3, (IntKind.wrap .i64 (y4 + (1 : Int))), ())))
 else ((passkeyref23_ends y1 x2.labels).bind fun r4 => (bif (!r4.2.1) then (some (Sum.inl (y0, y1, y2, y3, (IntKind.wrap .i64 (y4 + (1 : Int))), ())))
 else (bif x2.wild then (bif (decide (((y1).length : Int) = ((x2.labels).length : Int))) then (some (Sum.inl (y0, y1, y2, y3, (IntKind.wrap .i64 (y4 + (1 : Int))), ())))
 else ((bif x2.wild then (some (y0, y1, y2, y3, y4, (x2, ()), (IntKind.wrap .i64 (((x2.labels).length : Int) + (1 : Int))), ()))
 else (some (y0, y1, y2, y3, y4, (x2, ()), ((x2.labels).length : Int), ()))).bind (fun (j5 : ((List (ApiSuffix)) × (List (List UInt8)) × Int × Int × Int × (ApiSuffix × Unit) × Int × Unit)) => (bif j5.2.2.2.2.2.1.1.except then (let v6 : Int := (bif decide (j5.2.2.2.1 < j5.2.2.2.2.2.2.1) then j5.2.2.2.2.2.2.1 else j5.2.2.2.1)
 (some (Sum.inl (j5.1, j5.2.1, j5.2.2.1, v6, (IntKind.wrap .i64 (j5.2.2.2.2.1 + (1 : Int))), ()))))
 else (let v7 : Int := (bif decide (j5.2.2.1 < j5.2.2.2.2.2.2.1) then j5.2.2.2.2.2.2.1 else j5.2.2.1)
 (some (Sum.inl (j5.1, j5.2.1, v7, j5.2.2.2.1, (IntKind.wrap .i64 (j5.2.2.2.2.1 + (1 : Int))), ()))))))))
 else ((bif x2.wild then (some (y0, y1, y2, y3, y4, (x2, ()), (IntKind.wrap .i64 (((x2.labels).length : Int) + (1 : Int))), ()))
 else (some (y0, y1, y2, y3, y4, (x2, ()), ((x2.labels).length : Int), ()))).bind (fun (j8 : ((List (ApiSuffix)) × (List (List UInt8)) × Int × Int × Int × (ApiSuffix × Unit) × Int × Unit)) => (bif j8.2.2.2.2.2.1.1.except then (let v9 : Int := (bif decide (j8.2.2.2.1 < j8.2.2.2.2.2.2.1) then j8.2.2.2.2.2.2.1 else j8.2.2.2.1)
 (some (Sum.inl (j8.1, j8.2.1, j8.2.2.1, v9, (IntKind.wrap .i64 (j8.2.2.2.2.1 + (1 : Int))), ()))))
 else (let v10 : Int := (bif decide (j8.2.2.1 < j8.2.2.2.2.2.2.1) then j8.2.2.2.2.2.2.1 else j8.2.2.1)
 (some (Sum.inl (j8.1, j8.2.1, v10, j8.2.2.2.1, (IntKind.wrap .i64 (j8.2.2.2.2.1 + (1 : Int))), ())))))))))))))
 else (some (Sum.inr (y2, y3, ()))))
 else (some (Sum.inr (y2, y3, ()))))

def passkeyref23_Public_L0 (y : ((List (ApiSuffix)) × (List (List UInt8)) × Int × Int × Int × Unit)) : Option (Int × Int × Unit) := iter (fun (y : ((List (ApiSuffix)) × (List (List UInt8)) × Int × Int × Int × Unit)) => passkeyref23_Public_L0b y.1 y.2.1 y.2.2.1 y.2.2.2.1 y.2.2.2.2.1) rounds y

def passkeyref23_Public (a0 : (List (ApiSuffix))) (a1 : (List UInt8)) : Option ((Unit) × (Int × Unit)) :=
 ((passkeyref23_Labels a1).bind fun r1 => (bif (decide (((r1.2.1).length : Int) = (0 : Int))) then (some ((), ((0 : Int), ())))
 else ((passkeyref23_Public_L0 (a0, r1.2.1, (1 : Int), (0 : Int), (0 : Int), ())).bind (fun (z11 : (Int × Int × Unit)) => (bif (decide ((0 : Int) < z11.2.1)) then (some ((), ((IntKind.wrap .i64 (z11.2.1 - (1 : Int))), ())))
 else (some ((), (z11.1, ()))))))))

def S_passkeyref23_Public : FSpec T := ⟨[.f (.v (.rs 2)), .f (.v .str)], [(.v (.int .i64))], fun x => passkeyref23_Public x.1 x.2.1⟩

def E_passkeyref23_Public : Env T := ⟨tab.find, cd, globs, flc, fun f ds => match f with
    | 16 => some S_passkeyref23_Labels
    | 25 => some S_passkeyref23_FormatRule
    | 30 => some S_passkeyref23_ends
    | _ => none, fun f => match f with
    | 25 => true
    | 30 => true
    | _ => false⟩

def A_passkeyref23_Public : Loc2 T := ⟨fun id => match id with
    | 0 => some ⟨[(0, .f (.v (.rs 2))), (5, .f (.own 1)), (6, .f (.v (.int .i64))), (7, .f (.v (.int .i64))), (8, .f (.v (.int .i64)))], [(.exit 0, [(6, .f (.v (.int .i64))), (7, .f (.v (.int .i64)))])], passkeyref23_Public_L0, []⟩
    | _ => none, fun r => match r with
    | 14 => some ([(0, .f (.v (.rs 2))), (5, .f (.own 1)), (6, .f (.v (.int .i64))), (7, .f (.v (.int .i64))), (8, .f (.v (.int .i64))), (9, .ptr [(.v (.agg 2))]), (12, .f (.v (.int .i64)))], true)
    | _ => none, fun r => match r with
    | _ => false⟩

theorem passkeyref23_Public_L0_eq (y0 : (List (ApiSuffix))) (y1 : (List (List UInt8))) (y2 : Int) (y3 : Int) (y4 : Int) : run E_passkeyref23_Public A_passkeyref23_Public (loopAt 0 (Tryd.f15.body.getD .skip)) (layC cd [(0, .f (.v (.rs 2))), (5, .f (.own 1)), (6, .f (.v (.int .i64))), (7, .f (.v (.int .i64))), (8, .f (.v (.int .i64)))] [] (y0, y1, y2, y3, y4, ())) (roundK cd [(0, .f (.v (.rs 2))), (5, .f (.own 1)), (6, .f (.v (.int .i64))), (7, .f (.v (.int .i64))), (8, .f (.v (.int .i64)))] [] [(.exit 0, [(6, .f (.v (.int .i64))), (7, .f (.v (.int .i64)))])]) = passkeyref23_Public_L0b y0 y1 y2 y3 y4 := by kernel_rfl

theorem passkeyref23_Public_eq (x : tySs T S_passkeyref23_Public.ps) : run E_passkeyref23_Public A_passkeyref23_Public (Tryd.f15.body.getD .skip) (enterT E_passkeyref23_Public.C S_passkeyref23_Public.ps x) (retK E_passkeyref23_Public Tryd.f15.results.toList S_passkeyref23_Public.ps S_passkeyref23_Public.rs) = S_passkeyref23_Public.fn x := by kernel_rfl

theorem passkeyref23_Public_env : EnvOk Tryd.prog E_passkeyref23_Public := envOk (E := E_passkeyref23_Public) cd_ok tys fl_ok fun f ds S h => by
    dsimp only [E_passkeyref23_Public] at h
    split at h
    · cases h; exact passkeyref23_Labels_ok
    · cases h; exact passkeyref23_FormatRule_ok
    · cases h; exact passkeyref23_ends_ok
    · cases h

theorem passkeyref23_Public_L0_ok : LoopOk Tryd.prog E_passkeyref23_Public Tryd.f15.ntmps (kqOf S_passkeyref23_Public.ps 0) (loopAt 0 (Tryd.f15.body.getD .skip)) ⟨[(0, .f (.v (.rs 2))), (5, .f (.own 1)), (6, .f (.v (.int .i64))), (7, .f (.v (.int .i64))), (8, .f (.v (.int .i64)))], [(.exit 0, [(6, .f (.v (.int .i64))), (7, .f (.v (.int .i64)))])], passkeyref23_Public_L0, []⟩ :=
  loop_ok (A := A_passkeyref23_Public) (done := []) (c0 := (Tryd.f15.body.getD .skip)) hmix passkeyref23_Public_env done_nil rounds (by kernel_rfl) (by kernel_rfl) (fun x => passkeyref23_Public_L0_eq x.1 x.2.1 x.2.2.1 x.2.2.2.1 x.2.2.2.2.1) (fun _ => rfl)

theorem passkeyref23_Public_ok : SoundT Tryd.prog cd gdn 15 S_passkeyref23_Public :=
  sound_fn (E := E_passkeyref23_Public) (A := A_passkeyref23_Public) (done := [0]) (c := (Tryd.f15.body.getD .skip)) (S := S_passkeyref23_Public) (fn := Tryd.f15) hmix passkeyref23_Public_env Tryd.func15 rfl (by kernel_rfl) (by kernel_rfl) (done_cons rfl passkeyref23_Public_L0_ok done_nil) (by kernel_rfl) (by kernel_rfl) passkeyref23_Public_eq

def passkeyref23_Registrable (a0 : (List (ApiSuffix))) (a1 : (List UInt8)) : Option ((Unit) × ((List UInt8) × Bool × Unit)) :=
 ((passkeyref23_Labels a1).bind fun r1 => ((passkeyref23_Public a0 a1).bind fun r2 => (bif (decide (((r1.2.1).length : Int) ≤ r2.2.1)) then (some ((), (([] : List UInt8), false, ())))
 else (let v3 : Int := (IntKind.wrap .i64 ((IntKind.wrap .i64 (((r1.2.1).length : Int) - r2.2.1)) - (1 : Int)))
 (bif (decide ((0 : Int) ≤ v3) && decide (v3 ≤ ((r1.2.1).length : Int))) then (bif decide (((r1.2.1).length - (v3).toNat) + (v3).toNat ≤ (r1.2.1).length) then ((passkeyref23_join (List.take ((r1.2.1).length - (v3).toNat) (List.drop (v3).toNat r1.2.1))).bind fun r4 => (some ((), (r4.2.1, true, ()))))
 else none)
 else none)))))

def S_passkeyref23_Registrable : FSpec T := ⟨[.f (.v (.rs 2)), .f (.v .str)], [(.v .str), (.v .bool)], fun x => passkeyref23_Registrable x.1 x.2.1⟩

def E_passkeyref23_Registrable : Env T := ⟨tab.find, cd, globs, flc, fun f ds => match f with
    | 15 => some S_passkeyref23_Public
    | 16 => some S_passkeyref23_Labels
    | 28 => some S_passkeyref23_join
    | _ => none, fun f => match f with
    | 15 => true
    | 28 => true
    | _ => false⟩

def A_passkeyref23_Registrable : Loc2 T := ⟨fun id => match id with
    | _ => none, fun r => match r with
    | _ => none, fun r => match r with
    | _ => false⟩

theorem passkeyref23_Registrable_eq (x : tySs T S_passkeyref23_Registrable.ps) : run E_passkeyref23_Registrable A_passkeyref23_Registrable (Tryd.f13.body.getD .skip) (enterT E_passkeyref23_Registrable.C S_passkeyref23_Registrable.ps x) (retK E_passkeyref23_Registrable Tryd.f13.results.toList S_passkeyref23_Registrable.ps S_passkeyref23_Registrable.rs) = S_passkeyref23_Registrable.fn x := by kernel_rfl

theorem passkeyref23_Registrable_env : EnvOk Tryd.prog E_passkeyref23_Registrable := envOk (E := E_passkeyref23_Registrable) cd_ok tys fl_ok fun f ds S h => by
    dsimp only [E_passkeyref23_Registrable] at h
    split at h
    · cases h; exact passkeyref23_Public_ok
    · cases h; exact passkeyref23_Labels_ok
    · cases h; exact passkeyref23_join_ok
    · cases h

theorem passkeyref23_Registrable_ok : SoundT Tryd.prog cd gdn 13 S_passkeyref23_Registrable :=
  sound_fn (E := E_passkeyref23_Registrable) (A := A_passkeyref23_Registrable) (done := []) (c := (Tryd.f13.body.getD .skip)) (S := S_passkeyref23_Registrable) (fn := Tryd.f13) hmix passkeyref23_Registrable_env Tryd.func13 rfl (by kernel_rfl) (by kernel_rfl) done_nil (by kernel_rfl) (by kernel_rfl) passkeyref23_Registrable_eq

def passkeylaw23_HostPublic_L2b (y0 : (List (ApiSuffix))) (y1 : (List UInt8)) (y2 : Int) (y3 : Int) (y4 : Int) (y5 : Int) (y6 : Int) : Option (((List (ApiSuffix)) × (List UInt8) × Int × Int × Int × Int × Int × Unit) ⊕ ((Bool × Unit) ⊕ ((List (ApiSuffix)) × (List UInt8) × Int × Int × Int × Unit))) :=
 ((getI y0 y4).bind fun x3 => (bif (decide (y6 < ((x3.labels).length : Int))) then ((getI y0 y4).bind fun x4 => ((getI x4.labels y6).bind fun x5 => (let v6 : Int := (bif decide ((500 : Int) < ((x5).length : Int)) then (500 : Int) else ((x5).length : Int))
 (let v7 : Int := (IntKind.wrap .i64 (y5 + (IntKind.wrap .i64 (v6 + (1 : Int)))))
 (bif (decide ((500 : Int) < v7)) then ((passkeylaw23_awake).bind fun r8 => (some (Sum.inr (Sum.inl (r8.2.1, ())))))
 else (some (Sum.inl (y0, y1, y2, y3, y4, v7, (IntKind.wrap .i64 (y6 + (1 : Int))), ()))))))))
 else (some (Sum.inr (Sum.inr (y0, y1, y2, y3, y4, ()))))))

def passkeylaw23_HostPublic_L2 (y : ((List (ApiSuffix)) × (List UInt8) × Int × Int × Int × Int × Int × Unit)) : Option ((Bool × Unit) ⊕ ((List (ApiSuffix)) × (List UInt8) × Int × Int × Int × Unit)) := iter (fun (y : ((List (ApiSuffix)) × (List UInt8) × Int × Int × Int × Int × Int × Unit)) => passkeylaw23_HostPublic_L2b y.1 y.2.1 y.2.2.1 y.2.2.2.1 y.2.2.2.2.1 y.2.2.2.2.2.1 y.2.2.2.2.2.2.1) rounds y

def passkeylaw23_HostPublic_L0b (y0 : (List (ApiSuffix))) (y1 : (List UInt8)) (y2 : Int) (y3 : Int) (y4 : Int) : Option (((List (ApiSuffix)) × (List UInt8) × Int × Int × Int × Unit) ⊕ ((Bool × Unit) ⊕ ((List (ApiSuffix)) × (List UInt8) × Int × Int × Unit))) :=
 (bif (decide (y4 < ((y0).length : Int))) then ((passkeylaw23_HostPublic_L2 (y0, y1, y2, y3, y4, (0 : Int), (0 : Int), ())).bind (Sum.elim (fun (z3 : (Bool × Unit)) => (some (Sum.inr (Sum.inl (z3.1, ()))))) (fun (z4 : ((List (ApiSuffix)) × (List UInt8) × Int × Int × Int × Unit)) => (some (Sum.inl (z4.1, z4.2.1, z4.2.2.1, z4.2.2.2.1, (IntKind.wrap .i64 (z4.2.2.2.2.1 + (1 : Int))), ()))))))
 else (some (Sum.inr (Sum.inr (y0, y1, y2, y3, ())))))

def passkeylaw23_HostPublic_L0 (y : ((List (ApiSuffix)) × (List UInt8) × Int × Int × Int × Unit)) : Option ((Bool × Unit) ⊕ ((List (ApiSuffix)) × (List UInt8) × Int × Int × Unit)) := iter (fun (y : ((List (ApiSuffix)) × (List UInt8) × Int × Int × Int × Unit)) => passkeylaw23_HostPublic_L0b y.1 y.2.1 y.2.2.1 y.2.2.2.1 y.2.2.2.2.1) rounds y

def passkeylaw23_HostPublic_L6b (y0 : (List (ApiSuffix))) (y1 : (List (ApiSuffix))) (y2 : (List (ApiSuffix))) (y3 : (List UInt8)) (y4 : (List (List UInt8))) (y5 : Int) (y6 : Int) (y7 : (List (List ApiSuffix))) (y8 : Int) (y9 : Int) : Option (((List (ApiSuffix)) × (List (ApiSuffix)) × (List (ApiSuffix)) × (List UInt8) × (List (List UInt8)) × Int × Int × (List (List ApiSuffix)) × Int × Int × Unit) ⊕ ((Bool × Unit) ⊕ ((List (ApiSuffix)) × (List (ApiSuffix)) × (List (ApiSuffix)) × (List (List UInt8)) × Int × Int × Unit))) :=
 (bif (decide (y9 < y8)) then (bif (decide ((0 : Int) ≤ y9) && decide (y9 < ((y7).length : Int))) then (((y7)[(y9).toNat]?).bind fun x20 => ((host_Registrable x20 y3).bind fun r21 => ((passkeyref23_Registrable x20 y3).bind fun r22 => ((host_Public x20 y3).bind fun r23 => ((passkeyref23_Public x20 y3).bind fun r24 => (bif (!decide (r23.2.1 = r24.2.1)) then (some (Sum.inr (Sum.inl (false, ()))))
 else (bif (!decide (r21.2.1 = r22.2.1)) then (some (Sum.inr (Sum.inl (false, ()))))
 else (bif (!(r21.2.2.1 == r22.2.2.1)) then (some (Sum.inr (Sum.inl (false, ()))))
 else (some (Sum.inl (y0, y1, y2, y3, y4, y5, y6, y7, y8, (IntKind.wrap .i64 (y9 + (1 : Int))), ())))))))))))
 else none)
 else (some (Sum.inr (Sum.inr (y0, y1, y2, y4, y5, y6, ())))))

def passkeylaw23_HostPublic_L6 (y : ((List (ApiSuffix)) × (List (ApiSuffix)) × (List (ApiSuffix)) × (List UInt8) × (List (List UInt8)) × Int × Int × (List (List ApiSuffix)) × Int × Int × Unit)) : Option ((Bool × Unit) ⊕ ((List (ApiSuffix)) × (List (ApiSuffix)) × (List (ApiSuffix)) × (List (List UInt8)) × Int × Int × Unit)) := iter (fun (y : ((List (ApiSuffix)) × (List (ApiSuffix)) × (List (ApiSuffix)) × (List UInt8) × (List (List UInt8)) × Int × Int × (List (List ApiSuffix)) × Int × Int × Unit)) => passkeylaw23_HostPublic_L6b y.1 y.2.1 y.2.2.1 y.2.2.2.1 y.2.2.2.2.1 y.2.2.2.2.2.1 y.2.2.2.2.2.2.1 y.2.2.2.2.2.2.2.1 y.2.2.2.2.2.2.2.2.1 y.2.2.2.2.2.2.2.2.2.1) rounds y

def passkeylaw23_HostPublic_L4b (y0 : (List (ApiSuffix))) (y1 : (List (ApiSuffix))) (y2 : (List (ApiSuffix))) (y3 : (List (List UInt8))) (y4 : Int) (y5 : Int) : Option (((List (ApiSuffix)) × (List (ApiSuffix)) × (List (ApiSuffix)) × (List (List UInt8)) × Int × Int × Unit) ⊕ ((Bool × Unit) ⊕ (Unit))) :=
 (bif (decide (y5 < y4)) then (bif (decide ((0 : Int) ≤ y5) && decide (y5 < ((y3).length : Int))) then (((y3)[(y5).toNat]?).bind fun x19 => ((passkeylaw23_HostPublic_L6 (y0, y1, y2, x19, y3, y4, y5, ([y0, y1, y2] : List (List ApiSuffix)), (3 : Int), (0 : Int), ())).bind (Sum.elim (fun (z20 : (Bool × Unit)) => (some (Sum.inr (Sum.inl (z20.1, ()))))) (fun (z21 : ((List (ApiSuffix)) × (List (ApiSuffix)) × (List (ApiSuffix)) × (List (List UInt8)) × Int × Int × Unit)) => (some (Sum.inl (z21.1, z21.2.1, z21.2.2.1, z21.2.2.2.1, z21.2.2.2.2.1, (IntKind.wrap .i64 (z21.2.2.2.2.2.1 + (1 : Int))), ())))))))
 else none)
 else (some (Sum.inr (Sum.inr ()))))

def passkeylaw23_HostPublic_L4 (y : ((List (ApiSuffix)) × (List (ApiSuffix)) × (List (ApiSuffix)) × (List (List UInt8)) × Int × Int × Unit)) : Option ((Bool × Unit) ⊕ (Unit)) := iter (fun (y : ((List (ApiSuffix)) × (List (ApiSuffix)) × (List (ApiSuffix)) × (List (List UInt8)) × Int × Int × Unit)) => passkeylaw23_HostPublic_L4b y.1 y.2.1 y.2.2.1 y.2.2.2.1 y.2.2.2.2.1 y.2.2.2.2.2.1) rounds y

def passkeylaw23_HostPublic (a0 : (List (ApiSuffix))) (a1 : (List UInt8)) (a2 : Int) (a3 : Int) : Option ((Unit) × (Bool × Unit)) :=
 (bif (decide ((80 : Int) < ((a0).length : Int))) then ((passkeylaw23_awake).bind fun r1 => (some ((), (r1.2.1, ()))))
 else (bif (decide ((200 : Int) < ((a1).length : Int))) then ((passkeylaw23_awake).bind fun r2 => (some ((), (r2.2.1, ()))))
 else ((passkeylaw23_HostPublic_L0 (a0, a1, a2, a3, (0 : Int), ())).bind (Sum.elim (fun (z5 : (Bool × Unit)) => (some ((), (z5.1, ())))) (fun (z6 : ((List (ApiSuffix)) × (List UInt8) × Int × Int × Unit)) => ((passkeycast_Rules z6.2.2.1).bind fun r7 => (bif small ((z6.1).length) 32 then (bif small ((z6.1).length + (r7.2.1 : List (ApiSuffix)).length) 32 then ((passkeycast_Host z6.2.2.2.1).bind fun r8 => ((passkeycast_Host z6.2.2.2.1).bind fun r9 => (bif Nat.ble ((([113, 46] : List UInt8)).length + (r9.2.1).length) 9223372036854775807 then (let v10 : List (List UInt8) := ([z6.2.1, r8.2.1, (([113, 46] : List UInt8) ++ r9.2.1)] : List (List UInt8))
 ((passkeylaw23_HostPublic_L4 (z6.1, r7.2.1, (z6.1 ++ r7.2.1), v10, (3 : Int), (0 : Int), ())).bind (Sum.elim (fun (z22 : (Bool × Unit)) => (some ((), (z22.1, ())))) (fun (z23 : (Unit)) => ((passkeylaw23_awake).bind fun r24 => (some ((), (r24.2.1, ()))))))))
 else none)))
 else none)
 else none)))))))

def S_passkeylaw23_HostPublic : FSpec T := ⟨[.f (.v (.rs 2)), .f (.v .str), .f (.v (.int .i64)), .f (.v (.int .i64))], [(.v .bool)], fun x => passkeylaw23_HostPublic x.1 x.2.1 x.2.2.1 x.2.2.2.1⟩

def E_passkeylaw23_HostPublic : Env T := ⟨tab.find, cd, globs, flc, fun f ds => match f with
    | 9 => some S_passkeylaw23_awake
    | 10 => some S_passkeycast_Rules
    | 11 => some S_passkeycast_Host
    | 12 => some S_host_Registrable
    | 13 => some S_passkeyref23_Registrable
    | 14 => some S_host_Public
    | 15 => some S_passkeyref23_Public
    | _ => none, fun f => match f with
    | 9 => true
    | 11 => true
    | 12 => true
    | 13 => true
    | 14 => true
    | 15 => true
    | _ => false⟩

def A_passkeylaw23_HostPublic : Loc2 T := ⟨fun id => match id with
    | 2 => some ⟨[(0, .f (.v (.rs 2))), (1, .f (.v .str)), (2, .f (.v (.int .i64))), (3, .f (.v (.int .i64))), (9, .f (.v (.int .i64))), (10, .f (.v (.int .i64))), (11, .f (.v (.int .i64)))], [(.ret, [(8, .f (.v .bool))]), (.exit 2, [(0, .f (.v (.rs 2))), (1, .f (.v .str)), (2, .f (.v (.int .i64))), (3, .f (.v (.int .i64))), (9, .f (.v (.int .i64)))])], passkeylaw23_HostPublic_L2, []⟩
    | 0 => some ⟨[(0, .f (.v (.rs 2))), (1, .f (.v .str)), (2, .f (.v (.int .i64))), (3, .f (.v (.int .i64))), (9, .f (.v (.int .i64)))], [(.ret, [(8, .f (.v .bool))]), (.exit 0, [(0, .f (.v (.rs 2))), (1, .f (.v .str)), (2, .f (.v (.int .i64))), (3, .f (.v (.int .i64)))])], passkeylaw23_HostPublic_L0, []⟩
    | 6 => some ⟨[(0, .f (.v (.rs 2))), (12, .f (.v (.rs 2))), (13, .f (.v (.rs 2))), (15, .f (.v .str)), (75, .f (.own 1)), (76, .f (.v (.int .i64))), (77, .f (.v (.int .i64))), (84, .f (.own 3)), (85, .f (.v (.int .i64))), (86, .f (.v (.int .i64)))], [(.ret, [(8, .f (.v .bool))]), (.exit 6, [(0, .f (.v (.rs 2))), (12, .f (.v (.rs 2))), (13, .f (.v (.rs 2))), (75, .f (.own 1)), (76, .f (.v (.int .i64))), (77, .f (.v (.int .i64)))])], passkeylaw23_HostPublic_L6, []⟩
    | 4 => some ⟨[(0, .f (.v (.rs 2))), (12, .f (.v (.rs 2))), (13, .f (.v (.rs 2))), (75, .f (.own 1)), (76, .f (.v (.int .i64))), (77, .f (.v (.int .i64)))], [(.ret, [(8, .f (.v .bool))]), (.exit 4, [])], passkeylaw23_HostPublic_L4, []⟩
    | _ => none, fun r => match r with
    | _ => none, fun r => match r with
    | _ => false⟩

theorem passkeylaw23_HostPublic_L2_eq (y0 : (List (ApiSuffix))) (y1 : (List UInt8)) (y2 : Int) (y3 : Int) (y4 : Int) (y5 : Int) (y6 : Int) : run E_passkeylaw23_HostPublic A_passkeylaw23_HostPublic (loopAt 2 (Tryd.f3.body.getD .skip)) (layC cd [(0, .f (.v (.rs 2))), (1, .f (.v .str)), (2, .f (.v (.int .i64))), (3, .f (.v (.int .i64))), (9, .f (.v (.int .i64))), (10, .f (.v (.int .i64))), (11, .f (.v (.int .i64)))] [] (y0, y1, y2, y3, y4, y5, y6, ())) (roundK cd [(0, .f (.v (.rs 2))), (1, .f (.v .str)), (2, .f (.v (.int .i64))), (3, .f (.v (.int .i64))), (9, .f (.v (.int .i64))), (10, .f (.v (.int .i64))), (11, .f (.v (.int .i64)))] [] [(.ret, [(8, .f (.v .bool))]), (.exit 2, [(0, .f (.v (.rs 2))), (1, .f (.v .str)), (2, .f (.v (.int .i64))), (3, .f (.v (.int .i64))), (9, .f (.v (.int .i64)))])]) = passkeylaw23_HostPublic_L2b y0 y1 y2 y3 y4 y5 y6 := by kernel_rfl

theorem passkeylaw23_HostPublic_L0_eq (y0 : (List (ApiSuffix))) (y1 : (List UInt8)) (y2 : Int) (y3 : Int) (y4 : Int) : run E_passkeylaw23_HostPublic A_passkeylaw23_HostPublic (loopAt 0 (Tryd.f3.body.getD .skip)) (layC cd [(0, .f (.v (.rs 2))), (1, .f (.v .str)), (2, .f (.v (.int .i64))), (3, .f (.v (.int .i64))), (9, .f (.v (.int .i64)))] [] (y0, y1, y2, y3, y4, ())) (roundK cd [(0, .f (.v (.rs 2))), (1, .f (.v .str)), (2, .f (.v (.int .i64))), (3, .f (.v (.int .i64))), (9, .f (.v (.int .i64)))] [] [(.ret, [(8, .f (.v .bool))]), (.exit 0, [(0, .f (.v (.rs 2))), (1, .f (.v .str)), (2, .f (.v (.int .i64))), (3, .f (.v (.int .i64)))])]) = passkeylaw23_HostPublic_L0b y0 y1 y2 y3 y4 := by kernel_rfl

theorem passkeylaw23_HostPublic_L6_eq (y0 : (List (ApiSuffix))) (y1 : (List (ApiSuffix))) (y2 : (List (ApiSuffix))) (y3 : (List UInt8)) (y4 : (List (List UInt8))) (y5 : Int) (y6 : Int) (y7 : (List (List ApiSuffix))) (y8 : Int) (y9 : Int) : run E_passkeylaw23_HostPublic A_passkeylaw23_HostPublic (loopAt 6 (Tryd.f3.body.getD .skip)) (layC cd [(0, .f (.v (.rs 2))), (12, .f (.v (.rs 2))), (13, .f (.v (.rs 2))), (15, .f (.v .str)), (75, .f (.own 1)), (76, .f (.v (.int .i64))), (77, .f (.v (.int .i64))), (84, .f (.own 3)), (85, .f (.v (.int .i64))), (86, .f (.v (.int .i64)))] [] (y0, y1, y2, y3, y4, y5, y6, y7, y8, y9, ())) (roundK cd [(0, .f (.v (.rs 2))), (12, .f (.v (.rs 2))), (13, .f (.v (.rs 2))), (15, .f (.v .str)), (75, .f (.own 1)), (76, .f (.v (.int .i64))), (77, .f (.v (.int .i64))), (84, .f (.own 3)), (85, .f (.v (.int .i64))), (86, .f (.v (.int .i64)))] [] [(.ret, [(8, .f (.v .bool))]), (.exit 6, [(0, .f (.v (.rs 2))), (12, .f (.v (.rs 2))), (13, .f (.v (.rs 2))), (75, .f (.own 1)), (76, .f (.v (.int .i64))), (77, .f (.v (.int .i64)))])]) = passkeylaw23_HostPublic_L6b y0 y1 y2 y3 y4 y5 y6 y7 y8 y9 := by kernel_rfl

theorem passkeylaw23_HostPublic_L4_eq (y0 : (List (ApiSuffix))) (y1 : (List (ApiSuffix))) (y2 : (List (ApiSuffix))) (y3 : (List (List UInt8))) (y4 : Int) (y5 : Int) : run E_passkeylaw23_HostPublic A_passkeylaw23_HostPublic (loopAt 4 (Tryd.f3.body.getD .skip)) (layC cd [(0, .f (.v (.rs 2))), (12, .f (.v (.rs 2))), (13, .f (.v (.rs 2))), (75, .f (.own 1)), (76, .f (.v (.int .i64))), (77, .f (.v (.int .i64)))] [] (y0, y1, y2, y3, y4, y5, ())) (roundK cd [(0, .f (.v (.rs 2))), (12, .f (.v (.rs 2))), (13, .f (.v (.rs 2))), (75, .f (.own 1)), (76, .f (.v (.int .i64))), (77, .f (.v (.int .i64)))] [] [(.ret, [(8, .f (.v .bool))]), (.exit 4, [])]) = passkeylaw23_HostPublic_L4b y0 y1 y2 y3 y4 y5 := by kernel_rfl

theorem passkeylaw23_HostPublic_eq (x : tySs T S_passkeylaw23_HostPublic.ps) : run E_passkeylaw23_HostPublic A_passkeylaw23_HostPublic (Tryd.f3.body.getD .skip) (enterT E_passkeylaw23_HostPublic.C S_passkeylaw23_HostPublic.ps x) (retK E_passkeylaw23_HostPublic Tryd.f3.results.toList S_passkeylaw23_HostPublic.ps S_passkeylaw23_HostPublic.rs) = S_passkeylaw23_HostPublic.fn x := by kernel_rfl

theorem passkeylaw23_HostPublic_env : EnvOk Tryd.prog E_passkeylaw23_HostPublic := envOk (E := E_passkeylaw23_HostPublic) cd_ok tys fl_ok fun f ds S h => by
    dsimp only [E_passkeylaw23_HostPublic] at h
    split at h
    · cases h; exact passkeylaw23_awake_ok
    · cases h; exact passkeycast_Rules_ok
    · cases h; exact passkeycast_Host_ok
    · cases h; exact host_Registrable_ok
    · cases h; exact passkeyref23_Registrable_ok
    · cases h; exact host_Public_ok
    · cases h; exact passkeyref23_Public_ok
    · cases h

theorem passkeylaw23_HostPublic_L2_ok : LoopOk Tryd.prog E_passkeylaw23_HostPublic Tryd.f3.ntmps (kqOf S_passkeylaw23_HostPublic.ps 0) (loopAt 2 (Tryd.f3.body.getD .skip)) ⟨[(0, .f (.v (.rs 2))), (1, .f (.v .str)), (2, .f (.v (.int .i64))), (3, .f (.v (.int .i64))), (9, .f (.v (.int .i64))), (10, .f (.v (.int .i64))), (11, .f (.v (.int .i64)))], [(.ret, [(8, .f (.v .bool))]), (.exit 2, [(0, .f (.v (.rs 2))), (1, .f (.v .str)), (2, .f (.v (.int .i64))), (3, .f (.v (.int .i64))), (9, .f (.v (.int .i64)))])], passkeylaw23_HostPublic_L2, []⟩ :=
  loop_ok (A := A_passkeylaw23_HostPublic) (done := []) (c0 := (Tryd.f3.body.getD .skip)) hmix passkeylaw23_HostPublic_env done_nil rounds (by kernel_rfl) (by kernel_rfl) (fun x => passkeylaw23_HostPublic_L2_eq x.1 x.2.1 x.2.2.1 x.2.2.2.1 x.2.2.2.2.1 x.2.2.2.2.2.1 x.2.2.2.2.2.2.1) (fun _ => rfl)

theorem passkeylaw23_HostPublic_L0_ok : LoopOk Tryd.prog E_passkeylaw23_HostPublic Tryd.f3.ntmps (kqOf S_passkeylaw23_HostPublic.ps 0) (loopAt 0 (Tryd.f3.body.getD .skip)) ⟨[(0, .f (.v (.rs 2))), (1, .f (.v .str)), (2, .f (.v (.int .i64))), (3, .f (.v (.int .i64))), (9, .f (.v (.int .i64)))], [(.ret, [(8, .f (.v .bool))]), (.exit 0, [(0, .f (.v (.rs 2))), (1, .f (.v .str)), (2, .f (.v (.int .i64))), (3, .f (.v (.int .i64)))])], passkeylaw23_HostPublic_L0, []⟩ :=
  loop_ok (A := A_passkeylaw23_HostPublic) (done := [2]) (c0 := (Tryd.f3.body.getD .skip)) hmix passkeylaw23_HostPublic_env (done_cons rfl passkeylaw23_HostPublic_L2_ok done_nil) rounds (by kernel_rfl) (by kernel_rfl) (fun x => passkeylaw23_HostPublic_L0_eq x.1 x.2.1 x.2.2.1 x.2.2.2.1 x.2.2.2.2.1) (fun _ => rfl)

theorem passkeylaw23_HostPublic_L6_ok : LoopOk Tryd.prog E_passkeylaw23_HostPublic Tryd.f3.ntmps (kqOf S_passkeylaw23_HostPublic.ps 0) (loopAt 6 (Tryd.f3.body.getD .skip)) ⟨[(0, .f (.v (.rs 2))), (12, .f (.v (.rs 2))), (13, .f (.v (.rs 2))), (15, .f (.v .str)), (75, .f (.own 1)), (76, .f (.v (.int .i64))), (77, .f (.v (.int .i64))), (84, .f (.own 3)), (85, .f (.v (.int .i64))), (86, .f (.v (.int .i64)))], [(.ret, [(8, .f (.v .bool))]), (.exit 6, [(0, .f (.v (.rs 2))), (12, .f (.v (.rs 2))), (13, .f (.v (.rs 2))), (75, .f (.own 1)), (76, .f (.v (.int .i64))), (77, .f (.v (.int .i64)))])], passkeylaw23_HostPublic_L6, []⟩ :=
  loop_ok (A := A_passkeylaw23_HostPublic) (done := [2, 0]) (c0 := (Tryd.f3.body.getD .skip)) hmix passkeylaw23_HostPublic_env (done_cons rfl passkeylaw23_HostPublic_L2_ok (done_cons rfl passkeylaw23_HostPublic_L0_ok done_nil)) rounds (by kernel_rfl) (by kernel_rfl) (fun x => passkeylaw23_HostPublic_L6_eq x.1 x.2.1 x.2.2.1 x.2.2.2.1 x.2.2.2.2.1 x.2.2.2.2.2.1 x.2.2.2.2.2.2.1 x.2.2.2.2.2.2.2.1 x.2.2.2.2.2.2.2.2.1 x.2.2.2.2.2.2.2.2.2.1) (fun _ => rfl)

theorem passkeylaw23_HostPublic_L4_ok : LoopOk Tryd.prog E_passkeylaw23_HostPublic Tryd.f3.ntmps (kqOf S_passkeylaw23_HostPublic.ps 0) (loopAt 4 (Tryd.f3.body.getD .skip)) ⟨[(0, .f (.v (.rs 2))), (12, .f (.v (.rs 2))), (13, .f (.v (.rs 2))), (75, .f (.own 1)), (76, .f (.v (.int .i64))), (77, .f (.v (.int .i64)))], [(.ret, [(8, .f (.v .bool))]), (.exit 4, [])], passkeylaw23_HostPublic_L4, []⟩ :=
  loop_ok (A := A_passkeylaw23_HostPublic) (done := [2, 0, 6]) (c0 := (Tryd.f3.body.getD .skip)) hmix passkeylaw23_HostPublic_env (done_cons rfl passkeylaw23_HostPublic_L2_ok (done_cons rfl passkeylaw23_HostPublic_L0_ok (done_cons rfl passkeylaw23_HostPublic_L6_ok done_nil))) rounds (by kernel_rfl) (by kernel_rfl) (fun x => passkeylaw23_HostPublic_L4_eq x.1 x.2.1 x.2.2.1 x.2.2.2.1 x.2.2.2.2.1 x.2.2.2.2.2.1) (fun _ => rfl)

theorem passkeylaw23_HostPublic_ok : SoundT Tryd.prog cd gdn 3 S_passkeylaw23_HostPublic :=
  sound_fn (E := E_passkeylaw23_HostPublic) (A := A_passkeylaw23_HostPublic) (done := [2, 0, 6, 4]) (c := (Tryd.f3.body.getD .skip)) (S := S_passkeylaw23_HostPublic) (fn := Tryd.f3) hmix passkeylaw23_HostPublic_env Tryd.func3 rfl (by kernel_rfl) (by kernel_rfl) (done_cons rfl passkeylaw23_HostPublic_L2_ok (done_cons rfl passkeylaw23_HostPublic_L0_ok (done_cons rfl passkeylaw23_HostPublic_L6_ok (done_cons rfl passkeylaw23_HostPublic_L4_ok done_nil)))) (by kernel_rfl) (by kernel_rfl) passkeylaw23_HostPublic_eq

def passkeylaw23_HostMore_L0b (y0 : Int) (y1 : Int) (y2 : (List (ApiSuffix))) (y3 : (List (ApiSuffix))) (y4 : Int) : Option ((Int × Int × (List (ApiSuffix)) × (List (ApiSuffix)) × Int × Unit) ⊕ (Int × Int × (List (ApiSuffix)) × (List (ApiSuffix)) × Unit)) :=
 (bif (decide (y4 < ((y2).length : Int))) then (bif (decide ((0 : Int) ≤ y4) && decide (y4 < ((y2).length : Int))) then (((y2)[(y4).toNat]?).bind fun x3 => (bif small ((([x3] : List (ApiSuffix))).length + (y3 : List (ApiSuffix)).length) 32 then (some (Sum.inl (y0, y1, y2, (([x3] : List (ApiSuffix)) ++ y3), (IntKind.wrap .i64 (y4 + (1 : Int))), ())))
 else none))
 else none)
 else (some (Sum.inr (y0, y1, y2, y3, ()))))

def passkeylaw23_HostMore_L0 (y : (Int × Int × (List (ApiSuffix)) × (List (ApiSuffix)) × Int × Unit)) : Option (Int × Int × (List (ApiSuffix)) × (List (ApiSuffix)) × Unit) := iter (fun (y : (Int × Int × (List (ApiSuffix)) × (List (ApiSuffix)) × Int × Unit)) => passkeylaw23_HostMore_L0b y.1 y.2.1 y.2.2.1 y.2.2.2.1 y.2.2.2.2.1) rounds y

def passkeylaw23_HostMore (a0 : Int) (a1 : Int) (a2 : Int) : Option ((Unit) × (Bool × Unit)) :=
 (let v1 : Int := (IntKind.wrap .i64 ((BitVec.ofInt (IntKind.bits .i64) a0 ||| BitVec.ofInt (IntKind.bits .i64) (144 : Int)).toNat : Int))
 ((passkeycast_Rules v1).bind fun r2 => ((passkeylaw23_HostMore_L0 (a1, a2, r2.2.1, [], (0 : Int), ())).bind (fun (z4 : (Int × Int × (List (ApiSuffix)) × (List (ApiSuffix)) × Unit)) => ((passkeycast_Host z4.1).bind fun r5 => (bif small ((z4.2.2.1).length) 32 then ((passkeycast_Host z4.2.1).bind fun r6 => ((passkeyref23_Labels r6.2.1).bind fun r7 => (let v8 : Int := (IntKind.wrap .i64 ((BitVec.ofInt (IntKind.bits .i64) z4.2.1 &&& BitVec.ofInt (IntKind.bits .i64) (64 : Int)).toNat : Int))
 (let v9 : List (ApiSuffix) := ([(⟨r7.2.1, (decide (v8 = (64 : Int))), false⟩ : ApiSuffix)] : List (ApiSuffix))
 (bif small ((z4.2.2.1).length + (v9 : List (ApiSuffix)).length) 32 then ((host_Public z4.2.2.1 r5.2.1).bind fun r10 => ((host_Public z4.2.2.2.1 r5.2.1).bind fun r11 => ((host_Public (z4.2.2.1 ++ v9) r5.2.1).bind fun r12 => (bif (decide (r10.2.1 = r11.2.1)) then (bif (decide (r10.2.1 ≤ r12.2.1)) then ((host_Labels r5.2.1).bind fun r13 => (bif (decide (r12.2.1 ≤ ((r13.2.1).length : Int))) then ((passkeylaw23_awake).bind fun r14 => (some ((), (r14.2.1, ()))))
 else (some ((), (false, ())))))
 else (some ((), (false, ()))))
 else (some ((), (false, ())))))))
 else none)))))
 else none))))))

def S_passkeylaw23_HostMore : FSpec T := ⟨[.f (.v (.int .i64)), .f (.v (.int .i64)), .f (.v (.int .i64))], [(.v .bool)], fun x => passkeylaw23_HostMore x.1 x.2.1 x.2.2.1⟩

def E_passkeylaw23_HostMore : Env T := ⟨tab.find, cd, globs, flc, fun f ds => match f with
    | 9 => some S_passkeylaw23_awake
    | 10 => some S_passkeycast_Rules
    | 11 => some S_passkeycast_Host
    | 14 => some S_host_Public
    | 16 => some S_passkeyref23_Labels
    | 17 => some S_host_Labels
    | _ => none, fun f => match f with
    | 9 => true
    | 11 => true
    | 14 => true
    | _ => false⟩

def A_passkeylaw23_HostMore : Loc2 T := ⟨fun id => match id with
    | 0 => some ⟨[(1, .f (.v (.int .i64))), (2, .f (.v (.int .i64))), (7, .f (.own 2)), (8, .f (.own 2)), (9, .f (.v (.int .i64)))], [(.exit 0, [(1, .f (.v (.int .i64))), (2, .f (.v (.int .i64))), (7, .f (.own 2)), (8, .f (.own 2))])], passkeylaw23_HostMore_L0, []⟩
    | _ => none, fun r => match r with
    | _ => none, fun r => match r with
    | _ => false⟩

theorem passkeylaw23_HostMore_L0_eq (y0 : Int) (y1 : Int) (y2 : (List (ApiSuffix))) (y3 : (List (ApiSuffix))) (y4 : Int) : run E_passkeylaw23_HostMore A_passkeylaw23_HostMore (loopAt 0 (Tryd.f4.body.getD .skip)) (layC cd [(1, .f (.v (.int .i64))), (2, .f (.v (.int .i64))), (7, .f (.own 2)), (8, .f (.own 2)), (9, .f (.v (.int .i64)))] [] (y0, y1, y2, y3, y4, ())) (roundK cd [(1, .f (.v (.int .i64))), (2, .f (.v (.int .i64))), (7, .f (.own 2)), (8, .f (.own 2)), (9, .f (.v (.int .i64)))] [] [(.exit 0, [(1, .f (.v (.int .i64))), (2, .f (.v (.int .i64))), (7, .f (.own 2)), (8, .f (.own 2))])]) = passkeylaw23_HostMore_L0b y0 y1 y2 y3 y4 := by kernel_rfl

theorem passkeylaw23_HostMore_eq (x : tySs T S_passkeylaw23_HostMore.ps) : run E_passkeylaw23_HostMore A_passkeylaw23_HostMore (Tryd.f4.body.getD .skip) (enterT E_passkeylaw23_HostMore.C S_passkeylaw23_HostMore.ps x) (retK E_passkeylaw23_HostMore Tryd.f4.results.toList S_passkeylaw23_HostMore.ps S_passkeylaw23_HostMore.rs) = S_passkeylaw23_HostMore.fn x := by kernel_rfl

theorem passkeylaw23_HostMore_env : EnvOk Tryd.prog E_passkeylaw23_HostMore := envOk (E := E_passkeylaw23_HostMore) cd_ok tys fl_ok fun f ds S h => by
    dsimp only [E_passkeylaw23_HostMore] at h
    split at h
    · cases h; exact passkeylaw23_awake_ok
    · cases h; exact passkeycast_Rules_ok
    · cases h; exact passkeycast_Host_ok
    · cases h; exact host_Public_ok
    · cases h; exact passkeyref23_Labels_ok
    · cases h; exact host_Labels_ok
    · cases h

theorem passkeylaw23_HostMore_L0_ok : LoopOk Tryd.prog E_passkeylaw23_HostMore Tryd.f4.ntmps (kqOf S_passkeylaw23_HostMore.ps 0) (loopAt 0 (Tryd.f4.body.getD .skip)) ⟨[(1, .f (.v (.int .i64))), (2, .f (.v (.int .i64))), (7, .f (.own 2)), (8, .f (.own 2)), (9, .f (.v (.int .i64)))], [(.exit 0, [(1, .f (.v (.int .i64))), (2, .f (.v (.int .i64))), (7, .f (.own 2)), (8, .f (.own 2))])], passkeylaw23_HostMore_L0, []⟩ :=
  loop_ok (A := A_passkeylaw23_HostMore) (done := []) (c0 := (Tryd.f4.body.getD .skip)) hmix passkeylaw23_HostMore_env done_nil rounds (by kernel_rfl) (by kernel_rfl) (fun x => passkeylaw23_HostMore_L0_eq x.1 x.2.1 x.2.2.1 x.2.2.2.1 x.2.2.2.2.1) (fun _ => rfl)

theorem passkeylaw23_HostMore_ok : SoundT Tryd.prog cd gdn 4 S_passkeylaw23_HostMore :=
  sound_fn (E := E_passkeylaw23_HostMore) (A := A_passkeylaw23_HostMore) (done := [0]) (c := (Tryd.f4.body.getD .skip)) (S := S_passkeylaw23_HostMore) (fn := Tryd.f4) hmix passkeylaw23_HostMore_env Tryd.func4 rfl (by kernel_rfl) (by kernel_rfl) (done_cons rfl passkeylaw23_HostMore_L0_ok done_nil) (by kernel_rfl) (by kernel_rfl) passkeylaw23_HostMore_eq

def passkeyref23_SameTexts_L0b (y0 : (List (List UInt8))) (y1 : (List (List UInt8))) (y2 : Int) : Option (((List (List UInt8)) × (List (List UInt8)) × Int × Unit) ⊕ ((Bool × Unit) ⊕ (Unit))) :=
 (bif (decide (y2 < ((y0).length : Int))) then ((getI y0 y2).bind fun x1 => ((getI y1 y2).bind fun x2 => (bif (!decide (x1 = x2)) then (some (Sum.inr (Sum.inl (false, ()))))
 else (some (Sum.inl (y0, y1, (IntKind.wrap .i64 (y2 + (1 : Int))), ()))))))
 else (some (Sum.inr (Sum.inr ()))))

def passkeyref23_SameTexts_L0 (y : ((List (List UInt8)) × (List (List UInt8)) × Int × Unit)) : Option ((Bool × Unit) ⊕ (Unit)) := iter (fun (y : ((List (List UInt8)) × (List (List UInt8)) × Int × Unit)) => passkeyref23_SameTexts_L0b y.1 y.2.1 y.2.2.1) rounds y

def passkeyref23_SameTexts (a0 : (List (List UInt8))) (a1 : (List (List UInt8))) : Option ((Unit) × (Bool × Unit)) :=
 (bif (!decide (((a0).length : Int) = ((a1).length : Int))) then (some ((), (false, ())))
 else ((passkeyref23_SameTexts_L0 (a0, a1, (0 : Int), ())).bind (Sum.elim (fun (z3 : (Bool × Unit)) => (some ((), (z3.1, ())))) (fun (z4 : (Unit)) => (some ((), (true, ())))))))

def S_passkeyref23_SameTexts : FSpec T := ⟨[.f (.v (.rs 1)), .f (.v (.rs 1))], [(.v .bool)], fun x => passkeyref23_SameTexts x.1 x.2.1⟩

def E_passkeyref23_SameTexts : Env T := ⟨tab.find, cd, globs, flc, fun f ds => match f with
    | _ => none, fun f => match f with
    | _ => false⟩

def A_passkeyref23_SameTexts : Loc2 T := ⟨fun id => match id with
    | 0 => some ⟨[(0, .f (.v (.rs 1))), (1, .f (.v (.rs 1))), (5, .f (.v (.int .i64)))], [(.ret, [(4, .f (.v .bool))]), (.exit 0, [])], passkeyref23_SameTexts_L0, []⟩
    | _ => none, fun r => match r with
    | _ => none, fun r => match r with
    | _ => false⟩

theorem passkeyref23_SameTexts_L0_eq (y0 : (List (List UInt8))) (y1 : (List (List UInt8))) (y2 : Int) : run E_passkeyref23_SameTexts A_passkeyref23_SameTexts (loopAt 0 (Tryd.f34.body.getD .skip)) (layC cd [(0, .f (.v (.rs 1))), (1, .f (.v (.rs 1))), (5, .f (.v (.int .i64)))] [] (y0, y1, y2, ())) (roundK cd [(0, .f (.v (.rs 1))), (1, .f (.v (.rs 1))), (5, .f (.v (.int .i64)))] [] [(.ret, [(4, .f (.v .bool))]), (.exit 0, [])]) = passkeyref23_SameTexts_L0b y0 y1 y2 := by kernel_rfl

theorem passkeyref23_SameTexts_eq (x : tySs T S_passkeyref23_SameTexts.ps) : run E_passkeyref23_SameTexts A_passkeyref23_SameTexts (Tryd.f34.body.getD .skip) (enterT E_passkeyref23_SameTexts.C S_passkeyref23_SameTexts.ps x) (retK E_passkeyref23_SameTexts Tryd.f34.results.toList S_passkeyref23_SameTexts.ps S_passkeyref23_SameTexts.rs) = S_passkeyref23_SameTexts.fn x := by kernel_rfl

theorem passkeyref23_SameTexts_env : EnvOk Tryd.prog E_passkeyref23_SameTexts := envOk (E := E_passkeyref23_SameTexts) cd_ok tys fl_ok fun f ds S h => by cases h

theorem passkeyref23_SameTexts_L0_ok : LoopOk Tryd.prog E_passkeyref23_SameTexts Tryd.f34.ntmps (kqOf S_passkeyref23_SameTexts.ps 0) (loopAt 0 (Tryd.f34.body.getD .skip)) ⟨[(0, .f (.v (.rs 1))), (1, .f (.v (.rs 1))), (5, .f (.v (.int .i64)))], [(.ret, [(4, .f (.v .bool))]), (.exit 0, [])], passkeyref23_SameTexts_L0, []⟩ :=
  loop_ok (A := A_passkeyref23_SameTexts) (done := []) (c0 := (Tryd.f34.body.getD .skip)) hmix passkeyref23_SameTexts_env done_nil rounds (by kernel_rfl) (by kernel_rfl) (fun x => passkeyref23_SameTexts_L0_eq x.1 x.2.1 x.2.2.1) (fun _ => rfl)

theorem passkeyref23_SameTexts_ok : SoundT Tryd.prog cd gdn 34 S_passkeyref23_SameTexts :=
  sound_fn (E := E_passkeyref23_SameTexts) (A := A_passkeyref23_SameTexts) (done := [0]) (c := (Tryd.f34.body.getD .skip)) (S := S_passkeyref23_SameTexts) (fn := Tryd.f34) hmix passkeyref23_SameTexts_env Tryd.func34 rfl (by kernel_rfl) (by kernel_rfl) (done_cons rfl passkeyref23_SameTexts_L0_ok done_nil) (by kernel_rfl) (by kernel_rfl) passkeyref23_SameTexts_eq

def host_Within (a0 : (List UInt8)) (a1 : (List UInt8)) : Option ((Unit) × (Bool × Unit)) :=
 ((host_Validate a0).bind fun r1 => (bif (!decide (r1.2.1 = (0 : Int))) then (some ((), (false, ())))
 else ((host_Validate a1).bind fun r2 => (bif (!decide (r2.2.1 = (0 : Int))) then (some ((), (false, ())))
 else ((host_Labels a0).bind fun r3 => ((host_Labels a1).bind fun r4 => ((host_ends r3.2.1 r4.2.1).bind fun r5 => (some ((), (r5.2.1, ()))))))))))

def S_host_Within : FSpec T := ⟨[.f (.v .str), .f (.v .str)], [(.v .bool)], fun x => host_Within x.1 x.2.1⟩

def E_host_Within : Env T := ⟨tab.find, cd, globs, flc, fun f ds => match f with
    | 17 => some S_host_Labels
    | 26 => some S_host_Validate
    | 36 => some S_host_ends
    | _ => none, fun f => match f with
    | 26 => true
    | 36 => true
    | _ => false⟩

def A_host_Within : Loc2 T := ⟨fun id => match id with
    | _ => none, fun r => match r with
    | _ => none, fun r => match r with
    | _ => false⟩

theorem host_Within_eq (x : tySs T S_host_Within.ps) : run E_host_Within A_host_Within (Tryd.f20.body.getD .skip) (enterT E_host_Within.C S_host_Within.ps x) (retK E_host_Within Tryd.f20.results.toList S_host_Within.ps S_host_Within.rs) = S_host_Within.fn x := by kernel_rfl

theorem host_Within_env : EnvOk Tryd.prog E_host_Within := envOk (E := E_host_Within) cd_ok tys fl_ok fun f ds S h => by
    dsimp only [E_host_Within] at h
    split at h
    · cases h; exact host_Labels_ok
    · cases h; exact host_Validate_ok
    · cases h; exact host_ends_ok
    · cases h

theorem host_Within_ok : SoundT Tryd.prog cd gdn 20 S_host_Within :=
  sound_fn (E := E_host_Within) (A := A_host_Within) (done := []) (c := (Tryd.f20.body.getD .skip)) (S := S_host_Within) (fn := Tryd.f20) hmix host_Within_env Tryd.func20 rfl (by kernel_rfl) (by kernel_rfl) done_nil (by kernel_rfl) (by kernel_rfl) host_Within_eq

def passkeyref23_Within (a0 : (List UInt8)) (a1 : (List UInt8)) : Option ((Unit) × (Bool × Unit)) :=
 ((passkeyref23_Validate a0).bind fun r1 => (bif (decide (r1.2.1 = (0 : Int))) then ((passkeyref23_Validate a1).bind fun r2 => (bif (decide (r2.2.1 = (0 : Int))) then ((passkeyref23_split a0 (46 : UInt8)).bind fun r3 => ((passkeyref23_split a1 (46 : UInt8)).bind fun r4 => ((passkeyref23_ends r3.2.1 r4.2.1).bind fun r5 => (some ((), (r5.2.1, ()))))))
 else (some ((), (false, ())))))
 else (some ((), (false, ())))))

def S_passkeyref23_Within : FSpec T := ⟨[.f (.v .str), .f (.v .str)], [(.v .bool)], fun x => passkeyref23_Within x.1 x.2.1⟩

def E_passkeyref23_Within : Env T := ⟨tab.find, cd, globs, flc, fun f ds => match f with
    | 30 => some S_passkeyref23_ends
    | 31 => some S_passkeyref23_Validate
    | 32 => some S_passkeyref23_split
    | _ => none, fun f => match f with
    | 30 => true
    | 31 => true
    | _ => false⟩

def A_passkeyref23_Within : Loc2 T := ⟨fun id => match id with
    | _ => none, fun r => match r with
    | _ => none, fun r => match r with
    | _ => false⟩

theorem passkeyref23_Within_eq (x : tySs T S_passkeyref23_Within.ps) : run E_passkeyref23_Within A_passkeyref23_Within (Tryd.f35.body.getD .skip) (enterT E_passkeyref23_Within.C S_passkeyref23_Within.ps x) (retK E_passkeyref23_Within Tryd.f35.results.toList S_passkeyref23_Within.ps S_passkeyref23_Within.rs) = S_passkeyref23_Within.fn x := by kernel_rfl

theorem passkeyref23_Within_env : EnvOk Tryd.prog E_passkeyref23_Within := envOk (E := E_passkeyref23_Within) cd_ok tys fl_ok fun f ds S h => by
    dsimp only [E_passkeyref23_Within] at h
    split at h
    · cases h; exact passkeyref23_ends_ok
    · cases h; exact passkeyref23_Validate_ok
    · cases h; exact passkeyref23_split_ok
    · cases h

theorem passkeyref23_Within_ok : SoundT Tryd.prog cd gdn 35 S_passkeyref23_Within :=
  sound_fn (E := E_passkeyref23_Within) (A := A_passkeyref23_Within) (done := []) (c := (Tryd.f35.body.getD .skip)) (S := S_passkeyref23_Within) (fn := Tryd.f35) hmix passkeyref23_Within_env Tryd.func35 rfl (by kernel_rfl) (by kernel_rfl) done_nil (by kernel_rfl) (by kernel_rfl) passkeyref23_Within_eq

def passkeylaw23_same (a0 : (List UInt8)) (a1 : (List UInt8)) : Option ((Unit) × (Bool × Unit)) :=
 ((host_Validate a0).bind fun r1 => ((passkeyref23_Validate a0).bind fun r2 => (bif (decide (r1.2.1 = r2.2.1)) then ((host_Labels a0).bind fun r3 => ((passkeyref23_Labels a0).bind fun r4 => ((passkeyref23_SameTexts r3.2.1 r4.2.1).bind fun r5 => (bif r5.2.1 then ((host_Within a0 a1).bind fun r6 => ((passkeyref23_Within a0 a1).bind fun r7 => (bif (r6.2.1 == r7.2.1) then ((host_Within a1 a0).bind fun r8 => ((passkeyref23_Within a1 a0).bind fun r9 => (some ((), ((r8.2.1 == r9.2.1), ())))))
 else (some ((), (false, ()))))))
 else (some ((), (false, ())))))))
 else (some ((), (false, ()))))))

def S_passkeylaw23_same : FSpec T := ⟨[.f (.v .str), .f (.v .str)], [(.v .bool)], fun x => passkeylaw23_same x.1 x.2.1⟩

def E_passkeylaw23_same : Env T := ⟨tab.find, cd, globs, flc, fun f ds => match f with
    | 16 => some S_passkeyref23_Labels
    | 17 => some S_host_Labels
    | 20 => some S_host_Within
    | 26 => some S_host_Validate
    | 31 => some S_passkeyref23_Validate
    | 34 => some S_passkeyref23_SameTexts
    | 35 => some S_passkeyref23_Within
    | _ => none, fun f => match f with
    | 20 => true
    | 26 => true
    | 31 => true
    | 34 => true
    | 35 => true
    | _ => false⟩

def A_passkeylaw23_same : Loc2 T := ⟨fun id => match id with
    | _ => none, fun r => match r with
    | _ => none, fun r => match r with
    | _ => false⟩

theorem passkeylaw23_same_eq (x : tySs T S_passkeylaw23_same.ps) : run E_passkeylaw23_same A_passkeylaw23_same (Tryd.f19.body.getD .skip) (enterT E_passkeylaw23_same.C S_passkeylaw23_same.ps x) (retK E_passkeylaw23_same Tryd.f19.results.toList S_passkeylaw23_same.ps S_passkeylaw23_same.rs) = S_passkeylaw23_same.fn x := by kernel_rfl

theorem passkeylaw23_same_env : EnvOk Tryd.prog E_passkeylaw23_same := envOk (E := E_passkeylaw23_same) cd_ok tys fl_ok fun f ds S h => by
    dsimp only [E_passkeylaw23_same] at h
    split at h
    · cases h; exact passkeyref23_Labels_ok
    · cases h; exact host_Labels_ok
    · cases h; exact host_Within_ok
    · cases h; exact host_Validate_ok
    · cases h; exact passkeyref23_Validate_ok
    · cases h; exact passkeyref23_SameTexts_ok
    · cases h; exact passkeyref23_Within_ok
    · cases h

theorem passkeylaw23_same_ok : SoundT Tryd.prog cd gdn 19 S_passkeylaw23_same :=
  sound_fn (E := E_passkeylaw23_same) (A := A_passkeylaw23_same) (done := []) (c := (Tryd.f19.body.getD .skip)) (S := S_passkeylaw23_same) (fn := Tryd.f19) hmix passkeylaw23_same_env Tryd.func19 rfl (by kernel_rfl) (by kernel_rfl) done_nil (by kernel_rfl) (by kernel_rfl) passkeylaw23_same_eq

def passkeylaw23_HostNames_L0b (y0 : (List UInt8)) (y1 : (List UInt8)) (y2 : Int) (y3 : (List UInt8)) (y4 : (List UInt8)) (y5 : Int) : Option (((List UInt8) × (List UInt8) × Int × (List UInt8) × (List UInt8) × Int × Unit) ⊕ ((List UInt8) × (List UInt8) × Int × (List UInt8) × (List UInt8) × Unit)) :=
 ((passkeycast_Mod y2 (70 : Int)).bind fun r4 => (bif (decide (y5 < r4.2.1)) then (bif Nat.ble ((y4).length + (([98] : List UInt8)).length) 9223372036854775807 then (some (Sum.inl (y0, y1, y2, y3, (y4 ++ ([98] : List UInt8)), (IntKind.wrap .i64 (y5 + (1 : Int))), ())))
 else none)
 else (some (Sum.inr (y0, y1, y2, y3, y4, ())))))

def passkeylaw23_HostNames_L0 (y : ((List UInt8) × (List UInt8) × Int × (List UInt8) × (List UInt8) × Int × Unit)) : Option ((List UInt8) × (List UInt8) × Int × (List UInt8) × (List UInt8) × Unit) := iter (fun (y : ((List UInt8) × (List UInt8) × Int × (List UInt8) × (List UInt8) × Int × Unit)) => passkeylaw23_HostNames_L0b y.1 y.2.1 y.2.2.1 y.2.2.2.1 y.2.2.2.2.1 y.2.2.2.2.2.1) rounds y

def passkeylaw23_HostNames (a0 : (List UInt8)) (a1 : (List UInt8)) (a2 : Int) (a3 : Int) : Option ((Unit) × (Bool × Unit)) :=
 (bif (decide ((300 : Int) < ((a0).length : Int))) then ((passkeylaw23_awake).bind fun r1 => (some ((), (r1.2.1, ()))))
 else (bif (decide ((300 : Int) < ((a1).length : Int))) then ((passkeylaw23_awake).bind fun r2 => (some ((), (r2.2.1, ()))))
 else ((passkeycast_Host a2).bind fun r3 => ((passkeylaw23_HostNames_L0 (a0, a1, a3, r3.2.1, ([97] : List UInt8), (0 : Int), ())).bind (fun (z5 : ((List UInt8) × (List UInt8) × Int × (List UInt8) × (List UInt8) × Unit)) => ((passkeylaw23_same z5.1 z5.2.1).bind fun r6 => (bif r6.2.1 then ((passkeycast_Host z5.2.2.1).bind fun r7 => ((passkeylaw23_same z5.2.2.2.1 r7.2.1).bind fun r8 => (bif r8.2.1 then (bif Nat.ble ((z5.2.2.2.1).length + (([46] : List UInt8)).length) 9223372036854775807 then ((passkeycast_Host z5.2.2.1).bind fun r9 => (bif Nat.ble (((z5.2.2.2.1 ++ ([46] : List UInt8))).length + (r9.2.1).length) 9223372036854775807 then ((passkeycast_Host z5.2.2.1).bind fun r10 => ((passkeylaw23_same ((z5.2.2.2.1 ++ ([46] : List UInt8)) ++ r9.2.1) r10.2.1).bind fun r11 => (bif r11.2.1 then (bif Nat.ble ((z5.2.2.2.2.1).length + (([46] : List UInt8)).length) 9223372036854775807 then (bif Nat.ble (((z5.2.2.2.2.1 ++ ([46] : List UInt8))).length + (z5.2.2.2.2.1).length) 9223372036854775807 then ((passkeylaw23_same ((z5.2.2.2.2.1 ++ ([46] : List UInt8)) ++ z5.2.2.2.2.1) z5.2.2.2.2.1).bind fun r12 => (bif r12.2.1 then (bif Nat.ble ((z5.1).length + (([46, 99, 111, 109] : List UInt8)).length) 9223372036854775807 then ((passkeylaw23_same (z5.1 ++ ([46, 99, 111, 109] : List UInt8)) ([99, 111, 109] : List UInt8)).bind fun r13 => (bif r13.2.1 then ((passkeylaw23_awake).bind fun r14 => (some ((), (r14.2.1, ()))))
 else (some ((), (false, ())))))
 else none)
 else (some ((), (false, ())))))
 else none)
 else none)
 else (some ((), (false, ()))))))
 else none))
 else none)
 else (some ((), (false, ()))))))
 else (some ((), (false, ()))))))))))

def S_passkeylaw23_HostNames : FSpec T := ⟨[.f (.v .str), .f (.v .str), .f (.v (.int .i64)), .f (.v (.int .i64))], [(.v .bool)], fun x => passkeylaw23_HostNames x.1 x.2.1 x.2.2.1 x.2.2.2.1⟩

def E_passkeylaw23_HostNames : Env T := ⟨tab.find, cd, globs, flc, fun f ds => match f with
    | 9 => some S_passkeylaw23_awake
    | 11 => some S_passkeycast_Host
    | 18 => some S_passkeycast_Mod
    | 19 => some S_passkeylaw23_same
    | _ => none, fun f => match f with
    | 9 => true
    | 11 => true
    | 18 => true
    | 19 => true
    | _ => false⟩

def A_passkeylaw23_HostNames : Loc2 T := ⟨fun id => match id with
    | 0 => some ⟨[(0, .f (.v .str)), (1, .f (.v .str)), (3, .f (.v (.int .i64))), (9, .f (.v .str)), (10, .f (.v .str)), (11, .f (.v (.int .i64)))], [(.exit 0, [(0, .f (.v .str)), (1, .f (.v .str)), (3, .f (.v (.int .i64))), (9, .f (.v .str)), (10, .f (.v .str))])], passkeylaw23_HostNames_L0, []⟩
    | _ => none, fun r => match r with
    | _ => none, fun r => match r with
    | _ => false⟩

theorem passkeylaw23_HostNames_L0_eq (y0 : (List UInt8)) (y1 : (List UInt8)) (y2 : Int) (y3 : (List UInt8)) (y4 : (List UInt8)) (y5 : Int) : run E_passkeylaw23_HostNames A_passkeylaw23_HostNames (loopAt 0 (Tryd.f5.body.getD .skip)) (layC cd [(0, .f (.v .str)), (1, .f (.v .str)), (3, .f (.v (.int .i64))), (9, .f (.v .str)), (10, .f (.v .str)), (11, .f (.v (.int .i64)))] [] (y0, y1, y2, y3, y4, y5, ())) (roundK cd [(0, .f (.v .str)), (1, .f (.v .str)), (3, .f (.v (.int .i64))), (9, .f (.v .str)), (10, .f (.v .str)), (11, .f (.v (.int .i64)))] [] [(.exit 0, [(0, .f (.v .str)), (1, .f (.v .str)), (3, .f (.v (.int .i64))), (9, .f (.v .str)), (10, .f (.v .str))])]) = passkeylaw23_HostNames_L0b y0 y1 y2 y3 y4 y5 := by kernel_rfl

theorem passkeylaw23_HostNames_eq (x : tySs T S_passkeylaw23_HostNames.ps) : run E_passkeylaw23_HostNames A_passkeylaw23_HostNames (Tryd.f5.body.getD .skip) (enterT E_passkeylaw23_HostNames.C S_passkeylaw23_HostNames.ps x) (retK E_passkeylaw23_HostNames Tryd.f5.results.toList S_passkeylaw23_HostNames.ps S_passkeylaw23_HostNames.rs) = S_passkeylaw23_HostNames.fn x := by kernel_rfl

theorem passkeylaw23_HostNames_env : EnvOk Tryd.prog E_passkeylaw23_HostNames := envOk (E := E_passkeylaw23_HostNames) cd_ok tys fl_ok fun f ds S h => by
    dsimp only [E_passkeylaw23_HostNames] at h
    split at h
    · cases h; exact passkeylaw23_awake_ok
    · cases h; exact passkeycast_Host_ok
    · cases h; exact passkeycast_Mod_ok
    · cases h; exact passkeylaw23_same_ok
    · cases h

theorem passkeylaw23_HostNames_L0_ok : LoopOk Tryd.prog E_passkeylaw23_HostNames Tryd.f5.ntmps (kqOf S_passkeylaw23_HostNames.ps 0) (loopAt 0 (Tryd.f5.body.getD .skip)) ⟨[(0, .f (.v .str)), (1, .f (.v .str)), (3, .f (.v (.int .i64))), (9, .f (.v .str)), (10, .f (.v .str)), (11, .f (.v (.int .i64)))], [(.exit 0, [(0, .f (.v .str)), (1, .f (.v .str)), (3, .f (.v (.int .i64))), (9, .f (.v .str)), (10, .f (.v .str))])], passkeylaw23_HostNames_L0, []⟩ :=
  loop_ok (A := A_passkeylaw23_HostNames) (done := []) (c0 := (Tryd.f5.body.getD .skip)) hmix passkeylaw23_HostNames_env done_nil rounds (by kernel_rfl) (by kernel_rfl) (fun x => passkeylaw23_HostNames_L0_eq x.1 x.2.1 x.2.2.1 x.2.2.2.1 x.2.2.2.2.1 x.2.2.2.2.2.1) (fun _ => rfl)

theorem passkeylaw23_HostNames_ok : SoundT Tryd.prog cd gdn 5 S_passkeylaw23_HostNames :=
  sound_fn (E := E_passkeylaw23_HostNames) (A := A_passkeylaw23_HostNames) (done := [0]) (c := (Tryd.f5.body.getD .skip)) (S := S_passkeylaw23_HostNames) (fn := Tryd.f5) hmix passkeylaw23_HostNames_env Tryd.func5 rfl (by kernel_rfl) (by kernel_rfl) (done_cons rfl passkeylaw23_HostNames_L0_ok done_nil) (by kernel_rfl) (by kernel_rfl) passkeylaw23_HostNames_eq

def passkeylaw23_HostBetween_L0b (y0 : (List (Int))) (y1 : (List (ApiSuffix))) (y2 : (List UInt8)) (y3 : Int) : Option (((List (Int)) × (List (ApiSuffix)) × (List UInt8) × Int × Unit) ⊕ ((List (ApiSuffix)) × (List UInt8) × Unit)) :=
 (bif (decide (y3 < ((y0).length : Int))) then (bif (decide (y3 < (4 : Int))) then (let v3 : List (List UInt8) := ([([97] : List UInt8), ([119, 119, 119] : List UInt8), ([98, 45, 49] : List UInt8), ([99, 111] : List UInt8)] : List (List UInt8))
 ((getI y0 y3).bind fun x4 => ((passkeycast_Mod x4 (4 : Int)).bind fun r5 => (bif (decide ((0 : Int) ≤ r5.2.1) && decide (r5.2.1 < (4 : Int))) then (((v3)[(r5.2.1).toNat]?).bind fun x6 => (bif Nat.ble ((x6).length + (([46] : List UInt8)).length) 9223372036854775807 then (bif Nat.ble (((x6 ++ ([46] : List UInt8))).length + (y2).length) 9223372036854775807 then (some (Sum.inl (y0, y1, ((x6 ++ ([46] : List UInt8)) ++ y2), (IntKind.wrap .i64 (y3 + (1 : Int))), ())))
 else none)
 else none))
 else none))))
 else (some (Sum.inr (y1, y2, ()))))
 else (some (Sum.inr (y1, y2, ()))))

def passkeylaw23_HostBetween_L0 (y : ((List (Int)) × (List (ApiSuffix)) × (List UInt8) × Int × Unit)) : Option ((List (ApiSuffix)) × (List UInt8) × Unit) := iter (fun (y : ((List (Int)) × (List (ApiSuffix)) × (List UInt8) × Int × Unit)) => passkeylaw23_HostBetween_L0b y.1 y.2.1 y.2.2.1 y.2.2.2.1) rounds y

def passkeylaw23_HostBetween_L2b (y0 : (List (ApiSuffix))) (y1 : (List UInt8)) (y2 : (List UInt8)) (y3 : (List UInt8)) : Option (((List (ApiSuffix)) × (List UInt8) × (List UInt8) × (List UInt8) × Unit) ⊕ ((Bool × Unit) ⊕ ((List (ApiSuffix)) × (List UInt8) × (List UInt8) × Unit))) :=
 (bif (!decide (y3 = y2)) then ((host_Registrable y0 y3).bind fun r13 => ((host_Labels y3).bind fun r14 => (bif (!r13.2.2.1) then (some (Sum.inr (Sum.inl (false, ()))))
 else (bif (!decide (r13.2.1 = y2)) then (some (Sum.inr (Sum.inl (false, ()))))
 else (bif (decide (((r14.2.1).length : Int) < (2 : Int))) then (some (Sum.inr (Sum.inl (false, ()))))
 else (bif decide ((0 : Int) < ((r14.2.1).length : Int)) then (((r14.2.1)[0]?).bind fun x15 => (bif (decide ((0 : Int) ≤ (IntKind.wrap .i64 (((x15).length : Int) + (1 : Int)))) && decide ((IntKind.wrap .i64 (((x15).length : Int) + (1 : Int))) ≤ ((y3).length : Int))) then (let v16 : List UInt8 := (List.drop ((IntKind.wrap .i64 (((x15).length : Int) + (1 : Int)))).toNat y3)
 (some (Sum.inl (y0, y1, y2, v16, ()))))
 else none))
 else none))))))
 else (some (Sum.inr (Sum.inr (y0, y1, y2, ())))))

def passkeylaw23_HostBetween_L2 (y : ((List (ApiSuffix)) × (List UInt8) × (List UInt8) × (List UInt8) × Unit)) : Option ((Bool × Unit) ⊕ ((List (ApiSuffix)) × (List UInt8) × (List UInt8) × Unit)) := iter (fun (y : ((List (ApiSuffix)) × (List UInt8) × (List UInt8) × (List UInt8) × Unit)) => passkeylaw23_HostBetween_L2b y.1 y.2.1 y.2.2.1 y.2.2.2.1) rounds y

def passkeylaw23_HostBetween (a0 : Int) (a1 : Int) (a2 : (List (Int))) : Option ((Unit) × (Bool × Unit)) :=
 ((passkeycast_Rules a0).bind fun r1 => ((passkeycast_Host a1).bind fun r2 => ((passkeylaw23_HostBetween_L0 (a2, r1.2.1, r2.2.1, (0 : Int), ())).bind (fun (z7 : ((List (ApiSuffix)) × (List UInt8) × Unit)) => ((host_Registrable z7.1 z7.2.1).bind fun r8 => ((host_Labels z7.2.1).bind fun r9 => (bif (!r8.2.2.1) then ((host_Public z7.1 z7.2.1).bind fun r10 => (bif (decide (((r9.2.1).length : Int) ≤ r10.2.1)) then ((passkeylaw23_awake).bind fun r11 => (some ((), (r11.2.1, ()))))
 else (some ((), (false, ())))))
 else ((host_Within z7.2.1 r8.2.1).bind fun r12 => (bif (!r12.2.1) then (some ((), (false, ())))
 else (bif (decide (((r9.2.1).length : Int) = (0 : Int))) then (some ((), (false, ())))
 else ((passkeylaw23_HostBetween_L2 (z7.1, z7.2.1, r8.2.1, z7.2.1, ())).bind (Sum.elim (fun (z17 : (Bool × Unit)) => (some ((), (z17.1, ())))) (fun (z18 : ((List (ApiSuffix)) × (List UInt8) × (List UInt8) × Unit)) => ((host_Registrable z18.1 z18.2.2.1).bind fun r19 => (bif r19.2.2.1 then (bif (decide (r19.2.1 = z18.2.2.1)) then ((host_Labels z18.2.2.1).bind fun r20 => ((host_Public z18.1 z18.2.1).bind fun r21 => (bif (decide (((r20.2.1).length : Int) = (IntKind.wrap .i64 (r21.2.1 + (1 : Int))))) then ((passkeylaw23_awake).bind fun r22 => (some ((), (r22.2.1, ()))))
 else (some ((), (false, ()))))))
 else (some ((), (false, ()))))
 else (some ((), (false, ()))))))))))))))))))

def S_passkeylaw23_HostBetween : FSpec T := ⟨[.f (.v (.int .i64)), .f (.v (.int .i64)), .f (.v (.rs 4))], [(.v .bool)], fun x => passkeylaw23_HostBetween x.1 x.2.1 x.2.2.1⟩

def E_passkeylaw23_HostBetween : Env T := ⟨tab.find, cd, globs, flc, fun f ds => match f with
    | 9 => some S_passkeylaw23_awake
    | 10 => some S_passkeycast_Rules
    | 11 => some S_passkeycast_Host
    | 12 => some S_host_Registrable
    | 14 => some S_host_Public
    | 17 => some S_host_Labels
    | 18 => some S_passkeycast_Mod
    | 20 => some S_host_Within
    | _ => none, fun f => match f with
    | 9 => true
    | 11 => true
    | 12 => true
    | 14 => true
    | 18 => true
    | 20 => true
    | _ => false⟩

def A_passkeylaw23_HostBetween : Loc2 T := ⟨fun id => match id with
    | 0 => some ⟨[(2, .f (.v (.rs 4))), (7, .f (.own 2)), (8, .f (.v .str)), (9, .f (.v (.int .i64)))], [(.exit 0, [(7, .f (.own 2)), (8, .f (.v .str))])], passkeylaw23_HostBetween_L0, []⟩
    | 2 => some ⟨[(7, .f (.own 2)), (8, .f (.v .str)), (10, .f (.v .str)), (13, .f (.v .str))], [(.ret, [(6, .f (.v .bool))]), (.exit 2, [(7, .f (.own 2)), (8, .f (.v .str)), (10, .f (.v .str))])], passkeylaw23_HostBetween_L2, []⟩
    | _ => none, fun r => match r with
    | _ => none, fun r => match r with
    | _ => false⟩

theorem passkeylaw23_HostBetween_L0_eq (y0 : (List (Int))) (y1 : (List (ApiSuffix))) (y2 : (List UInt8)) (y3 : Int) : run E_passkeylaw23_HostBetween A_passkeylaw23_HostBetween (loopAt 0 (Tryd.f6.body.getD .skip)) (layC cd [(2, .f (.v (.rs 4))), (7, .f (.own 2)), (8, .f (.v .str)), (9, .f (.v (.int .i64)))] [] (y0, y1, y2, y3, ())) (roundK cd [(2, .f (.v (.rs 4))), (7, .f (.own 2)), (8, .f (.v .str)), (9, .f (.v (.int .i64)))] [] [(.exit 0, [(7, .f (.own 2)), (8, .f (.v .str))])]) = passkeylaw23_HostBetween_L0b y0 y1 y2 y3 := by kernel_rfl

theorem passkeylaw23_HostBetween_L2_eq (y0 : (List (ApiSuffix))) (y1 : (List UInt8)) (y2 : (List UInt8)) (y3 : (List UInt8)) : run E_passkeylaw23_HostBetween A_passkeylaw23_HostBetween (loopAt 2 (Tryd.f6.body.getD .skip)) (layC cd [(7, .f (.own 2)), (8, .f (.v .str)), (10, .f (.v .str)), (13, .f (.v .str))] [] (y0, y1, y2, y3, ())) (roundK cd [(7, .f (.own 2)), (8, .f (.v .str)), (10, .f (.v .str)), (13, .f (.v .str))] [] [(.ret, [(6, .f (.v .bool))]), (.exit 2, [(7, .f (.own 2)), (8, .f (.v .str)), (10, .f (.v .str))])]) = passkeylaw23_HostBetween_L2b y0 y1 y2 y3 := by kernel_rfl

theorem passkeylaw23_HostBetween_eq (x : tySs T S_passkeylaw23_HostBetween.ps) : run E_passkeylaw23_HostBetween A_passkeylaw23_HostBetween (Tryd.f6.body.getD .skip) (enterT E_passkeylaw23_HostBetween.C S_passkeylaw23_HostBetween.ps x) (retK E_passkeylaw23_HostBetween Tryd.f6.results.toList S_passkeylaw23_HostBetween.ps S_passkeylaw23_HostBetween.rs) = S_passkeylaw23_HostBetween.fn x := by kernel_rfl

theorem passkeylaw23_HostBetween_env : EnvOk Tryd.prog E_passkeylaw23_HostBetween := envOk (E := E_passkeylaw23_HostBetween) cd_ok tys fl_ok fun f ds S h => by
    dsimp only [E_passkeylaw23_HostBetween] at h
    split at h
    · cases h; exact passkeylaw23_awake_ok
    · cases h; exact passkeycast_Rules_ok
    · cases h; exact passkeycast_Host_ok
    · cases h; exact host_Registrable_ok
    · cases h; exact host_Public_ok
    · cases h; exact host_Labels_ok
    · cases h; exact passkeycast_Mod_ok
    · cases h; exact host_Within_ok
    · cases h

theorem passkeylaw23_HostBetween_L0_ok : LoopOk Tryd.prog E_passkeylaw23_HostBetween Tryd.f6.ntmps (kqOf S_passkeylaw23_HostBetween.ps 0) (loopAt 0 (Tryd.f6.body.getD .skip)) ⟨[(2, .f (.v (.rs 4))), (7, .f (.own 2)), (8, .f (.v .str)), (9, .f (.v (.int .i64)))], [(.exit 0, [(7, .f (.own 2)), (8, .f (.v .str))])], passkeylaw23_HostBetween_L0, []⟩ :=
  loop_ok (A := A_passkeylaw23_HostBetween) (done := []) (c0 := (Tryd.f6.body.getD .skip)) hmix passkeylaw23_HostBetween_env done_nil rounds (by kernel_rfl) (by kernel_rfl) (fun x => passkeylaw23_HostBetween_L0_eq x.1 x.2.1 x.2.2.1 x.2.2.2.1) (fun _ => rfl)

theorem passkeylaw23_HostBetween_L2_ok : LoopOk Tryd.prog E_passkeylaw23_HostBetween Tryd.f6.ntmps (kqOf S_passkeylaw23_HostBetween.ps 0) (loopAt 2 (Tryd.f6.body.getD .skip)) ⟨[(7, .f (.own 2)), (8, .f (.v .str)), (10, .f (.v .str)), (13, .f (.v .str))], [(.ret, [(6, .f (.v .bool))]), (.exit 2, [(7, .f (.own 2)), (8, .f (.v .str)), (10, .f (.v .str))])], passkeylaw23_HostBetween_L2, []⟩ :=
  loop_ok (A := A_passkeylaw23_HostBetween) (done := [0]) (c0 := (Tryd.f6.body.getD .skip)) hmix passkeylaw23_HostBetween_env (done_cons rfl passkeylaw23_HostBetween_L0_ok done_nil) rounds (by kernel_rfl) (by kernel_rfl) (fun x => passkeylaw23_HostBetween_L2_eq x.1 x.2.1 x.2.2.1 x.2.2.2.1) (fun _ => rfl)

theorem passkeylaw23_HostBetween_ok : SoundT Tryd.prog cd gdn 6 S_passkeylaw23_HostBetween :=
  sound_fn (E := E_passkeylaw23_HostBetween) (A := A_passkeylaw23_HostBetween) (done := [0, 2]) (c := (Tryd.f6.body.getD .skip)) (S := S_passkeylaw23_HostBetween) (fn := Tryd.f6) hmix passkeylaw23_HostBetween_env Tryd.func6 rfl (by kernel_rfl) (by kernel_rfl) (done_cons rfl passkeylaw23_HostBetween_L0_ok (done_cons rfl passkeylaw23_HostBetween_L2_ok done_nil)) (by kernel_rfl) (by kernel_rfl) passkeylaw23_HostBetween_eq

def stringslite_HasPrefix (a0 : (List UInt8)) (a1 : (List UInt8)) : Option ((Unit) × (Bool × Unit)) :=
 (bif (decide (((a1).length : Int) ≤ ((a0).length : Int))) then (bif (decide ((0 : Int) ≤ ((a1).length : Int)) && decide (((a1).length : Int) ≤ ((a0).length : Int))) then (some ((), ((decide ((List.take (((a1).length : Int)).toNat a0) = a1)), ())))
 else none)
 else (some ((), (false, ()))))

def S_stringslite_HasPrefix : FSpec T := ⟨[.f (.v .str), .f (.v .str)], [(.v .bool)], fun x => stringslite_HasPrefix x.1 x.2.1⟩

def E_stringslite_HasPrefix : Env T := ⟨tab.find, cd, globs, flc, fun f ds => match f with
    | _ => none, fun f => match f with
    | _ => false⟩

def A_stringslite_HasPrefix : Loc2 T := ⟨fun id => match id with
    | _ => none, fun r => match r with
    | _ => none, fun r => match r with
    | _ => false⟩

theorem stringslite_HasPrefix_eq (x : tySs T S_stringslite_HasPrefix.ps) : run E_stringslite_HasPrefix A_stringslite_HasPrefix (Tryd.f60.body.getD .skip) (enterT E_stringslite_HasPrefix.C S_stringslite_HasPrefix.ps x) (retK E_stringslite_HasPrefix Tryd.f60.results.toList S_stringslite_HasPrefix.ps S_stringslite_HasPrefix.rs) = S_stringslite_HasPrefix.fn x := by kernel_rfl

theorem stringslite_HasPrefix_env : EnvOk Tryd.prog E_stringslite_HasPrefix := envOk (E := E_stringslite_HasPrefix) cd_ok tys fl_ok fun f ds S h => by cases h

theorem stringslite_HasPrefix_ok : SoundT Tryd.prog cd gdn 60 S_stringslite_HasPrefix :=
  sound_fn (E := E_stringslite_HasPrefix) (A := A_stringslite_HasPrefix) (done := []) (c := (Tryd.f60.body.getD .skip)) (S := S_stringslite_HasPrefix) (fn := Tryd.f60) hmix stringslite_HasPrefix_env Tryd.func60 rfl (by kernel_rfl) (by kernel_rfl) done_nil (by kernel_rfl) (by kernel_rfl) stringslite_HasPrefix_eq

def stringslite_CutPrefix (a0 : (List UInt8)) (a1 : (List UInt8)) : Option ((Unit) × ((List UInt8) × Bool × Unit)) :=
 ((stringslite_HasPrefix a0 a1).bind fun r1 => (bif (!r1.2.1) then (some ((), (a0, false, ())))
 else (bif (decide ((0 : Int) ≤ ((a1).length : Int)) && decide (((a1).length : Int) ≤ ((a0).length : Int))) then (some ((), ((List.drop (((a1).length : Int)).toNat a0), true, ())))
 else none)))

def S_stringslite_CutPrefix : FSpec T := ⟨[.f (.v .str), .f (.v .str)], [(.v .str), (.v .bool)], fun x => stringslite_CutPrefix x.1 x.2.1⟩

def E_stringslite_CutPrefix : Env T := ⟨tab.find, cd, globs, flc, fun f ds => match f with
    | 60 => some S_stringslite_HasPrefix
    | _ => none, fun f => match f with
    | 60 => true
    | _ => false⟩

def A_stringslite_CutPrefix : Loc2 T := ⟨fun id => match id with
    | _ => none, fun r => match r with
    | _ => none, fun r => match r with
    | _ => false⟩

theorem stringslite_CutPrefix_eq (x : tySs T S_stringslite_CutPrefix.ps) : run E_stringslite_CutPrefix A_stringslite_CutPrefix (Tryd.f47.body.getD .skip) (enterT E_stringslite_CutPrefix.C S_stringslite_CutPrefix.ps x) (retK E_stringslite_CutPrefix Tryd.f47.results.toList S_stringslite_CutPrefix.ps S_stringslite_CutPrefix.rs) = S_stringslite_CutPrefix.fn x := by kernel_rfl

theorem stringslite_CutPrefix_env : EnvOk Tryd.prog E_stringslite_CutPrefix := envOk (E := E_stringslite_CutPrefix) cd_ok tys fl_ok fun f ds S h => by
    dsimp only [E_stringslite_CutPrefix] at h
    split at h
    · cases h; exact stringslite_HasPrefix_ok
    · cases h

theorem stringslite_CutPrefix_ok : SoundT Tryd.prog cd gdn 47 S_stringslite_CutPrefix :=
  sound_fn (E := E_stringslite_CutPrefix) (A := A_stringslite_CutPrefix) (done := []) (c := (Tryd.f47.body.getD .skip)) (S := S_stringslite_CutPrefix) (fn := Tryd.f47) hmix stringslite_CutPrefix_env Tryd.func47 rfl (by kernel_rfl) (by kernel_rfl) done_nil (by kernel_rfl) (by kernel_rfl) stringslite_CutPrefix_eq

def strings_CutPrefix (a0 : (List UInt8)) (a1 : (List UInt8)) : Option ((Unit) × ((List UInt8) × Bool × Unit)) :=
 ((stringslite_CutPrefix a0 a1).bind fun r1 => (some ((), (r1.2.1, r1.2.2.1, ()))))

def S_strings_CutPrefix : FSpec T := ⟨[.f (.v .str), .f (.v .str)], [(.v .str), (.v .bool)], fun x => strings_CutPrefix x.1 x.2.1⟩

def E_strings_CutPrefix : Env T := ⟨tab.find, cd, globs, flc, fun f ds => match f with
    | 47 => some S_stringslite_CutPrefix
    | _ => none, fun f => match f with
    | 47 => true
    | _ => false⟩

def A_strings_CutPrefix : Loc2 T := ⟨fun id => match id with
    | _ => none, fun r => match r with
    | _ => none, fun r => match r with
    | _ => false⟩

theorem strings_CutPrefix_eq (x : tySs T S_strings_CutPrefix.ps) : run E_strings_CutPrefix A_strings_CutPrefix (Tryd.f37.body.getD .skip) (enterT E_strings_CutPrefix.C S_strings_CutPrefix.ps x) (retK E_strings_CutPrefix Tryd.f37.results.toList S_strings_CutPrefix.ps S_strings_CutPrefix.rs) = S_strings_CutPrefix.fn x := by kernel_rfl

theorem strings_CutPrefix_env : EnvOk Tryd.prog E_strings_CutPrefix := envOk (E := E_strings_CutPrefix) cd_ok tys fl_ok fun f ds S h => by
    dsimp only [E_strings_CutPrefix] at h
    split at h
    · cases h; exact stringslite_CutPrefix_ok
    · cases h

theorem strings_CutPrefix_ok : SoundT Tryd.prog cd gdn 37 S_strings_CutPrefix :=
  sound_fn (E := E_strings_CutPrefix) (A := A_strings_CutPrefix) (done := []) (c := (Tryd.f37.body.getD .skip)) (S := S_strings_CutPrefix) (fn := Tryd.f37) hmix strings_CutPrefix_env Tryd.func37 rfl (by kernel_rfl) (by kernel_rfl) done_nil (by kernel_rfl) (by kernel_rfl) strings_CutPrefix_eq

def host_ParseRule (a0 : (List UInt8)) : Option ((Unit) × (ApiSuffix × Int × Unit)) :=
 ((strings_CutPrefix a0 ([42, 46] : List UInt8)).bind fun r1 => ((bif (!r1.2.2.1) then ((strings_CutPrefix a0 ([33] : List UInt8)).bind fun r2 => (some (((⟨[], false, false⟩ : ApiSuffix), ()), r2.2.1, r1.2.2.1, r2.2.2.1, ())))
 else (some (((⟨[], false, false⟩ : ApiSuffix), ()), r1.2.1, r1.2.2.1, false, ()))).bind (fun (j3 : ((ApiSuffix × Unit) × (List UInt8) × Bool × Bool × Unit)) => ((host_Labels j3.2.1).bind fun r4 => (bif (decide (((r4.2.1).length : Int) = (0 : Int))) then (some ((), ((⟨[], false, false⟩ : ApiSuffix), (2 : Int), ())))
 else (bif j3.2.2.2.1 then (bif (decide (((r4.2.1).length : Int) < (2 : Int))) then (some ((), ((⟨[], false, false⟩ : ApiSuffix), (2 : Int), ())))
 else (some ((), ((⟨r4.2.1, j3.2.2.1, j3.2.2.2.1⟩ : ApiSuffix), (0 : Int), ()))))
 else (some ((), ((⟨r4.2.1, j3.2.2.1, j3.2.2.2.1⟩ : ApiSuffix), (0 : Int), ())))))))))

def S_host_ParseRule : FSpec T := ⟨[.f (.v .str)], [(.v (.agg 2)), (.v (.int .i64))], fun x => host_ParseRule x.1⟩

def E_host_ParseRule : Env T := ⟨tab.find, cd, globs, flc, fun f ds => match f with
    | 17 => some S_host_Labels
    | 37 => some S_strings_CutPrefix
    | _ => none, fun f => match f with
    | 37 => true
    | _ => false⟩

def A_host_ParseRule : Loc2 T := ⟨fun id => match id with
    | _ => none, fun r => match r with
    | 5 => some ([(2, .ptr [(.v (.agg 2))]), (4, .f (.v .str)), (5, .f (.v .bool)), (6, .f (.v .bool))], true)
    | _ => none, fun r => match r with
    | _ => false⟩

theorem host_ParseRule_eq (x : tySs T S_host_ParseRule.ps) : run E_host_ParseRule A_host_ParseRule (Tryd.f21.body.getD .skip) (enterT E_host_ParseRule.C S_host_ParseRule.ps x) (retK E_host_ParseRule Tryd.f21.results.toList S_host_ParseRule.ps S_host_ParseRule.rs) = S_host_ParseRule.fn x := by kernel_rfl

theorem host_ParseRule_env : EnvOk Tryd.prog E_host_ParseRule := envOk (E := E_host_ParseRule) cd_ok tys fl_ok fun f ds S h => by
    dsimp only [E_host_ParseRule] at h
    split at h
    · cases h; exact host_Labels_ok
    · cases h; exact strings_CutPrefix_ok
    · cases h

theorem host_ParseRule_ok : SoundT Tryd.prog cd gdn 21 S_host_ParseRule :=
  sound_fn (E := E_host_ParseRule) (A := A_host_ParseRule) (done := []) (c := (Tryd.f21.body.getD .skip)) (S := S_host_ParseRule) (fn := Tryd.f21) hmix host_ParseRule_env Tryd.func21 rfl (by kernel_rfl) (by kernel_rfl) done_nil (by kernel_rfl) (by kernel_rfl) host_ParseRule_eq

def passkeyref23_ParseRule (a0 : (List UInt8)) : Option ((Unit) × (ApiSuffix × Int × Unit)) :=
 ((bif (decide ((1 : Int) < ((a0).length : Int))) then (bif decide ((2 : Int) ≤ ((a0).length : Int)) then (bif (decide ((List.take 2 a0) = ([42, 46] : List UInt8))) then (bif decide ((2 : Int) ≤ ((a0).length : Int)) then (some (((⟨[], false, false⟩ : ApiSuffix), ()), ((⟨[], true, false⟩ : ApiSuffix), ()), (List.drop 2 a0), ()))
 else none)
 else (bif (decide ((0 : Int) < ((a0).length : Int))) then ((getI a0 (0 : Int)).bind fun x1 => (bif (decide (x1.toBitVec = (33 : UInt8).toBitVec)) then (bif decide ((1 : Int) ≤ ((a0).length : Int)) then (some (((⟨[], false, false⟩ : ApiSuffix), ()), ((⟨[], false, true⟩ : ApiSuffix), ()), (List.drop 1 a0), ()))
 else none)
 else (some (((⟨[], false, false⟩ : ApiSuffix), ()), ((⟨[], false, false⟩ : ApiSuffix), ()), a0, ()))))
 else (some (((⟨[], false, false⟩ : ApiSuffix), ()), ((⟨[], false, false⟩ : ApiSuffix), ()), a0, ()))))
 else none)
 else (bif (decide ((0 : Int) < ((a0).length : Int))) then ((getI a0 (0 : Int)).bind fun x2 => (bif (decide (x2.toBitVec = (33 : UInt8).toBitVec)) then (bif decide ((1 : Int) ≤ ((a0).length : Int)) then (some (((⟨[], false, false⟩ : ApiSuffix), ()), ((⟨[], false, true⟩ : ApiSuffix), ()), (List.drop 1 a0), ()))
 else none)
 else (some (((⟨[], false, false⟩ : ApiSuffix), ()), ((⟨[], false, false⟩ : ApiSuffix), ()), a0, ()))))
 else (some (((⟨[], false, false⟩ : ApiSuffix), ()), ((⟨[], false, false⟩ : ApiSuffix), ()), a0, ())))).bind (fun (j3 : ((ApiSuffix × Unit) × (ApiSuffix × Unit) × (List UInt8) × Unit)) => ((passkeyref23_Labels j3.2.2.1).bind fun r4 => (bif (decide (((r4.2.1).length : Int) = (0 : Int))) then (some ((), ((⟨[], false, false⟩ : ApiSuffix), (2 : Int), ())))
 else (bif j3.2.1.1.except then (bif (decide (((r4.2.1).length : Int) < (2 : Int))) then (some ((), ((⟨[], false, false⟩ : ApiSuffix), (2 : Int), ())))
 else (some ((), ((⟨r4.2.1, j3.2.1.1.wild, j3.2.1.1.except⟩ : ApiSuffix), (0 : Int), ()))))
 else (some ((), ((⟨r4.2.1, j3.2.1.1.wild, j3.2.1.1.except⟩ : ApiSuffix), (0 : Int), ()))))))))

def S_passkeyref23_ParseRule : FSpec T := ⟨[.f (.v .str)], [(.v (.agg 2)), (.v (.int .i64))], fun x => passkeyref23_ParseRule x.1⟩

def E_passkeyref23_ParseRule : Env T := ⟨tab.find, cd, globs, flc, fun f ds => match f with
    | 16 => some S_passkeyref23_Labels
    | _ => none, fun f => match f with
    | _ => false⟩

def A_passkeyref23_ParseRule : Loc2 T := ⟨fun id => match id with
    | _ => none, fun r => match r with
    | 7 => some ([(2, .ptr [(.v (.agg 2))]), (4, .ptr [(.v (.agg 2))]), (5, .f (.v .str))], true)
    | _ => none, fun r => match r with
    | _ => false⟩

theorem passkeyref23_ParseRule_eq (x : tySs T S_passkeyref23_ParseRule.ps) : run E_passkeyref23_ParseRule A_passkeyref23_ParseRule (Tryd.f22.body.getD .skip) (enterT E_passkeyref23_ParseRule.C S_passkeyref23_ParseRule.ps x) (retK E_passkeyref23_ParseRule Tryd.f22.results.toList S_passkeyref23_ParseRule.ps S_passkeyref23_ParseRule.rs) = S_passkeyref23_ParseRule.fn x := by kernel_rfl

theorem passkeyref23_ParseRule_env : EnvOk Tryd.prog E_passkeyref23_ParseRule := envOk (E := E_passkeyref23_ParseRule) cd_ok tys fl_ok fun f ds S h => by
    dsimp only [E_passkeyref23_ParseRule] at h
    split at h
    · cases h; exact passkeyref23_Labels_ok
    · cases h

theorem passkeyref23_ParseRule_ok : SoundT Tryd.prog cd gdn 22 S_passkeyref23_ParseRule :=
  sound_fn (E := E_passkeyref23_ParseRule) (A := A_passkeyref23_ParseRule) (done := []) (c := (Tryd.f22.body.getD .skip)) (S := S_passkeyref23_ParseRule) (fn := Tryd.f22) hmix passkeyref23_ParseRule_env Tryd.func22 rfl (by kernel_rfl) (by kernel_rfl) done_nil (by kernel_rfl) (by kernel_rfl) passkeyref23_ParseRule_eq

def passkeyref23_SameRule (a0 : ApiSuffix) (a1 : ApiSuffix) : Option ((Unit) × (Bool × Unit)) :=
 ((passkeyref23_SameTexts a0.labels a1.labels).bind fun r1 => (bif r1.2.1 then (bif (a0.wild == a1.wild) then (some ((), ((a0.except == a1.except), ())))
 else (some ((), (false, ()))))
 else (some ((), (false, ())))))

def S_passkeyref23_SameRule : FSpec T := ⟨[.f (.v (.agg 2)), .f (.v (.agg 2))], [(.v .bool)], fun x => passkeyref23_SameRule x.1 x.2.1⟩

def E_passkeyref23_SameRule : Env T := ⟨tab.find, cd, globs, flc, fun f ds => match f with
    | 34 => some S_passkeyref23_SameTexts
    | _ => none, fun f => match f with
    | 34 => true
    | _ => false⟩

def A_passkeyref23_SameRule : Loc2 T := ⟨fun id => match id with
    | _ => none, fun r => match r with
    | _ => none, fun r => match r with
    | _ => false⟩

theorem passkeyref23_SameRule_eq (x : tySs T S_passkeyref23_SameRule.ps) : run E_passkeyref23_SameRule A_passkeyref23_SameRule (Tryd.f23.body.getD .skip) (enterT E_passkeyref23_SameRule.C S_passkeyref23_SameRule.ps x) (retK E_passkeyref23_SameRule Tryd.f23.results.toList S_passkeyref23_SameRule.ps S_passkeyref23_SameRule.rs) = S_passkeyref23_SameRule.fn x := by kernel_rfl

theorem passkeyref23_SameRule_env : EnvOk Tryd.prog E_passkeyref23_SameRule := envOk (E := E_passkeyref23_SameRule) cd_ok tys fl_ok fun f ds S h => by
    dsimp only [E_passkeyref23_SameRule] at h
    split at h
    · cases h; exact passkeyref23_SameTexts_ok
    · cases h

theorem passkeyref23_SameRule_ok : SoundT Tryd.prog cd gdn 23 S_passkeyref23_SameRule :=
  sound_fn (E := E_passkeyref23_SameRule) (A := A_passkeyref23_SameRule) (done := []) (c := (Tryd.f23.body.getD .skip)) (S := S_passkeyref23_SameRule) (fn := Tryd.f23) hmix passkeyref23_SameRule_env Tryd.func23 rfl (by kernel_rfl) (by kernel_rfl) done_nil (by kernel_rfl) (by kernel_rfl) passkeyref23_SameRule_eq

def passkeylaw23_HostRules_L0b (y0 : (List UInt8)) (y1 : Int) (y2 : Int) (y3 : (ApiSuffix × Unit)) (y4 : Int) : Option (((List UInt8) × Int × Int × (ApiSuffix × Unit) × Int × Unit) ⊕ ((Bool × Unit) ⊕ ((List UInt8) × Int × Int × (ApiSuffix × Unit) × Unit))) :=
 (bif (decide (y4 < ((y3.1.labels).length : Int))) then ((getI y3.1.labels y4).bind fun x3 => (bif (decide ((100 : Int) < ((x3).length : Int))) then ((passkeylaw23_awake).bind fun r4 => (some (Sum.inr (Sum.inl (r4.2.1, ())))))
 else (some (Sum.inl (y0, y1, y2, (y3.1, ()), (IntKind.wrap .i64 (y4 + (1 : Int))), ())))))
 else (some (Sum.inr (Sum.inr (y0, y1, y2, (y3.1, ()), ())))))

def passkeylaw23_HostRules_L0 (y : ((List UInt8) × Int × Int × (ApiSuffix × Unit) × Int × Unit)) : Option ((Bool × Unit) ⊕ ((List UInt8) × Int × Int × (ApiSuffix × Unit) × Unit)) := iter (fun (y : ((List UInt8) × Int × Int × (ApiSuffix × Unit) × Int × Unit)) => passkeylaw23_HostRules_L0b y.1 y.2.1 y.2.2.1 y.2.2.2.1 y.2.2.2.2.1) rounds y

def passkeylaw23_HostRules_L2b (y0 : (ApiSuffix × Unit)) (y1 : ((List (List UInt8)) × Bool × Bool × Unit)) (y2 : (List (List UInt8))) (y3 : Int) (y4 : Int) : Option (((ApiSuffix × Unit) × ((List (List UInt8)) × Bool × Bool × Unit) × (List (List UInt8)) × Int × Int × Unit) ⊕ ((Bool × Unit) ⊕ ((ApiSuffix × Unit) × ((List (List UInt8)) × Bool × Bool × Unit) × Unit))) :=
 (bif (decide (y4 < y3)) then (bif (decide ((0 : Int) ≤ y4) && decide (y4 < ((y2).length : Int))) then (((y2)[(y4).toNat]?).bind fun x15 => ((host_ParseRule x15).bind fun r16 => ((passkeyref23_ParseRule x15).bind fun r17 => ((passkeyref23_SameRule r16.2.1 r17.2.1).bind fun r18 => (bif (!r18.2.1) then (some (Sum.inr (Sum.inl (false, ()))))
 else (bif (!decide (r16.2.2.1 = r17.2.2.1)) then (some (Sum.inr (Sum.inl (false, ()))))
 else (some (Sum.inl ((y0.1, ()), (y1.1, y1.2.1, y1.2.2.1, ()), y2, y3, (IntKind.wrap .i64 (y4 + (1 : Int))), ())))))))))
 else none)
 else (some (Sum.inr (Sum.inr ((y0.1, ()), (y1.1, y1.2.1, y1.2.2.1, ()), ())))))

def passkeylaw23_HostRules_L2 (y : ((ApiSuffix × Unit) × ((List (List UInt8)) × Bool × Bool × Unit) × (List (List UInt8)) × Int × Int × Unit)) : Option ((Bool × Unit) ⊕ ((ApiSuffix × Unit) × ((List (List UInt8)) × Bool × Bool × Unit) × Unit)) := iter (fun (y : ((ApiSuffix × Unit) × ((List (List UInt8)) × Bool × Bool × Unit) × (List (List UInt8)) × Int × Int × Unit)) => passkeylaw23_HostRules_L2b y.1 y.2.1 y.2.2.1 y.2.2.2.1 y.2.2.2.2.1) rounds y

def passkeylaw23_HostRules (a0 : (List UInt8)) (a1 : ApiSuffix) (a2 : Int) (a3 : Int) : Option ((Unit) × (Bool × Unit)) :=
 (bif (decide ((200 : Int) < ((a0).length : Int))) then ((passkeylaw23_awake).bind fun r1 => (some ((), (r1.2.1, ()))))
 else (bif (decide ((20 : Int) < ((a1.labels).length : Int))) then ((passkeylaw23_awake).bind fun r2 => (some ((), (r2.2.1, ()))))
 else ((passkeylaw23_HostRules_L0 (a0, a2, a3, (a1, ()), (0 : Int), ())).bind (Sum.elim (fun (z5 : (Bool × Unit)) => (some ((), (z5.1, ())))) (fun (z6 : ((List UInt8) × Int × Int × (ApiSuffix × Unit) × Unit)) => ((passkeycast_Host z6.2.1).bind fun r7 => ((passkeyref23_Labels r7.2.1).bind fun r8 => (let v9 : Int := (IntKind.wrap .i64 ((BitVec.ofInt (IntKind.bits .i64) z6.2.2.1 &&& BitVec.ofInt (IntKind.bits .i64) (1 : Int)).toNat : Int))
 (let v10 : Int := (IntKind.wrap .i64 ((BitVec.ofInt (IntKind.bits .i64) z6.2.2.1 &&& BitVec.ofInt (IntKind.bits .i64) (2 : Int)).toNat : Int))
 (let v11 : List (List UInt8) := ([([] : List UInt8), ([42, 46] : List UInt8), ([33] : List UInt8), ([42] : List UInt8), ([33, 42, 46] : List UInt8)] : List (List UInt8))
 ((passkeycast_Mod z6.2.2.1 (5 : Int)).bind fun r12 => (bif (decide ((0 : Int) ≤ r12.2.1) && decide (r12.2.1 < (5 : Int))) then (((v11)[(r12.2.1).toNat]?).bind fun x13 => ((passkeycast_Host z6.2.1).bind fun r14 => (bif Nat.ble ((x13).length + (r14.2.1).length) 9223372036854775807 then ((passkeylaw23_HostRules_L2 ((z6.2.2.2.1.1, ()), (r8.2.1, (decide (v9 = (1 : Int))), (decide (v10 = (2 : Int))), ()), ([z6.1, (x13 ++ r14.2.1)] : List (List UInt8)), (2 : Int), (0 : Int), ())).bind (Sum.elim (fun (z19 : (Bool × Unit)) => (some ((), (z19.1, ())))) (fun (z20 : ((ApiSuffix × Unit) × ((List (List UInt8)) × Bool × Bool × Unit) × Unit)) => ((host_FormatRule z20.1.1).bind fun r21 => ((passkeyref23_FormatRule z20.1.1).bind fun r22 => ((host_FormatRule (⟨z20.2.1.1, z20.2.1.2.1, z20.2.1.2.2.1⟩ : ApiSuffix)).bind fun r23 => ((passkeyref23_FormatRule (⟨z20.2.1.1, z20.2.1.2.1, z20.2.1.2.2.1⟩ : ApiSuffix)).bind fun r24 => (bif (decide (r21.2.1 = r22.2.1)) then (bif (decide (r21.2.2.1 = r22.2.2.1)) then (bif (decide (r23.2.1 = r24.2.1)) then (bif (decide (r23.2.2.1 = r24.2.2.1)) then ((passkeylaw23_awake).bind fun r25 => (some ((), (r25.2.1, ()))))
 else (some ((), (false, ()))))
 else (some ((), (false, ()))))
 else (some ((), (false, ()))))
 else (some ((), (false, ())))))))))))
 else none)))
 else none))))))))))))

def S_passkeylaw23_HostRules : FSpec T := ⟨[.f (.v .str), .f (.v (.agg 2)), .f (.v (.int .i64)), .f (.v (.int .i64))], [(.v .bool)], fun x => passkeylaw23_HostRules x.1 x.2.1 x.2.2.1 x.2.2.2.1⟩

def E_passkeylaw23_HostRules : Env T := ⟨tab.find, cd, globs, flc, fun f ds => match f with
    | 9 => some S_passkeylaw23_awake
    | 11 => some S_passkeycast_Host
    | 16 => some S_passkeyref23_Labels
    | 18 => some S_passkeycast_Mod
    | 21 => some S_host_ParseRule
    | 22 => some S_passkeyref23_ParseRule
    | 23 => some S_passkeyref23_SameRule
    | 24 => some S_host_FormatRule
    | 25 => some S_passkeyref23_FormatRule
    | _ => none, fun f => match f with
    | 9 => true
    | 11 => true
    | 18 => true
    | 23 => true
    | 24 => true
    | 25 => true
    | _ => false⟩

def A_passkeylaw23_HostRules : Loc2 T := ⟨fun id => match id with
    | 0 => some ⟨[(0, .f (.v .str)), (2, .f (.v (.int .i64))), (3, .f (.v (.int .i64))), (5, .ptr [(.v (.agg 2))]), (9, .f (.v (.int .i64)))], [(.ret, [(8, .f (.v .bool))]), (.exit 0, [(0, .f (.v .str)), (2, .f (.v (.int .i64))), (3, .f (.v (.int .i64))), (5, .ptr [(.v (.agg 2))])])], passkeylaw23_HostRules_L0, []⟩
    | 2 => some ⟨[(5, .ptr [(.v (.agg 2))]), (10, .ptr [(.own 1), (.v .bool), (.v .bool)]), (69, .f (.own 1)), (70, .f (.v (.int .i64))), (71, .f (.v (.int .i64)))], [(.ret, [(8, .f (.v .bool))]), (.exit 2, [(5, .ptr [(.v (.agg 2))]), (10, .ptr [(.own 1), (.v .bool), (.v .bool)])])], passkeylaw23_HostRules_L2, []⟩
    | _ => none, fun r => match r with
    | _ => none, fun r => match r with
    | 9 => true
    | _ => false⟩

theorem passkeylaw23_HostRules_L0_eq (y0 : (List UInt8)) (y1 : Int) (y2 : Int) (y3 : (ApiSuffix × Unit)) (y4 : Int) : run E_passkeylaw23_HostRules A_passkeylaw23_HostRules (loopAt 0 (Tryd.f7.body.getD .skip)) (layC cd [(0, .f (.v .str)), (2, .f (.v (.int .i64))), (3, .f (.v (.int .i64))), (5, .ptr [(.v (.agg 2))]), (9, .f (.v (.int .i64)))] [] (y0, y1, y2, y3, y4, ())) (roundK cd [(0, .f (.v .str)), (2, .f (.v (.int .i64))), (3, .f (.v (.int .i64))), (5, .ptr [(.v (.agg 2))]), (9, .f (.v (.int .i64)))] [] [(.ret, [(8, .f (.v .bool))]), (.exit 0, [(0, .f (.v .str)), (2, .f (.v (.int .i64))), (3, .f (.v (.int .i64))), (5, .ptr [(.v (.agg 2))])])]) = passkeylaw23_HostRules_L0b y0 y1 y2 y3 y4 := by kernel_rfl

theorem passkeylaw23_HostRules_L2_eq (y0 : (ApiSuffix × Unit)) (y1 : ((List (List UInt8)) × Bool × Bool × Unit)) (y2 : (List (List UInt8))) (y3 : Int) (y4 : Int) : run E_passkeylaw23_HostRules A_passkeylaw23_HostRules (loopAt 2 (Tryd.f7.body.getD .skip)) (layC cd [(5, .ptr [(.v (.agg 2))]), (10, .ptr [(.own 1), (.v .bool), (.v .bool)]), (69, .f (.own 1)), (70, .f (.v (.int .i64))), (71, .f (.v (.int .i64)))] [] (y0, y1, y2, y3, y4, ())) (roundK cd [(5, .ptr [(.v (.agg 2))]), (10, .ptr [(.own 1), (.v .bool), (.v .bool)]), (69, .f (.own 1)), (70, .f (.v (.int .i64))), (71, .f (.v (.int .i64)))] [] [(.ret, [(8, .f (.v .bool))]), (.exit 2, [(5, .ptr [(.v (.agg 2))]), (10, .ptr [(.own 1), (.v .bool), (.v .bool)])])]) = passkeylaw23_HostRules_L2b y0 y1 y2 y3 y4 := by kernel_rfl

theorem passkeylaw23_HostRules_eq (x : tySs T S_passkeylaw23_HostRules.ps) : run E_passkeylaw23_HostRules A_passkeylaw23_HostRules (Tryd.f7.body.getD .skip) (enterT E_passkeylaw23_HostRules.C S_passkeylaw23_HostRules.ps x) (retK E_passkeylaw23_HostRules Tryd.f7.results.toList S_passkeylaw23_HostRules.ps S_passkeylaw23_HostRules.rs) = S_passkeylaw23_HostRules.fn x := by kernel_rfl

theorem passkeylaw23_HostRules_env : EnvOk Tryd.prog E_passkeylaw23_HostRules := envOk (E := E_passkeylaw23_HostRules) cd_ok tys fl_ok fun f ds S h => by
    dsimp only [E_passkeylaw23_HostRules] at h
    split at h
    · cases h; exact passkeylaw23_awake_ok
    · cases h; exact passkeycast_Host_ok
    · cases h; exact passkeyref23_Labels_ok
    · cases h; exact passkeycast_Mod_ok
    · cases h; exact host_ParseRule_ok
    · cases h; exact passkeyref23_ParseRule_ok
    · cases h; exact passkeyref23_SameRule_ok
    · cases h; exact host_FormatRule_ok
    · cases h; exact passkeyref23_FormatRule_ok
    · cases h

theorem passkeylaw23_HostRules_L0_ok : LoopOk Tryd.prog E_passkeylaw23_HostRules Tryd.f7.ntmps (kqOf S_passkeylaw23_HostRules.ps 0) (loopAt 0 (Tryd.f7.body.getD .skip)) ⟨[(0, .f (.v .str)), (2, .f (.v (.int .i64))), (3, .f (.v (.int .i64))), (5, .ptr [(.v (.agg 2))]), (9, .f (.v (.int .i64)))], [(.ret, [(8, .f (.v .bool))]), (.exit 0, [(0, .f (.v .str)), (2, .f (.v (.int .i64))), (3, .f (.v (.int .i64))), (5, .ptr [(.v (.agg 2))])])], passkeylaw23_HostRules_L0, []⟩ :=
  loop_ok (A := A_passkeylaw23_HostRules) (done := []) (c0 := (Tryd.f7.body.getD .skip)) hmix passkeylaw23_HostRules_env done_nil rounds (by kernel_rfl) (by kernel_rfl) (fun x => passkeylaw23_HostRules_L0_eq x.1 x.2.1 x.2.2.1 x.2.2.2.1 x.2.2.2.2.1) (fun _ => rfl)

theorem passkeylaw23_HostRules_L2_ok : LoopOk Tryd.prog E_passkeylaw23_HostRules Tryd.f7.ntmps (kqOf S_passkeylaw23_HostRules.ps 0) (loopAt 2 (Tryd.f7.body.getD .skip)) ⟨[(5, .ptr [(.v (.agg 2))]), (10, .ptr [(.own 1), (.v .bool), (.v .bool)]), (69, .f (.own 1)), (70, .f (.v (.int .i64))), (71, .f (.v (.int .i64)))], [(.ret, [(8, .f (.v .bool))]), (.exit 2, [(5, .ptr [(.v (.agg 2))]), (10, .ptr [(.own 1), (.v .bool), (.v .bool)])])], passkeylaw23_HostRules_L2, []⟩ :=
  loop_ok (A := A_passkeylaw23_HostRules) (done := [0]) (c0 := (Tryd.f7.body.getD .skip)) hmix passkeylaw23_HostRules_env (done_cons rfl passkeylaw23_HostRules_L0_ok done_nil) rounds (by kernel_rfl) (by kernel_rfl) (fun x => passkeylaw23_HostRules_L2_eq x.1 x.2.1 x.2.2.1 x.2.2.2.1 x.2.2.2.2.1) (fun _ => rfl)

theorem passkeylaw23_HostRules_ok : SoundT Tryd.prog cd gdn 7 S_passkeylaw23_HostRules :=
  sound_fn (E := E_passkeylaw23_HostRules) (A := A_passkeylaw23_HostRules) (done := [0, 2]) (c := (Tryd.f7.body.getD .skip)) (S := S_passkeylaw23_HostRules) (fn := Tryd.f7) hmix passkeylaw23_HostRules_env Tryd.func7 rfl (by kernel_rfl) (by kernel_rfl) (done_cons rfl passkeylaw23_HostRules_L0_ok (done_cons rfl passkeylaw23_HostRules_L2_ok done_nil)) (by kernel_rfl) (by kernel_rfl) passkeylaw23_HostRules_eq

def passkeylaw23_HostRulesBack (a0 : Int) (a1 : Int) (a2 : (List UInt8)) : Option ((Unit) × (Bool × Unit)) :=
 (bif (decide ((200 : Int) < ((a2).length : Int))) then ((passkeylaw23_awake).bind fun r1 => (some ((), (r1.2.1, ()))))
 else ((passkeycast_Host a0).bind fun r2 => ((passkeyref23_Labels r2.2.1).bind fun r3 => (let v4 : Int := (IntKind.wrap .i64 ((BitVec.ofInt (IntKind.bits .i64) a1 &&& BitVec.ofInt (IntKind.bits .i64) (3 : Int)).toNat : Int))
 (let v5 : Int := (IntKind.wrap .i64 ((BitVec.ofInt (IntKind.bits .i64) a1 &&& BitVec.ofInt (IntKind.bits .i64) (3 : Int)).toNat : Int))
 ((host_FormatRule (⟨r3.2.1, (decide (v4 = (1 : Int))), (decide (v5 = (2 : Int)))⟩ : ApiSuffix)).bind fun r6 => ((bif (decide (r6.2.2.1 = (0 : Int))) then ((host_ParseRule r6.2.1).bind fun r7 => (bif (!decide (r7.2.2.1 = (0 : Int))) then (((some ((), (false, ())))).bind fun q => some (Sum.inr q))
 else ((passkeyref23_SameRule (⟨r3.2.1, (decide (v4 = (1 : Int))), (decide (v5 = (2 : Int)))⟩ : ApiSuffix) r7.2.1).bind fun r8 => (bif (!r8.2.1) then (((some ((), (false, ())))).bind fun q => some (Sum.inr q))
 else (some (Sum.inl (a2, ())))))))
 else (some (Sum.inl (a2, ())))).bind (Sum.elim (fun (j9 : ((List UInt8) × Unit)) => ((host_ParseRule j9.1).bind fun r10 => (bif (!decide (r10.2.2.1 = (0 : Int))) then ((passkeylaw23_awake).bind fun r11 => (some ((), (r11.2.1, ()))))
 else ((host_FormatRule r10.2.1).bind fun r12 => (bif (decide (r12.2.2.1 = (0 : Int))) then (bif (decide (r12.2.1 = j9.1)) then ((passkeylaw23_awake).bind fun r13 => (some ((), (r13.2.1, ()))))
 else (some ((), (false, ()))))
 else (some ((), (false, ())))))))) some))))))))

def S_passkeylaw23_HostRulesBack : FSpec T := ⟨[.f (.v (.int .i64)), .f (.v (.int .i64)), .f (.v .str)], [(.v .bool)], fun x => passkeylaw23_HostRulesBack x.1 x.2.1 x.2.2.1⟩

def E_passkeylaw23_HostRulesBack : Env T := ⟨tab.find, cd, globs, flc, fun f ds => match f with
    | 9 => some S_passkeylaw23_awake
    | 11 => some S_passkeycast_Host
    | 16 => some S_passkeyref23_Labels
    | 21 => some S_host_ParseRule
    | 23 => some S_passkeyref23_SameRule
    | 24 => some S_host_FormatRule
    | _ => none, fun f => match f with
    | 9 => true
    | 11 => true
    | 23 => true
    | 24 => true
    | _ => false⟩

def A_passkeylaw23_HostRulesBack : Loc2 T := ⟨fun id => match id with
    | _ => none, fun r => match r with
    | 9 => some ([(2, .f (.v .str))], false)
    | _ => none, fun r => match r with
    | _ => false⟩

theorem passkeylaw23_HostRulesBack_eq (x : tySs T S_passkeylaw23_HostRulesBack.ps) : run E_passkeylaw23_HostRulesBack A_passkeylaw23_HostRulesBack (Tryd.f8.body.getD .skip) (enterT E_passkeylaw23_HostRulesBack.C S_passkeylaw23_HostRulesBack.ps x) (retK E_passkeylaw23_HostRulesBack Tryd.f8.results.toList S_passkeylaw23_HostRulesBack.ps S_passkeylaw23_HostRulesBack.rs) = S_passkeylaw23_HostRulesBack.fn x := by kernel_rfl

theorem passkeylaw23_HostRulesBack_env : EnvOk Tryd.prog E_passkeylaw23_HostRulesBack := envOk (E := E_passkeylaw23_HostRulesBack) cd_ok tys fl_ok fun f ds S h => by
    dsimp only [E_passkeylaw23_HostRulesBack] at h
    split at h
    · cases h; exact passkeylaw23_awake_ok
    · cases h; exact passkeycast_Host_ok
    · cases h; exact passkeyref23_Labels_ok
    · cases h; exact host_ParseRule_ok
    · cases h; exact passkeyref23_SameRule_ok
    · cases h; exact host_FormatRule_ok
    · cases h

theorem passkeylaw23_HostRulesBack_ok : SoundT Tryd.prog cd gdn 8 S_passkeylaw23_HostRulesBack :=
  sound_fn (E := E_passkeylaw23_HostRulesBack) (A := A_passkeylaw23_HostRulesBack) (done := []) (c := (Tryd.f8.body.getD .skip)) (S := S_passkeylaw23_HostRulesBack) (fn := Tryd.f8) hmix passkeylaw23_HostRulesBack_env Tryd.func8 rfl (by kernel_rfl) (by kernel_rfl) done_nil (by kernel_rfl) (by kernel_rfl) passkeylaw23_HostRulesBack_eq

def HostPublic_dom (a0 : (List (ApiSuffix))) (a1 : (List UInt8)) (a2 : Int) (a3 : Int) : Prop := ArgD cd [(.rs 2), .str, (.int .i64), (.int .i64)] (a0, a1, a2, a3, ())
def HostMore_dom (a0 : Int) (a1 : Int) (a2 : Int) : Prop := ArgD cd [(.int .i64), (.int .i64), (.int .i64)] (a0, a1, a2, ())
def HostNames_dom (a0 : (List UInt8)) (a1 : (List UInt8)) (a2 : Int) (a3 : Int) : Prop := ArgD cd [.str, .str, (.int .i64), (.int .i64)] (a0, a1, a2, a3, ())
def HostBetween_dom (a0 : Int) (a1 : Int) (a2 : (List (Int))) : Prop := ArgD cd [(.int .i64), (.int .i64), (.rs 4)] (a0, a1, a2, ())
def HostRules_dom (a0 : (List UInt8)) (a1 : ApiSuffix) (a2 : Int) (a3 : Int) : Prop := ArgD cd [.str, (.agg 2), (.int .i64), (.int .i64)] (a0, a1, a2, a3, ())
def HostRulesBack_dom (a0 : Int) (a1 : Int) (a2 : (List UInt8)) : Prop := ArgD cd [(.int .i64), (.int .i64), .str] (a0, a1, a2, ())
end Go.Proofs.YtbdpgpnfpjodfaaDoor

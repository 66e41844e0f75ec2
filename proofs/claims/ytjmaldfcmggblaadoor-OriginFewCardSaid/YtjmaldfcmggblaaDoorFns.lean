/- The functions of the program, as plain functions, and that the program computes them. Written by a program. -/
import Derived.Test.YtjmaldfcmggblaaDoorLib8
import Derived.Test.YtjmaldfcmggblaaDoorLay
import Derived.Test.YtjmaldfcmggblaaDoorProg
import Derived.WalkKit
set_option linter.unusedVariables false
set_option maxRecDepth 100000
namespace Go.Proofs.YtjmaldfcmggblaaDoor
open Go Go.Abs
structure ApiOrigin where
  secure : Bool
  host : List UInt8
  port : Int
  deriving DecidableEq, Inhabited
structure ApiSuffix where
  labels : List (List UInt8)
  wild : Bool
  except : Bool
  deriving DecidableEq, Inhabited
abbrev T : Nat → Type
  | 0 => UInt8
  | 1 => List UInt8
  | 2 => Int
  | 3 => ApiOrigin
  | 4 => ApiSuffix
  | _ => Unit
def lfs : Nat → List Lf
  | 0 => [.u8]
  | 1 => [.str]
  | 2 => [.int .i64]
  | 3 => [.bool, .str, .int .i64]
  | 4 => [.rs 1, .bool, .bool]
  | _ => []
def to0 (x : UInt8) : tyLs T (lfs 0) := (x, ())
def of0 (y : tyLs T (lfs 0)) : UInt8 := y.1
def eD0 (x : UInt8) : List D := [.int .u8 x.toNat]
def to1 (x : List UInt8) : tyLs T (lfs 1) := (x, ())
def of1 (y : tyLs T (lfs 1)) : List UInt8 := y.1
def eD1 (x : List UInt8) : List D := [.str x]
def to2 (x : Int) : tyLs T (lfs 2) := (x, ())
def of2 (y : tyLs T (lfs 2)) : Int := y.1
def eD2 (x : Int) : List D := [.int .i64 x]
def to3 (x : ApiOrigin) : tyLs T (lfs 3) := (x.secure, x.host, x.port, ())
def of3 (y : tyLs T (lfs 3)) : ApiOrigin := ⟨y.1, y.2.1, y.2.2.1⟩
def eD3 (x : ApiOrigin) : List D := [.bool x.secure, .str x.host, .int .i64 x.port]
def to4 (x : ApiSuffix) : tyLs T (lfs 4) := (x.labels, x.wild, x.except, ())
def of4 (y : tyLs T (lfs 4)) : ApiSuffix := ⟨y.1, y.2.1, y.2.2.1⟩
def eD4 (x : ApiSuffix) : List D := [.rs 1 (x.labels.map eD1), .bool x.wild, .bool x.except]
def keq1 (x y : List UInt8) : Bool := ((x == y) && true)
def cd : Cd T where
  sz := fun c => match c with
    | 0 => 1
    | 1 => 1
    | 2 => 1
    | 3 => 3
    | 4 => 3
    | _ => 0
  encD := fun c x => match c, x with
    | 0, x => eD0 x
    | 1, x => eD1 x
    | 2, x => eD2 x
    | 3, x => eD3 x
    | 4, x => eD4 x
    | _, _ => []
  enc := fun c x => match c, x with
    | 0, x => encL (lfs 0) (to0 x)
    | 1, x => encL (lfs 1) (to1 x)
    | 2, x => encL (lfs 2) (to2 x)
    | 3, x => encL (lfs 3) (to3 x)
    | 4, x => encL (lfs 4) (to4 x)
    | _, _ => []
  dec := fun c ds => match c with
    | 0 => (decL (lfs 0) ds).map of0
    | 1 => (decL (lfs 1) ds).map of1
    | 2 => (decL (lfs 2) ds).map of2
    | 3 => (decL (lfs 3) ds).map of3
    | 4 => (decL (lfs 4) ds).map of4
    | _ => none
  bt := 0
  hb := rfl
  keq := fun c => match c with
    | 1 => some ([2], keq1)
    | _ => none
theorem cd_ok : CdOk cd where
  len := fun c => match c with
    | 0 => fun _ => rfl
    | 1 => fun _ => rfl
    | 2 => fun _ => rfl
    | 3 => fun _ => rfl
    | 4 => fun _ => rfl
    | _ + 5 => fun _ => rfl
  enc := fun c => match c with
    | 0 => fun _ => rfl
    | 1 => fun _ => rfl
    | 2 => fun _ => rfl
    | 3 => fun _ => rfl
    | 4 => fun _ => rfl
    | _ + 5 => fun _ => rfl
  epure := fun c => match c with
    | 0 => fun _ => rfl
    | 1 => fun _ => rfl
    | 2 => fun _ => rfl
    | 3 => fun _ => rfl
    | 4 => fun _ => rfl
    | _ + 5 => fun _ => rfl
  byte := fun _ => rfl
  bsz := rfl
  dec := fun c => match c with
    | 0 => fun ds x h => dec_ok cd (c := 0) (lfs 0) (of := of0) (e := eD0) (fun _ => rfl) ds x h
    | 1 => fun ds x h => dec_ok cd (c := 1) (lfs 1) (of := of1) (e := eD1) (fun _ => rfl) ds x h
    | 2 => fun ds x h => dec_ok cd (c := 2) (lfs 2) (of := of2) (e := eD2) (fun _ => rfl) ds x h
    | 3 => fun ds x h => dec_ok cd (c := 3) (lfs 3) (of := of3) (e := eD3) (fun _ => rfl) ds x h
    | 4 => fun ds x h => dec_ok cd (c := 4) (lfs 4) (of := of4) (e := eD4) (fun _ => rfl) ds x h
    | _ + 5 => fun _ _ h => by cases h
  keq := fun c => match c with
    | 0 => fun _ _ h => by cases h
    | 1 => fun _ _ h x y => by cases h; rfl
    | 2 => fun _ _ h => by cases h
    | 3 => fun _ _ h => by cases h
    | 4 => fun _ _ h => by cases h
    | _ + 5 => fun _ _ h => by cases h
def ti3 : TI := ⟨2, 1, 8, .int .i64, [.i .i64], [], [], none⟩
def ti4 : TI := ⟨6, 1, 1, .bool, [.b], [], [], none⟩
def ti5 : TI := ⟨0, 1, 1, .int .u8, [.i .u8], [], [], none⟩
def ti9 : TI := ⟨1, 1, 16, .str, [.s], [], [], none⟩
def ti22 : TI := ⟨6, 1, 24, .slice 9, [.ns], [], [], none⟩
def ti23 : TI := ⟨6, 1, 24, .slice 3, [.ns], [], [], none⟩
def ti25 : TI := ⟨6, 1, 24, .slice 43, [.ns], [], [], none⟩
def ti29 : TI := ⟨3, 3, 32, .strct, [.b, .s, .i .i64], [some (0, 4), some (1, 9), some (2, 3)], [(0, 1), (1, 1), (2, 1)], some [1, 2, 3]⟩
def ti32 : TI := ⟨6, 1, 8, .int .i64, [.i .i64], [], [], none⟩
def ti37 : TI := ⟨6, 1, 24, .slice 29, [.ns], [], [], none⟩
def ti38 : TI := ⟨6, 1, 24, .slice 5, [.ns], [], [], none⟩
def ti43 : TI := ⟨4, 3, 32, .strct, [.ns, .b, .b], [some (0, 22), some (1, 4), some (2, 4)], [(0, 1), (1, 1), (2, 1)], none⟩
def ti45 : TI := ⟨6, 1, 8, .int .u64, [.i .u64], [], [], none⟩
def ti52 : TI := ⟨6, 1, 8, .map 9 4, [.nm], [], [], none⟩
def tab : Tr := .node (.node (.node (.node .leaf 3 ti3 .leaf) 4 ti4 (.node .leaf 5 ti5 .leaf)) 9 ti9 (.node (.node .leaf 22 ti22 .leaf) 23 ti23 (.node .leaf 25 ti25 .leaf))) 29 ti29 (.node (.node (.node .leaf 32 ti32 .leaf) 37 ti37 (.node .leaf 38 ti38 .leaf)) 43 ti43 (.node (.node .leaf 45 ti45 .leaf) 52 ti52 .leaf))
def globs : Nat → Option (List (DT T)) := fun g => match g with
  | 1 => some (Lib.pow10Tab.map fun z => DT.int .u64 z)
  | _ => none
def flc : Nat → Bool := fun c => match c with
  | 0 => true
  | 1 => true
  | 2 => true
  | 3 => true
  | 4 => false
  | _ => false
theorem hmix : Tryd.prog.follows .mixedOrders = true := by kernel_rfl
theorem tys : TysOk Tryd.prog tab.find := tys_ok (by kernel_rfl)
abbrev gdn : Nat → Option (List D) := fun g => (globs g).map (denL cd)
theorem fl_ok : FlOk cd flc := fun c => match c with
  | 0 => fun h _ => rfl
  | 1 => fun h _ => rfl
  | 2 => fun h _ => rfl
  | 3 => fun h _ => rfl
  | 4 => fun h _ => by cases h
  | _ + 5 => fun h _ => by cases h
open Go.RowKit in
def strings_Split (a0 a1 : List UInt8) : Option (Unit × (List (List UInt8) × Unit)) := bif (decide (a0.length < 4294967281) && decide (a1.length = 1)) then some ((), Lib.split a0 a1, ()) else none
def S_strings_Split : FSpec T := ⟨[.f (.v .str), .f (.v .str)], [.own 1], fun x => strings_Split x.1 x.2.1⟩
theorem strings_Split_ok : SoundT Tryd.prog cd gdn 40 S_strings_Split := by
  refine sound_strs (T := T) (C := cd) (c := 1) rfl (vts := [.str, .str]) rfl (fun l => rfl) ⟨_, Tryd.func40, by kernel_rfl, by kernel_rfl⟩ (te := 9) fun I own w args x r hG hv hF => ?_
  obtain ⟨v, vr, _, _, rfl, h1, ⟨v2, vr2, _, _, rfl, h2, rfl, _⟩, _⟩ := hv
  change V I w (.str x.1) free v at h1
  change V I w (.str x.2.1) free v2 at h2
  simp only [V] at h1 h2
  subst h1; subst h2
  change strings_Split x.1 x.2.1 = some r at hF
  obtain ⟨x1, x2, u⟩ := x
  dsimp only at hF ⊢
  change List UInt8 at x1 x2
  unfold strings_Split at hF
  by_cases hs : x1.length < 4294967281
  · by_cases hl : x2.length = 1
    · simp only [hs, hl, decide_true, Bool.and_self, cond_true] at hF
      have hr := Option.some.inj hF
      subst hr
      obtain ⟨c, rfl⟩ := List.length_eq_one_iff.1 hl
      refine (split_one Tryd.lays146 (by kernel_rfl) ⟨x1.toArray⟩ c w (by rw [show ByteArray.size ⟨List.toArray x1⟩ = List.length x1 from List.size_toArray]; exact hs)).mono fun e w' h => ?_
      have hd := Lib.splitB_data ⟨#[c]⟩ 0 (Lib.countB ⟨x1.toArray⟩ ⟨#[c]⟩) ⟨x1.toArray⟩
      have hlen := Lib.splitB_all ⟨#[c]⟩ (Nat.le_refl 1) 0 _ ⟨x1.toArray⟩ rfl
      have hd' : (Lib.splitB ⟨#[c]⟩ 0 (Lib.countB ⟨x1.toArray⟩ ⟨#[c]⟩) ⟨x1.toArray⟩).map (·.data.toList) = Lib.split x1 [c] := hd
      obtain ⟨rfl, rfl⟩ := h
      have hll : (Lib.split x1 [c]).length = Lib.countB ⟨x1.toArray⟩ ⟨#[c]⟩ + 1 := by rw [← hd', List.length_map, hlen]
      have hmm : (Lib.splitB ⟨#[c]⟩ 0 (Lib.countB ⟨x1.toArray⟩ ⟨#[c]⟩) ⟨x1.toArray⟩).map Value.string = (Lib.split x1 [c]).map strV := by
        rw [← hd', List.map_map]
        exact List.map_congr_left fun b _ => rfl
      refine ⟨?_, ?_⟩
      · show _ = Ending.returned (Value.slice _ (Lib.split x1 [c]).length (Lib.split x1 [c]).length)
        rw [hll]
      · rw [hmm]; rfl
    · simp [hl] at hF
  · simp [hs] at hF
def strings_Trim (a0 a1 : List UInt8) : Option (Unit × (List UInt8 × Unit)) := bif (decide (a0.length ≤ 9223372036854775807) && (decide (a1.length < 4294967281) && a1.all (fun b => decide (b.toNat < 128)))) then some ((), Lib.trimS a0 a1, ()) else none
def S_strings_Trim : FSpec T := ⟨[.f (.v .str), .f (.v .str)], [.v .str], fun x => strings_Trim x.1 x.2.1⟩
theorem strings_Trim_ok : SoundT Tryd.prog cd gdn 42 S_strings_Trim := by
  refine sound_below (vts := [.str, .str]) (rts := [.str]) ⟨_, Tryd.func42, by kernel_rfl, by kernel_rfl⟩ fun I own w args x r hG hv hF => ?_
  obtain ⟨v, vr, _, _, rfl, h1, ⟨v2, vr2, _, _, rfl, h2, rfl, _⟩, _⟩ := hv
  change V I w (.str x.1) free v at h1
  change V I w (.str x.2.1) free v2 at h2
  simp only [V] at h1 h2
  subst h1; subst h2
  change strings_Trim x.1 x.2.1 = some r at hF
  obtain ⟨x1, x2, u⟩ := x
  dsimp only at hF ⊢
  change List UInt8 at x1 x2
  unfold strings_Trim at hF
  by_cases hs : (decide (x1.length ≤ 9223372036854775807) && (decide (x2.length < 4294967281) && x2.all (fun b => decide (b.toNat < 128)))) = true
  · rw [hs] at hF
    simp only [cond_true] at hF
    have hr := Option.some.inj hF
    subst hr
    simp only [Bool.and_eq_true, decide_eq_true_eq] at hs
    refine ⟨[.string ⟨(Lib.trimS x1 x2).toArray⟩], fun I' w' => ⟨_, _, none', none', rfl, (show V I' w' (.str (Lib.trimS x1 x2)) free _ by simp [V]), rfl, fun _ h => h, fun _ h => h, fun _ h => h.elim⟩, ?_⟩
    exact (Any.strings_Trim_laid Tryd.lays160 (by kernel_rfl) ⟨x1.toArray⟩ ⟨x2.toArray⟩ w (by rw [show ByteArray.size ⟨List.toArray x1⟩ = List.length x1 from List.size_toArray]; exact hs.1) (by rw [show ByteArray.size ⟨List.toArray x2⟩ = List.length x2 from List.size_toArray]; exact hs.2.1) (ascii_of_all hs.2.2)).mono fun e w' h => ⟨h.1, h.2⟩
  · simp only [Bool.not_eq_true] at hs
    rw [hs] at hF
    cases hF
def strings_Join (a0 : List (List UInt8)) (a1 : List UInt8) : Option (Unit × (List UInt8 × Unit)) := bif (decide ((Lib.join a0 a1).length ≤ 140737488355328) && decide (a0.length ≤ 140737488355328)) then some ((), Lib.join a0 a1, ()) else none
def S_strings_Join : FSpec T := ⟨[.f (.v (.rs 1)), .f (.v .str)], [.v .str], fun x => strings_Join x.1 x.2.1⟩
theorem strings_Join_ok : SoundT Tryd.prog cd gdn 35 S_strings_Join := by
  refine sound_below (vts := [.rs 1, .str]) (rts := [.str]) ⟨_, Tryd.func35, by kernel_rfl, by kernel_rfl⟩ fun I own w args x r hG hv hF => ?_
  obtain ⟨v, vr, _, _, rfl, h1, ⟨v2, vr2, _, _, rfl, h2, rfl, _⟩, _⟩ := hv
  obtain ⟨x1, x2, u⟩ := x
  change List (List UInt8) at x1
  change List UInt8 at x2
  change V I w (.rs 1 (x1.map strD)) free v at h1
  change V I w (.str x2) free v2 at h2
  simp only [V] at h2
  subst h2
  change strings_Join x1 x2 = some r at hF
  unfold strings_Join at hF
  by_cases hs : (decide ((Lib.join x1 x2).length ≤ 140737488355328) && decide (x1.length ≤ 140737488355328)) = true
  · rw [hs] at hF
    simp only [cond_true] at hF
    have hr := Option.some.inj hF
    subst hr
    simp only [Bool.and_eq_true, decide_eq_true_eq] at hs
    refine ⟨[.string ⟨(Lib.join x1 x2).toArray⟩], fun I' w' => ⟨_, _, none', none', rfl, (show V I' w' (.str (Lib.join x1 x2)) free _ by simp [V]), rfl, fun _ h => h, fun _ h => h, fun _ h => h.elim⟩, ?_⟩
    simp only [V] at h1
    have nil : ∀ (p : Option Addr) (cap : Nat), x1 = [] → Calls Tryd.prog 35 #[.slice p 0 cap, .string ⟨x2.toArray⟩] w fun e w' => e = .returned (.string ⟨(Lib.join x1 x2).toArray⟩) ∧ RowKit.Below w.heap.size w w' := fun p cap h0 => by
      subst h0
      refine (Any.strings_Join_none Tryd.lays156 Tryd.bx p cap ⟨x2.toArray⟩ w).mono ?_
      rintro e w' ⟨rfl, rfl⟩
      exact ⟨rfl, RowKit.Below.refl _ _⟩
    rcases h1 with ⟨hrows, p, cap, rfl⟩ | ⟨b, o, cap, rfl, hcap, hIb, hvr⟩
    · exact nil p cap (List.map_eq_nil_iff.1 hrows)
    · have hc : ∀ (j : Nat) y, (x1.map fun l => (⟨l.toArray⟩ : ByteArray))[j]? = some y → w.cell? ⟨b, o + j, none⟩ = some (.string y) := fun j y hj => by
        rw [List.getElem?_map, Option.map_eq_some_iff] at hj
        obtain ⟨l, hl, rfl⟩ := hj
        exact VR_strs hvr hl
      have hmm : (x1.map fun l => (⟨l.toArray⟩ : ByteArray)).map (·.data.toList) = x1 := by
        rw [List.map_map]
        exact (List.map_congr_left fun b _ => rfl).trans (List.map_id x1)
      match hx : x1, hc, hmm with
      | [], _, _ => exact nil _ _ rfl
      | [y], hc, _ =>
        refine (Any.strings_Join_one Tryd.lays156 Tryd.bx b o cap ⟨y.toArray⟩ ⟨x2.toArray⟩ w (hc 0 _ rfl)).mono ?_
        rintro e w' ⟨rfl, rfl⟩
        refine ⟨?_, RowKit.Below.refl _ _⟩
        rw [Lib.join_one]
        rfl
      | y :: z :: rest, hc, hmm =>
        have hbk : b < w.heap.size := World.block_lt_of_cell? _ _ (hc 0 _ rfl)
        have hk := Any.strings_Join_many Tryd.lays156 Tryd.bx b o cap ((y :: z :: rest).map fun l => (⟨l.toArray⟩ : ByteArray)) ⟨x2.toArray⟩ w hc hbk (by simp) (by rw [List.length_map]; exact hs.2) (by rw [List.length_map] at hcap ⊢; exact hcap) (by rw [hmm]; exact hs.1)
        rw [hmm] at hk
        rw [List.length_map] at hk ⊢
        exact hk.mono fun e w' h => ⟨h.1, h.2⟩
  · simp only [Bool.not_eq_true] at hs
    rw [hs] at hF
    cases hF
def stringslite_Index (a0 a1 : List UInt8) : Option (Unit × (Int × Unit)) := bif decide (a1.length = 1) then some ((), Lib.index a0 a1, ()) else none
def S_stringslite_Index : FSpec T := ⟨[.f (.v .str), .f (.v .str)], [.v (.int .i64)], fun x => stringslite_Index x.1 x.2.1⟩
theorem stringslite_Index_ok : SoundT Tryd.prog cd gdn 50 S_stringslite_Index := by
  refine sound_below (vts := [.str, .str]) (rts := [.int .i64]) ⟨_, Tryd.func50, by kernel_rfl, by kernel_rfl⟩ fun I own w args x r hG hv hF => ?_
  obtain ⟨v, vr, _, _, rfl, h1, ⟨v2, vr2, _, _, rfl, h2, rfl, _⟩, _⟩ := hv
  change V I w (.str x.1) free v at h1
  change V I w (.str x.2.1) free v2 at h2
  simp only [V] at h1 h2
  subst h1; subst h2
  change stringslite_Index x.1 x.2.1 = some r at hF
  obtain ⟨x1, x2, u⟩ := x
  dsimp only at hF ⊢
  change List UInt8 at x1 x2
  unfold stringslite_Index at hF
  by_cases hl : x2.length = 1
  · simp only [hl, decide_true, cond_true] at hF
    have hr := Option.some.inj hF
    subst hr
    obtain ⟨c, rfl⟩ := List.length_eq_one_iff.1 hl
    refine ⟨[.int .i64 (Lib.index x1 [c])], fun I' w' => ⟨_, _, none', none', rfl, (show V I' w' (.int .i64 (Lib.index x1 [c])) free _ by simp [V]), rfl, fun _ h => h, fun _ h => h, fun _ h => h.elim⟩, ?_⟩
    refine (Any.stringslite_Index_one Tryd.lays219 ⟨x1.toArray⟩ c w).mono fun e w' h => ?_
    obtain ⟨rfl, rfl⟩ := h
    refine ⟨?_, RowKit.Below.refl _ _⟩
    rw [Lib.index_one]
    rfl
  · simp [hl] at hF
theorem gdn1 : gdn 1 = some (tabD .u64 Lib.pow10Tab) := by
  show some (denL cd _) = _
  rw [denL_map]
  simp [tabD, den, Function.comp_def]
theorem tab_is {I : Nat → Prop} {w : World} (h : Glob gdn I w) : Lib.TabIs Tryd.prog w "internal/strconv.uint64pow10" .u64 Lib.pow10Tab := by
  obtain ⟨_, h2, h3⟩ := h 1 _ gdn1
  have hc : ∀ i n, Lib.pow10Tab[i]? = some n → w.cell? ⟨1, i, none⟩ = some (.int .u64 n) := fun i n hn => glob_tab h2 hn
  have hl : (tabD .u64 Lib.pow10Tab).length = 20 := by simp [tabD, Lib.pow10Tab]
  unfold Lib.TabIs World.var?
  rw [show Program.globalNamed Tryd.prog "internal/strconv.uint64pow10" = some 1 by kernel_rfl]
  simp only [Option.bind_some]
  unfold rowSize at h3
  cases hh : w.heap[1]? with
  | none => rw [hh] at h3; rw [hl] at h3; cases h3
  | some o =>
    cases o with
    | cells cs t fz =>
      rw [hh] at h3
      dsimp only at h3 ⊢
      rw [hl] at h3
      congr 1
      apply Array.ext
      · rw [h3]; simp [Lib.pow10Tab]
      · intro i h1 h4
        have hi : i < Lib.pow10Tab.length := by simpa using h4
        have := hc i Lib.pow10Tab[i] (by simp [hi])
        simp only [World.cell?, hh] at this
        rw [Array.getElem?_eq_getElem h1] at this
        simpa using this
    | _ => rw [hh] at h3; rw [hl] at h3; cases h3
theorem glob_of {w : World} (h : Lib.TabIs Tryd.prog w "internal/strconv.uint64pow10" .u64 Lib.pow10Tab) : Glob gdn (All w) w := by
  intro g cs e
  match g, e with
  | 1, e =>
    rw [gdn1] at e; cases e
    unfold Lib.TabIs World.var? at h
    rw [show Program.globalNamed Tryd.prog "internal/strconv.uint64pow10" = some 1 by kernel_rfl] at h
    simp only [Option.bind_some] at h
    cases hh : w.heap[1]? with
    | none => rw [hh] at h; cases h
    | some o =>
      cases o with
      | cells cs t fz =>
        rw [hh] at h
        simp only [Option.some.injEq] at h
        refine ⟨(Array.getElem?_eq_some_iff.1 hh).1, tab_glob fun i n hn => ?_, ?_⟩
        · simp only [World.cell?, hh, h]
          simp [hn]
        · unfold rowSize
          rw [hh, h]
          simp [tabD]
      | _ => rw [hh] at h; cases h
  | 0, e => cases e
  | _ + 2, e => cases e
def strconv_Itoa (a0 : Int) : Option (Unit × (List UInt8 × Unit)) := bif (decide (-9223372036854775808 ≤ a0) && decide (a0 ≤ 9223372036854775807)) then some ((), Lib.itoa a0, ()) else none
def S_strconv_Itoa : FSpec T := ⟨[.f (.v (.int .i64))], [.v .str], fun x => strconv_Itoa x.1⟩
theorem strconv_Itoa_ok : SoundT Tryd.prog cd gdn 27 S_strconv_Itoa := by
  refine sound_below (vts := [.int .i64]) (rts := [.str]) ⟨_, Tryd.func27, by kernel_rfl, by kernel_rfl⟩ fun I own w args x r hG hv hF => ?_
  obtain ⟨v, vr, _, _, rfl, h1, rfl, _⟩ := hv
  change V I w (.int .i64 x.1) free v at h1
  simp only [V] at h1
  subst h1
  change strconv_Itoa x.1 = some r at hF
  obtain ⟨x1, u⟩ := x
  dsimp only at hF ⊢
  change Int at x1
  unfold strconv_Itoa at hF
  by_cases hs : -9223372036854775808 ≤ x1 ∧ x1 ≤ 9223372036854775807
  · rw [show (decide (-9223372036854775808 ≤ x1) && decide (x1 ≤ 9223372036854775807)) = true by simp [hs]] at hF
    simp only [cond_true] at hF
    have hr := Option.some.inj hF
    subst hr
    refine ⟨[.string ⟨(Lib.itoa x1).toArray⟩], fun I' w' => ⟨_, _, none', none', rfl, (show V I' w' (.str (Lib.itoa x1)) free _ by simp [V]), rfl, fun _ h => h, fun _ h => h, fun _ h => h.elim⟩, ?_⟩
    refine (Any.strconv_Itoa Tryd.lays171 x1 hs.1 hs.2 w (tab_is hG)).mono fun e w' h => ?_
    obtain ⟨rfl, k, os, rfl⟩ := h
    exact ⟨rfl, Lib.below_grow _ _ (Nat.le_refl _) _ _⟩
  · rw [show (decide (-9223372036854775808 ≤ x1) && decide (x1 ≤ 9223372036854775807)) = false by simp only [Bool.and_eq_false_iff, decide_eq_false_iff_not]; omega] at hF
    cases hF
def stringslite_HasPrefix (a0 : (List UInt8)) (a1 : (List UInt8)) : Option ((Unit) × (Bool × Unit)) :=
 (bif (decide (((a1).length : Int) ≤ ((a0).length : Int))) then (bif (decide ((0 : Int) ≤ ((a1).length : Int)) && decide (((a1).length : Int) ≤ ((a0).length : Int))) then (some ((), ((decide ((List.take (((a1).length : Int)).toNat a0) = a1)), ())))
 else none)
 else (some ((), (false, ()))))
def S_stringslite_HasPrefix : FSpec T := ⟨[.f (.v .str), .f (.v .str)], [(.v .bool)], fun x => stringslite_HasPrefix x.1 x.2.1⟩
def E_stringslite_HasPrefix : Env T := ⟨tab.find, cd, globs, flc, fun f ds => match f with
    | _ => none, fun f => match f with
    | _ => false⟩
def A_stringslite_HasPrefix : Loc2 T := ⟨fun id => match id with
    | _ => none, fun r => match r with
    | _ => none, fun r => match r with
    | _ => false⟩
theorem stringslite_HasPrefix_eq (x : tySs T S_stringslite_HasPrefix.ps) : run E_stringslite_HasPrefix A_stringslite_HasPrefix (Tryd.f62.body.getD .skip) (enterT E_stringslite_HasPrefix.C S_stringslite_HasPrefix.ps x) (retK E_stringslite_HasPrefix Tryd.f62.results.toList S_stringslite_HasPrefix.ps S_stringslite_HasPrefix.rs) = S_stringslite_HasPrefix.fn x := by kernel_rfl
theorem stringslite_HasPrefix_env : EnvOk Tryd.prog E_stringslite_HasPrefix := envOk (E := E_stringslite_HasPrefix) cd_ok tys fl_ok fun f ds S h => by cases h
theorem stringslite_HasPrefix_ok : SoundT Tryd.prog cd gdn 62 S_stringslite_HasPrefix :=
  sound_fn (E := E_stringslite_HasPrefix) (A := A_stringslite_HasPrefix) (done := []) (c := (Tryd.f62.body.getD .skip)) (S := S_stringslite_HasPrefix) (fn := Tryd.f62) hmix stringslite_HasPrefix_env Tryd.func62 rfl (by kernel_rfl) (by kernel_rfl) done_nil (by kernel_rfl) (by kernel_rfl) stringslite_HasPrefix_eq
def stringslite_CutPrefix (a0 : (List UInt8)) (a1 : (List UInt8)) : Option ((Unit) × ((List UInt8) × Bool × Unit)) :=
 ((stringslite_HasPrefix a0 a1).bind fun r1 => (bif (!r1.2.1) then (some ((), (a0, false, ())))
 else (bif (decide ((0 : Int) ≤ ((a1).length : Int)) && decide (((a1).length : Int) ≤ ((a0).length : Int))) then (some ((), ((List.drop (((a1).length : Int)).toNat a0), true, ())))
 else none)))
def S_stringslite_CutPrefix : FSpec T := ⟨[.f (.v .str), .f (.v .str)], [(.v .str), (.v .bool)], fun x => stringslite_CutPrefix x.1 x.2.1⟩
def E_stringslite_CutPrefix : Env T := ⟨tab.find, cd, globs, flc, fun f ds => match f with
    | 62 => some S_stringslite_HasPrefix
    | _ => none, fun f => match f with
    | 62 => true
    | _ => false⟩
def A_stringslite_CutPrefix : Loc2 T := ⟨fun id => match id with
    | _ => none, fun r => match r with
    | _ => none, fun r => match r with
    | _ => false⟩
theorem stringslite_CutPrefix_eq (x : tySs T S_stringslite_CutPrefix.ps) : run E_stringslite_CutPrefix A_stringslite_CutPrefix (Tryd.f44.body.getD .skip) (enterT E_stringslite_CutPrefix.C S_stringslite_CutPrefix.ps x) (retK E_stringslite_CutPrefix Tryd.f44.results.toList S_stringslite_CutPrefix.ps S_stringslite_CutPrefix.rs) = S_stringslite_CutPrefix.fn x := by kernel_rfl
theorem stringslite_CutPrefix_env : EnvOk Tryd.prog E_stringslite_CutPrefix := envOk (E := E_stringslite_CutPrefix) cd_ok tys fl_ok fun f ds S h => by
    dsimp only [E_stringslite_CutPrefix] at h
    split at h
    · cases h; exact stringslite_HasPrefix_ok
    · cases h
theorem stringslite_CutPrefix_ok : SoundT Tryd.prog cd gdn 44 S_stringslite_CutPrefix :=
  sound_fn (E := E_stringslite_CutPrefix) (A := A_stringslite_CutPrefix) (done := []) (c := (Tryd.f44.body.getD .skip)) (S := S_stringslite_CutPrefix) (fn := Tryd.f44) hmix stringslite_CutPrefix_env Tryd.func44 rfl (by kernel_rfl) (by kernel_rfl) done_nil (by kernel_rfl) (by kernel_rfl) stringslite_CutPrefix_eq
def strings_CutPrefix (a0 : (List UInt8)) (a1 : (List UInt8)) : Option ((Unit) × ((List UInt8) × Bool × Unit)) :=
 ((stringslite_CutPrefix a0 a1).bind fun r1 => (some ((), (r1.2.1, r1.2.2.1, ()))))
def S_strings_CutPrefix : FSpec T := ⟨[.f (.v .str), .f (.v .str)], [(.v .str), (.v .bool)], fun x => strings_CutPrefix x.1 x.2.1⟩
def E_strings_CutPrefix : Env T := ⟨tab.find, cd, globs, flc, fun f ds => match f with
    | 44 => some S_stringslite_CutPrefix
    | _ => none, fun f => match f with
    | 44 => true
    | _ => false⟩
def A_strings_CutPrefix : Loc2 T := ⟨fun id => match id with
    | _ => none, fun r => match r with
    | _ => none, fun r => match r with
    | _ => false⟩
theorem strings_CutPrefix_eq (x : tySs T S_strings_CutPrefix.ps) : run E_strings_CutPrefix A_strings_CutPrefix (Tryd.f28.body.getD .skip) (enterT E_strings_CutPrefix.C S_strings_CutPrefix.ps x) (retK E_strings_CutPrefix Tryd.f28.results.toList S_strings_CutPrefix.ps S_strings_CutPrefix.rs) = S_strings_CutPrefix.fn x := by kernel_rfl
theorem strings_CutPrefix_env : EnvOk Tryd.prog E_strings_CutPrefix := envOk (E := E_strings_CutPrefix) cd_ok tys fl_ok fun f ds S h => by
    dsimp only [E_strings_CutPrefix] at h
    split at h
    · cases h; exact stringslite_CutPrefix_ok
    · cases h
theorem strings_CutPrefix_ok : SoundT Tryd.prog cd gdn 28 S_strings_CutPrefix :=
  sound_fn (E := E_strings_CutPrefix) (A := A_strings_CutPrefix) (done := []) (c := (Tryd.f28.body.getD .skip)) (S := S_strings_CutPrefix) (fn := Tryd.f28) hmix strings_CutPrefix_env Tryd.func28 rfl (by kernel_rfl) (by kernel_rfl) done_nil (by kernel_rfl) (by kernel_rfl) strings_CutPrefix_eq
def stringslite_Cut (a0 : (List UInt8)) (a1 : (List UInt8)) : Option ((Unit) × ((List UInt8) × (List UInt8) × Bool × Unit)) :=
 ((stringslite_Index a0 a1).bind fun r1 => (bif (decide ((0 : Int) ≤ r1.2.1)) then (bif (decide ((0 : Int) ≤ r1.2.1) && decide (r1.2.1 ≤ ((a0).length : Int))) then (bif (decide ((0 : Int) ≤ (IntKind.wrap .i64 (r1.2.1 + ((a1).length : Int)))) && decide ((IntKind.wrap .i64 (r1.2.1 + ((a1).length : Int))) ≤ ((a0).length : Int))) then (let v2 : List UInt8 := (List.drop ((IntKind.wrap .i64 (r1.2.1 + ((a1).length : Int)))).toNat a0)
 (some ((), ((List.take (r1.2.1).toNat a0), v2, true, ()))))
 else none)
 else none)
 else (some ((), (a0, ([] : List UInt8), false, ())))))
def S_stringslite_Cut : FSpec T := ⟨[.f (.v .str), .f (.v .str)], [(.v .str), (.v .str), (.v .bool)], fun x => stringslite_Cut x.1 x.2.1⟩
def E_stringslite_Cut : Env T := ⟨tab.find, cd, globs, flc, fun f ds => match f with
    | 50 => some S_stringslite_Index
    | _ => none, fun f => match f with
    | 50 => true
    | _ => false⟩
def A_stringslite_Cut : Loc2 T := ⟨fun id => match id with
    | _ => none, fun r => match r with
    | _ => none, fun r => match r with
    | _ => false⟩
theorem stringslite_Cut_eq (x : tySs T S_stringslite_Cut.ps) : run E_stringslite_Cut A_stringslite_Cut (Tryd.f36.body.getD .skip) (enterT E_stringslite_Cut.C S_stringslite_Cut.ps x) (retK E_stringslite_Cut Tryd.f36.results.toList S_stringslite_Cut.ps S_stringslite_Cut.rs) = S_stringslite_Cut.fn x := by kernel_rfl
theorem stringslite_Cut_env : EnvOk Tryd.prog E_stringslite_Cut := envOk (E := E_stringslite_Cut) cd_ok tys fl_ok fun f ds S h => by
    dsimp only [E_stringslite_Cut] at h
    split at h
    · cases h; exact stringslite_Index_ok
    · cases h
theorem stringslite_Cut_ok : SoundT Tryd.prog cd gdn 36 S_stringslite_Cut :=
  sound_fn (E := E_stringslite_Cut) (A := A_stringslite_Cut) (done := []) (c := (Tryd.f36.body.getD .skip)) (S := S_stringslite_Cut) (fn := Tryd.f36) hmix stringslite_Cut_env Tryd.func36 rfl (by kernel_rfl) (by kernel_rfl) done_nil (by kernel_rfl) (by kernel_rfl) stringslite_Cut_eq
def strings_Cut (a0 : (List UInt8)) (a1 : (List UInt8)) : Option ((Unit) × ((List UInt8) × (List UInt8) × Bool × Unit)) :=
 ((stringslite_Cut a0 a1).bind fun r1 => (some ((), (r1.2.1, r1.2.2.1, r1.2.2.2.1, ()))))
def S_strings_Cut : FSpec T := ⟨[.f (.v .str), .f (.v .str)], [(.v .str), (.v .str), (.v .bool)], fun x => strings_Cut x.1 x.2.1⟩
def E_strings_Cut : Env T := ⟨tab.find, cd, globs, flc, fun f ds => match f with
    | 36 => some S_stringslite_Cut
    | _ => none, fun f => match f with
    | 36 => true
    | _ => false⟩
def A_strings_Cut : Loc2 T := ⟨fun id => match id with
    | _ => none, fun r => match r with
    | _ => none, fun r => match r with
    | _ => false⟩
theorem strings_Cut_eq (x : tySs T S_strings_Cut.ps) : run E_strings_Cut A_strings_Cut (Tryd.f22.body.getD .skip) (enterT E_strings_Cut.C S_strings_Cut.ps x) (retK E_strings_Cut Tryd.f22.results.toList S_strings_Cut.ps S_strings_Cut.rs) = S_strings_Cut.fn x := by kernel_rfl
theorem strings_Cut_env : EnvOk Tryd.prog E_strings_Cut := envOk (E := E_strings_Cut) cd_ok tys fl_ok fun f ds S h => by
    dsimp only [E_strings_Cut] at h
    split at h
    · cases h; exact stringslite_Cut_ok
    · cases h
theorem strings_Cut_ok : SoundT Tryd.prog cd gdn 22 S_strings_Cut :=
  sound_fn (E := E_strings_Cut) (A := A_strings_Cut) (done := []) (c := (Tryd.f22.body.getD .skip)) (S := S_strings_Cut) (fn := Tryd.f22) hmix strings_Cut_env Tryd.func22 rfl (by kernel_rfl) (by kernel_rfl) done_nil (by kernel_rfl) (by kernel_rfl) strings_Cut_eq
def host_validLabel_L0b (y0 : (List UInt8)) (y1 : Int) (y2 : Int) : Option (((List UInt8) × Int × Int × Unit) ⊕ ((Bool × Unit) ⊕ (Unit))) :=
 (bif (decide (y2 < y1)) then ((getI y0 y2).bind fun x1 => (bif (decide ((97 : UInt8).toBitVec.toNat ≤ x1.toBitVec.toNat)) then (bif (decide (x1.toBitVec.toNat ≤ (122 : UInt8).toBitVec.toNat)) then (bif (decide (x1.toBitVec = (45 : UInt8).toBitVec)) then (bif (decide ((0 : Int) < y2)) then (some (Sum.inl (y0, y1, (IntKind.wrap .i64 (y2 + (1 : Int))), ())))
 else (some (Sum.inl (y0, y1, (IntKind.wrap .i64 (y2 + (1 : Int))), ()))))
 else (some (Sum.inl (y0, y1, (IntKind.wrap .i64 (y2 + (1 : Int))), ()))))
 else (bif (decide ((48 : UInt8).toBitVec.toNat ≤ x1.toBitVec.toNat)) then (bif (decide (x1.toBitVec = (45 : UInt8).toBitVec)) then (bif (decide ((0 : Int) < y2)) then (bif (!(decide (x1.toBitVec.toNat ≤ (57 : UInt8).toBitVec.toNat))) then (bif (!(decide (y2 < (IntKind.wrap .i64 (((y0).length : Int) - (1 : Int)))))) then (some (Sum.inr (Sum.inl (false, ()))))
 else (some (Sum.inl (y0, y1, (IntKind.wrap .i64 (y2 + (1 : Int))), ()))))
 else (some (Sum.inl (y0, y1, (IntKind.wrap .i64 (y2 + (1 : Int))), ()))))
 else (bif (!(decide (x1.toBitVec.toNat ≤ (57 : UInt8).toBitVec.toNat))) then (some (Sum.inr (Sum.inl (false, ()))))
 else (some (Sum.inl (y0, y1, (IntKind.wrap .i64 (y2 + (1 : Int))), ())))))
 else (bif (!(decide (x1.toBitVec.toNat ≤ (57 : UInt8).toBitVec.toNat))) then (some (Sum.inr (Sum.inl (false, ()))))
 else (some (Sum.inl (y0, y1, (IntKind.wrap .i64 (y2 + (1 : Int))), ())))))
 else (bif (decide (x1.toBitVec = (45 : UInt8).toBitVec)) then (bif (decide ((0 : Int) < y2)) then (bif (!(decide (y2 < (IntKind.wrap .i64 (((y0).length : Int) - (1 : Int)))))) then (some (Sum.inr (Sum.inl (false, ()))))
 else (some (Sum.inl (y0, y1, (IntKind.wrap .i64 (y2 + (1 : Int))), ()))))
 else (some (Sum.inr (Sum.inl (false, ())))))
 else (some (Sum.inr (Sum.inl (false, ())))))))
 else (bif (decide ((48 : UInt8).toBitVec.toNat ≤ x1.toBitVec.toNat)) then (bif (decide (x1.toBitVec = (45 : UInt8).toBitVec)) then (bif (decide ((0 : Int) < y2)) then (bif (!(decide (x1.toBitVec.toNat ≤ (57 : UInt8).toBitVec.toNat))) then (bif (!(decide (y2 < (IntKind.wrap .i64 (((y0).length : Int) - (1 : Int)))))) then (some (Sum.inr (Sum.inl (false, ()))))
 else (some (Sum.inl (y0, y1, (IntKind.wrap .i64 (y2 + (1 : Int))), ()))))
 else (some (Sum.inl (y0, y1, (IntKind.wrap .i64 (y2 + (1 : Int))), ()))))
 else (bif (!(decide (x1.toBitVec.toNat ≤ (57 : UInt8).toBitVec.toNat))) then (some (Sum.inr (Sum.inl (false, ()))))
 else (some (Sum.inl (y0, y1, (IntKind.wrap .i64 (y2 + (1 : Int))), ())))))
 else (bif (!(decide (x1.toBitVec.toNat ≤ (57 : UInt8).toBitVec.toNat))) then (some (Sum.inr (Sum.inl (false, ()))))
 else (some (Sum.inl (y0, y1, (IntKind.wrap .i64 (y2 + (1 : Int))), ())))))
 else (bif (decide (x1.toBitVec = (45 : UInt8).toBitVec)) then (bif (decide ((0 : Int) < y2)) then (bif (!(decide (y2 < (IntKind.wrap .i64 (((y0).length : Int) - (1 : Int)))))) then (some (Sum.inr (Sum.inl (false, ()))))
 else (some (Sum.inl (y0, y1, (IntKind.wrap .i64 (y2 + (1 : Int))), ()))))
 else (some (Sum.inr (Sum.inl (false, ())))))
 else (some (Sum.inr (Sum.inl (false, ()))))))))
 else (some (Sum.inr (Sum.inr ()))))
def host_validLabel_L0 (y : ((List UInt8) × Int × Int × Unit)) : Option ((Bool × Unit) ⊕ (Unit)) := iter (fun (y : ((List UInt8) × Int × Int × Unit)) => host_validLabel_L0b y.1 y.2.1 y.2.2.1) rounds y
def host_validLabel (a0 : (List UInt8)) : Option ((Unit) × (Bool × Unit)) :=
 (bif (decide (((a0).length : Int) < (1 : Int))) then (some ((), (false, ())))
 else (bif (decide ((63 : Int) < ((a0).length : Int))) then (some ((), (false, ())))
 else ((host_validLabel_L0 (a0, ((a0).length : Int), (0 : Int), ())).bind (Sum.elim (fun (z2 : (Bool × Unit)) => (some ((), (z2.1, ())))) (fun (z3 : (Unit)) => (some ((), (true, ()))))))))
def S_host_validLabel : FSpec T := ⟨[.f (.v .str)], [(.v .bool)], fun x => host_validLabel x.1⟩
def E_host_validLabel : Env T := ⟨tab.find, cd, globs, flc, fun f ds => match f with
    | _ => none, fun f => match f with
    | _ => false⟩
def A_host_validLabel : Loc2 T := ⟨fun id => match id with
    | 0 => some ⟨[(0, .f (.v .str)), (16, .f (.v (.int .i64))), (17, .f (.v (.int .i64)))], [(.ret, [(2, .f (.v .bool))]), (.exit 0, [])], host_validLabel_L0, []⟩
    | _ => none, fun r => match r with
    | _ => none, fun r => match r with
    | _ => false⟩
theorem host_validLabel_L0_eq (y0 : (List UInt8)) (y1 : Int) (y2 : Int) : run E_host_validLabel A_host_validLabel (loopAt 0 (Tryd.f41.body.getD .skip)) (layC cd [(0, .f (.v .str)), (16, .f (.v (.int .i64))), (17, .f (.v (.int .i64)))] [] (y0, y1, y2, ())) (roundK cd [(0, .f (.v .str)), (16, .f (.v (.int .i64))), (17, .f (.v (.int .i64)))] [] [(.ret, [(2, .f (.v .bool))]), (.exit 0, [])]) = host_validLabel_L0b y0 y1 y2 := by kernel_rfl
theorem host_validLabel_eq (x : tySs T S_host_validLabel.ps) : run E_host_validLabel A_host_validLabel (Tryd.f41.body.getD .skip) (enterT E_host_validLabel.C S_host_validLabel.ps x) (retK E_host_validLabel Tryd.f41.results.toList S_host_validLabel.ps S_host_validLabel.rs) = S_host_validLabel.fn x := by kernel_rfl
theorem host_validLabel_env : EnvOk Tryd.prog E_host_validLabel := envOk (E := E_host_validLabel) cd_ok tys fl_ok fun f ds S h => by cases h
theorem host_validLabel_L0_ok : LoopOk Tryd.prog E_host_validLabel Tryd.f41.ntmps (kqOf S_host_validLabel.ps 0) (loopAt 0 (Tryd.f41.body.getD .skip)) ⟨[(0, .f (.v .str)), (16, .f (.v (.int .i64))), (17, .f (.v (.int .i64)))], [(.ret, [(2, .f (.v .bool))]), (.exit 0, [])], host_validLabel_L0, []⟩ :=
  loop_ok (A := A_host_validLabel) (done := []) (c0 := (Tryd.f41.body.getD .skip)) hmix host_validLabel_env done_nil rounds (by kernel_rfl) (by kernel_rfl) (fun x => host_validLabel_L0_eq x.1 x.2.1 x.2.2.1) (fun _ => rfl)
theorem host_validLabel_ok : SoundT Tryd.prog cd gdn 41 S_host_validLabel :=
  sound_fn (E := E_host_validLabel) (A := A_host_validLabel) (done := [0]) (c := (Tryd.f41.body.getD .skip)) (S := S_host_validLabel) (fn := Tryd.f41) hmix host_validLabel_env Tryd.func41 rfl (by kernel_rfl) (by kernel_rfl) (done_cons rfl host_validLabel_L0_ok done_nil) (by kernel_rfl) (by kernel_rfl) host_validLabel_eq
def host_Validate_L0b (y0 : (List (List UInt8))) (y1 : (List (List UInt8))) (y2 : Int) (y3 : Int) : Option (((List (List UInt8)) × (List (List UInt8)) × Int × Int × Unit) ⊕ ((Int × Unit) ⊕ ((List (List UInt8)) × Unit))) :=
 (bif (decide (y3 < y2)) then ((getI y1 y3).bind fun x2 => ((host_validLabel x2).bind fun r3 => (bif (!r3.2.1) then (some (Sum.inr (Sum.inl ((2 : Int), ()))))
 else (some (Sum.inl (y0, y1, y2, (IntKind.wrap .i64 (y3 + (1 : Int))), ()))))))
 else (some (Sum.inr (Sum.inr (y0, ())))))
def host_Validate_L0 (y : ((List (List UInt8)) × (List (List UInt8)) × Int × Int × Unit)) : Option ((Int × Unit) ⊕ ((List (List UInt8)) × Unit)) := iter (fun (y : ((List (List UInt8)) × (List (List UInt8)) × Int × Int × Unit)) => host_Validate_L0b y.1 y.2.1 y.2.2.1 y.2.2.2.1) rounds y
def host_Validate (a0 : (List UInt8)) : Option ((Unit) × (Int × Unit)) :=
 (bif (decide ((100 : Int) < ((a0).length : Int))) then (some ((), ((8 : Int), ())))
 else ((strings_Split a0 ([46] : List UInt8)).bind fun r1 => ((host_Validate_L0 (r1.2.1, r1.2.1, ((r1.2.1).length : Int), (0 : Int), ())).bind (Sum.elim (fun (z4 : (Int × Unit)) => (some ((), (z4.1, ())))) (fun (z5 : ((List (List UInt8)) × Unit)) => ((getI z5.1 (IntKind.wrap .i64 (((z5.1).length : Int) - (1 : Int)))).bind fun x6 => ((strings_Trim x6 ([48, 49, 50, 51, 52, 53, 54, 55, 56, 57] : List UInt8)).bind fun r7 => (bif (decide (r7.2.1 = ([] : List UInt8))) then (some ((), ((2 : Int), ())))
 else (some ((), ((0 : Int), ())))))))))))
def S_host_Validate : FSpec T := ⟨[.f (.v .str)], [(.v (.int .i64))], fun x => host_Validate x.1⟩
def E_host_Validate : Env T := ⟨tab.find, cd, globs, flc, fun f ds => match f with
    | 40 => some S_strings_Split
    | 41 => some S_host_validLabel
    | 42 => some S_strings_Trim
    | _ => none, fun f => match f with
    | 41 => true
    | 42 => true
    | _ => false⟩
def A_host_Validate : Loc2 T := ⟨fun id => match id with
    | 0 => some ⟨[(3, .f (.v (.rs 1))), (11, .f (.v (.rs 1))), (12, .f (.v (.int .i64))), (13, .f (.v (.int .i64)))], [(.ret, [(2, .f (.v (.int .i64)))]), (.exit 0, [(3, .f (.v (.rs 1)))])], host_Validate_L0, []⟩
    | _ => none, fun r => match r with
    | _ => none, fun r => match r with
    | _ => false⟩
theorem host_Validate_L0_eq (y0 : (List (List UInt8))) (y1 : (List (List UInt8))) (y2 : Int) (y3 : Int) : run E_host_Validate A_host_Validate (loopAt 0 (Tryd.f25.body.getD .skip)) (layC cd [(3, .f (.v (.rs 1))), (11, .f (.v (.rs 1))), (12, .f (.v (.int .i64))), (13, .f (.v (.int .i64)))] [] (y0, y1, y2, y3, ())) (roundK cd [(3, .f (.v (.rs 1))), (11, .f (.v (.rs 1))), (12, .f (.v (.int .i64))), (13, .f (.v (.int .i64)))] [] [(.ret, [(2, .f (.v (.int .i64)))]), (.exit 0, [(3, .f (.v (.rs 1)))])]) = host_Validate_L0b y0 y1 y2 y3 := by kernel_rfl
theorem host_Validate_eq (x : tySs T S_host_Validate.ps) : run E_host_Validate A_host_Validate (Tryd.f25.body.getD .skip) (enterT E_host_Validate.C S_host_Validate.ps x) (retK E_host_Validate Tryd.f25.results.toList S_host_Validate.ps S_host_Validate.rs) = S_host_Validate.fn x := by kernel_rfl
theorem host_Validate_env : EnvOk Tryd.prog E_host_Validate := envOk (E := E_host_Validate) cd_ok tys fl_ok fun f ds S h => by
    dsimp only [E_host_Validate] at h
    split at h
    · cases h; exact strings_Split_ok
    · cases h; exact host_validLabel_ok
    · cases h; exact strings_Trim_ok
    · cases h
theorem host_Validate_L0_ok : LoopOk Tryd.prog E_host_Validate Tryd.f25.ntmps (kqOf S_host_Validate.ps 0) (loopAt 0 (Tryd.f25.body.getD .skip)) ⟨[(3, .f (.v (.rs 1))), (11, .f (.v (.rs 1))), (12, .f (.v (.int .i64))), (13, .f (.v (.int .i64)))], [(.ret, [(2, .f (.v (.int .i64)))]), (.exit 0, [(3, .f (.v (.rs 1)))])], host_Validate_L0, []⟩ :=
  loop_ok (A := A_host_Validate) (done := []) (c0 := (Tryd.f25.body.getD .skip)) hmix host_Validate_env done_nil rounds (by kernel_rfl) (by kernel_rfl) (fun x => host_Validate_L0_eq x.1 x.2.1 x.2.2.1 x.2.2.2.1) (fun _ => rfl)
theorem host_Validate_ok : SoundT Tryd.prog cd gdn 25 S_host_Validate :=
  sound_fn (E := E_host_Validate) (A := A_host_Validate) (done := [0]) (c := (Tryd.f25.body.getD .skip)) (S := S_host_Validate) (fn := Tryd.f25) hmix host_Validate_env Tryd.func25 rfl (by kernel_rfl) (by kernel_rfl) (done_cons rfl host_Validate_L0_ok done_nil) (by kernel_rfl) (by kernel_rfl) host_Validate_eq
def origin_defaultPort (a0 : Bool) : Option ((Unit) × (Int × Unit)) :=
 (bif a0 then (some ((), ((443 : Int), ())))
 else (some ((), ((80 : Int), ()))))
def S_origin_defaultPort : FSpec T := ⟨[.f (.v .bool)], [(.v (.int .i64))], fun x => origin_defaultPort x.1⟩
def E_origin_defaultPort : Env T := ⟨tab.find, cd, globs, flc, fun f ds => match f with
    | _ => none, fun f => match f with
    | _ => false⟩
def A_origin_defaultPort : Loc2 T := ⟨fun id => match id with
    | _ => none, fun r => match r with
    | _ => none, fun r => match r with
    | _ => false⟩
theorem origin_defaultPort_eq (x : tySs T S_origin_defaultPort.ps) : run E_origin_defaultPort A_origin_defaultPort (Tryd.f26.body.getD .skip) (enterT E_origin_defaultPort.C S_origin_defaultPort.ps x) (retK E_origin_defaultPort Tryd.f26.results.toList S_origin_defaultPort.ps S_origin_defaultPort.rs) = S_origin_defaultPort.fn x := by kernel_rfl
theorem origin_defaultPort_env : EnvOk Tryd.prog E_origin_defaultPort := envOk (E := E_origin_defaultPort) cd_ok tys fl_ok fun f ds S h => by cases h
theorem origin_defaultPort_ok : SoundT Tryd.prog cd gdn 26 S_origin_defaultPort :=
  sound_fn (E := E_origin_defaultPort) (A := A_origin_defaultPort) (done := []) (c := (Tryd.f26.body.getD .skip)) (S := S_origin_defaultPort) (fn := Tryd.f26) hmix origin_defaultPort_env Tryd.func26 rfl (by kernel_rfl) (by kernel_rfl) done_nil (by kernel_rfl) (by kernel_rfl) origin_defaultPort_eq
def origin_parsePort_L0b (y0 : (List UInt8)) (y1 : Int) (y2 : Int) (y3 : Int) : Option (((List UInt8) × Int × Int × Int × Unit) ⊕ ((Int × Bool × Unit) ⊕ (Int × Unit))) :=
 (bif (decide (y3 < y2)) then ((getI y0 y3).bind fun x2 => (bif (decide (x2.toBitVec.toNat < (48 : UInt8).toBitVec.toNat)) then (some (Sum.inr (Sum.inl ((0 : Int), false, ()))))
 else (bif (decide ((57 : UInt8).toBitVec.toNat < x2.toBitVec.toNat)) then (some (Sum.inr (Sum.inl ((0 : Int), false, ()))))
 else (let v3 : Int := ((UInt8.ofBitVec (x2.toBitVec - (48 : UInt8).toBitVec)).toBitVec.toNat : Int)
 (let v4 : Int := (IntKind.wrap .i64 ((IntKind.wrap .i64 ((10 : Int) * y1)) + v3))
 (some (Sum.inl (y0, v4, y2, (IntKind.wrap .i64 (y3 + (1 : Int))), ()))))))))
 else (some (Sum.inr (Sum.inr (y1, ())))))
def origin_parsePort_L0 (y : ((List UInt8) × Int × Int × Int × Unit)) : Option ((Int × Bool × Unit) ⊕ (Int × Unit)) := iter (fun (y : ((List UInt8) × Int × Int × Int × Unit)) => origin_parsePort_L0b y.1 y.2.1 y.2.2.1 y.2.2.2.1) rounds y
def origin_parsePort (a0 : (List UInt8)) : Option ((Unit) × (Int × Bool × Unit)) :=
 (bif (decide (((a0).length : Int) < (1 : Int))) then (some ((), ((0 : Int), false, ())))
 else (bif (decide ((5 : Int) < ((a0).length : Int))) then (some ((), ((0 : Int), false, ())))
 else ((getI a0 (0 : Int)).bind fun x1 => (bif (decide (x1.toBitVec = (48 : UInt8).toBitVec)) then (some ((), ((0 : Int), false, ())))
 else ((origin_parsePort_L0 (a0, (0 : Int), ((a0).length : Int), (0 : Int), ())).bind (Sum.elim (fun (z5 : (Int × Bool × Unit)) => (some ((), (z5.1, z5.2.1, ())))) (fun (z6 : (Int × Unit)) => (some ((), (z6.1, (decide (z6.1 ≤ (65535 : Int))), ()))))))))))
def S_origin_parsePort : FSpec T := ⟨[.f (.v .str)], [(.v (.int .i64)), (.v .bool)], fun x => origin_parsePort x.1⟩
def E_origin_parsePort : Env T := ⟨tab.find, cd, globs, flc, fun f ds => match f with
    | _ => none, fun f => match f with
    | _ => false⟩
def A_origin_parsePort : Loc2 T := ⟨fun id => match id with
    | 0 => some ⟨[(0, .f (.v .str)), (4, .f (.v (.int .i64))), (21, .f (.v (.int .i64))), (22, .f (.v (.int .i64)))], [(.ret, [(2, .f (.v (.int .i64))), (3, .f (.v .bool))]), (.exit 0, [(4, .f (.v (.int .i64)))])], origin_parsePort_L0, []⟩
    | _ => none, fun r => match r with
    | _ => none, fun r => match r with
    | _ => false⟩
theorem origin_parsePort_L0_eq (y0 : (List UInt8)) (y1 : Int) (y2 : Int) (y3 : Int) : run E_origin_parsePort A_origin_parsePort (loopAt 0 (Tryd.f29.body.getD .skip)) (layC cd [(0, .f (.v .str)), (4, .f (.v (.int .i64))), (21, .f (.v (.int .i64))), (22, .f (.v (.int .i64)))] [] (y0, y1, y2, y3, ())) (roundK cd [(0, .f (.v .str)), (4, .f (.v (.int .i64))), (21, .f (.v (.int .i64))), (22, .f (.v (.int .i64)))] [] [(.ret, [(2, .f (.v (.int .i64))), (3, .f (.v .bool))]), (.exit 0, [(4, .f (.v (.int .i64)))])]) = origin_parsePort_L0b y0 y1 y2 y3 := by kernel_rfl
theorem origin_parsePort_eq (x : tySs T S_origin_parsePort.ps) : run E_origin_parsePort A_origin_parsePort (Tryd.f29.body.getD .skip) (enterT E_origin_parsePort.C S_origin_parsePort.ps x) (retK E_origin_parsePort Tryd.f29.results.toList S_origin_parsePort.ps S_origin_parsePort.rs) = S_origin_parsePort.fn x := by kernel_rfl
theorem origin_parsePort_env : EnvOk Tryd.prog E_origin_parsePort := envOk (E := E_origin_parsePort) cd_ok tys fl_ok fun f ds S h => by cases h
theorem origin_parsePort_L0_ok : LoopOk Tryd.prog E_origin_parsePort Tryd.f29.ntmps (kqOf S_origin_parsePort.ps 0) (loopAt 0 (Tryd.f29.body.getD .skip)) ⟨[(0, .f (.v .str)), (4, .f (.v (.int .i64))), (21, .f (.v (.int .i64))), (22, .f (.v (.int .i64)))], [(.ret, [(2, .f (.v (.int .i64))), (3, .f (.v .bool))]), (.exit 0, [(4, .f (.v (.int .i64)))])], origin_parsePort_L0, []⟩ :=
  loop_ok (A := A_origin_parsePort) (done := []) (c0 := (Tryd.f29.body.getD .skip)) hmix origin_parsePort_env done_nil rounds (by kernel_rfl) (by kernel_rfl) (fun x => origin_parsePort_L0_eq x.1 x.2.1 x.2.2.1 x.2.2.2.1) (fun _ => rfl)
theorem origin_parsePort_ok : SoundT Tryd.prog cd gdn 29 S_origin_parsePort :=
  sound_fn (E := E_origin_parsePort) (A := A_origin_parsePort) (done := [0]) (c := (Tryd.f29.body.getD .skip)) (S := S_origin_parsePort) (fn := Tryd.f29) hmix origin_parsePort_env Tryd.func29 rfl (by kernel_rfl) (by kernel_rfl) (done_cons rfl origin_parsePort_L0_ok done_nil) (by kernel_rfl) (by kernel_rfl) origin_parsePort_eq
def origin_Parse (a0 : (List UInt8)) : Option ((Unit) × (ApiOrigin × Int × Unit)) :=
 ((strings_CutPrefix a0 ([104, 116, 116, 112, 115, 58, 47, 47] : List UInt8)).bind fun r1 => ((bif (!r1.2.2.1) then ((strings_CutPrefix a0 ([104, 116, 116, 112, 58, 47, 47] : List UInt8)).bind fun r2 => (bif (!r2.2.2.1) then (((some ((), ((⟨false, ([] : List UInt8), (0 : Int)⟩ : ApiOrigin), (2 : Int), ())))).bind fun q => some (Sum.inr q))
 else (some (Sum.inl (((⟨false, ([] : List UInt8), (0 : Int)⟩ : ApiOrigin), ()), r2.2.1, r1.2.2.1, ())))))
 else (some (Sum.inl (((⟨false, ([] : List UInt8), (0 : Int)⟩ : ApiOrigin), ()), r1.2.1, r1.2.2.1, ())))).bind (Sum.elim (fun (j3 : ((ApiOrigin × Unit) × (List UInt8) × Bool × Unit)) => ((strings_Cut j3.2.1 ([58] : List UInt8)).bind fun r4 => ((host_Validate r4.2.1).bind fun r5 => (bif (!decide (r5.2.1 = (0 : Int))) then (some ((), ((⟨false, ([] : List UInt8), (0 : Int)⟩ : ApiOrigin), r5.2.1, ())))
 else ((origin_defaultPort j3.2.2.1).bind fun r6 => (bif r4.2.2.2.1 then ((origin_parsePort r4.2.2.1).bind fun r7 => (bif (!r7.2.2.1) then (some ((), ((⟨false, ([] : List UInt8), (0 : Int)⟩ : ApiOrigin), (2 : Int), ())))
 else (bif (decide (r7.2.1 = r6.2.1)) then (some ((), ((⟨false, ([] : List UInt8), (0 : Int)⟩ : ApiOrigin), (2 : Int), ())))
 else (some ((), ((⟨j3.2.2.1, r4.2.1, r7.2.1⟩ : ApiOrigin), (0 : Int), ()))))))
 else (some ((), ((⟨j3.2.2.1, r4.2.1, r6.2.1⟩ : ApiOrigin), (0 : Int), ()))))))))) some)))
def S_origin_Parse : FSpec T := ⟨[.f (.v .str)], [(.v (.agg 3)), (.v (.int .i64))], fun x => origin_Parse x.1⟩
def E_origin_Parse : Env T := ⟨tab.find, cd, globs, flc, fun f ds => match f with
    | 22 => some S_strings_Cut
    | 25 => some S_host_Validate
    | 26 => some S_origin_defaultPort
    | 28 => some S_strings_CutPrefix
    | 29 => some S_origin_parsePort
    | _ => none, fun f => match f with
    | 22 => true
    | 25 => true
    | 26 => true
    | 28 => true
    | 29 => true
    | _ => false⟩
def A_origin_Parse : Loc2 T := ⟨fun id => match id with
    | _ => none, fun r => match r with
    | 7 => some ([(2, .ptr [(.v (.agg 3))]), (4, .f (.v .str)), (5, .f (.v .bool))], false)
    | _ => none, fun r => match r with
    | _ => false⟩
theorem origin_Parse_eq (x : tySs T S_origin_Parse.ps) : run E_origin_Parse A_origin_Parse (Tryd.f14.body.getD .skip) (enterT E_origin_Parse.C S_origin_Parse.ps x) (retK E_origin_Parse Tryd.f14.results.toList S_origin_Parse.ps S_origin_Parse.rs) = S_origin_Parse.fn x := by kernel_rfl
theorem origin_Parse_env : EnvOk Tryd.prog E_origin_Parse := envOk (E := E_origin_Parse) cd_ok tys fl_ok fun f ds S h => by
    dsimp only [E_origin_Parse] at h
    split at h
    · cases h; exact strings_Cut_ok
    · cases h; exact host_Validate_ok
    · cases h; exact origin_defaultPort_ok
    · cases h; exact strings_CutPrefix_ok
    · cases h; exact origin_parsePort_ok
    · cases h
theorem origin_Parse_ok : SoundT Tryd.prog cd gdn 14 S_origin_Parse :=
  sound_fn (E := E_origin_Parse) (A := A_origin_Parse) (done := []) (c := (Tryd.f14.body.getD .skip)) (S := S_origin_Parse) (fn := Tryd.f14) hmix origin_Parse_env Tryd.func14 rfl (by kernel_rfl) (by kernel_rfl) done_nil (by kernel_rfl) (by kernel_rfl) origin_Parse_eq
def origin_Format (a0 : ApiOrigin) : Option ((Unit) × ((List UInt8) × Int × Unit)) :=
 ((host_Validate a0.host).bind fun r1 => (bif (!decide (r1.2.1 = (0 : Int))) then (some ((), (([] : List UInt8), r1.2.1, ())))
 else (bif (decide (a0.port < (1 : Int))) then (some ((), (([] : List UInt8), (9 : Int), ())))
 else (bif (decide ((65535 : Int) < a0.port)) then (some ((), (([] : List UInt8), (9 : Int), ())))
 else (bif Nat.ble ((([104, 116, 116, 112, 58, 47, 47] : List UInt8)).length + (a0.host).length) 9223372036854775807 then ((bif a0.secure then (bif Nat.ble ((([104, 116, 116, 112, 115, 58, 47, 47] : List UInt8)).length + (a0.host).length) 9223372036854775807 then (let v2 : List UInt8 := (([104, 116, 116, 112, 115, 58, 47, 47] : List UInt8) ++ a0.host)
 (some ((a0, ()), v2, ())))
 else none)
 else (some ((a0, ()), (([104, 116, 116, 112, 58, 47, 47] : List UInt8) ++ a0.host), ()))).bind (fun (j3 : ((ApiOrigin × Unit) × (List UInt8) × Unit)) => ((origin_defaultPort j3.1.1.secure).bind fun r4 => (bif (!decide (j3.1.1.port = r4.2.1)) then ((strconv_Itoa j3.1.1.port).bind fun r5 => (bif Nat.ble ((([58] : List UInt8)).length + (r5.2.1).length) 9223372036854775807 then (bif Nat.ble ((j3.2.1).length + ((([58] : List UInt8) ++ r5.2.1)).length) 9223372036854775807 then (some ((), ((j3.2.1 ++ (([58] : List UInt8) ++ r5.2.1)), (0 : Int), ())))
 else none)
 else none))
 else (some ((), (j3.2.1, (0 : Int), ())))))))
 else none)))))
def S_origin_Format : FSpec T := ⟨[.f (.v (.agg 3))], [(.v .str), (.v (.int .i64))], fun x => origin_Format x.1⟩
def E_origin_Format : Env T := ⟨tab.find, cd, globs, flc, fun f ds => match f with
    | 25 => some S_host_Validate
    | 26 => some S_origin_defaultPort
    | 27 => some S_strconv_Itoa
    | _ => none, fun f => match f with
    | 25 => true
    | 26 => true
    | 27 => true
    | _ => false⟩
def A_origin_Format : Loc2 T := ⟨fun id => match id with
    | _ => none, fun r => match r with
    | 9 => some ([(1, .ptr [(.v (.agg 3))]), (5, .f (.v .str))], true)
    | _ => none, fun r => match r with
    | _ => false⟩
theorem origin_Format_eq (x : tySs T S_origin_Format.ps) : run E_origin_Format A_origin_Format (Tryd.f13.body.getD .skip) (enterT E_origin_Format.C S_origin_Format.ps x) (retK E_origin_Format Tryd.f13.results.toList S_origin_Format.ps S_origin_Format.rs) = S_origin_Format.fn x := by kernel_rfl
theorem origin_Format_env : EnvOk Tryd.prog E_origin_Format := envOk (E := E_origin_Format) cd_ok tys fl_ok fun f ds S h => by
    dsimp only [E_origin_Format] at h
    split at h
    · cases h; exact host_Validate_ok
    · cases h; exact origin_defaultPort_ok
    · cases h; exact strconv_Itoa_ok
    · cases h
theorem origin_Format_ok : SoundT Tryd.prog cd gdn 13 S_origin_Format :=
  sound_fn (E := E_origin_Format) (A := A_origin_Format) (done := []) (c := (Tryd.f13.body.getD .skip)) (S := S_origin_Format) (fn := Tryd.f13) hmix origin_Format_env Tryd.func13 rfl (by kernel_rfl) (by kernel_rfl) done_nil (by kernel_rfl) (by kernel_rfl) origin_Format_eq
def host_Labels (a0 : (List UInt8)) : Option ((Unit) × ((List (List UInt8)) × Unit)) :=
 ((host_Validate a0).bind fun r1 => (bif (!decide (r1.2.1 = (0 : Int))) then (some ((), ([], ())))
 else ((strings_Split a0 ([46] : List UInt8)).bind fun r2 => (some ((), (r2.2.1, ()))))))
def S_host_Labels : FSpec T := ⟨[.f (.v .str)], [(.own 1)], fun x => host_Labels x.1⟩
def E_host_Labels : Env T := ⟨tab.find, cd, globs, flc, fun f ds => match f with
    | 25 => some S_host_Validate
    | 40 => some S_strings_Split
    | _ => none, fun f => match f with
    | 25 => true
    | _ => false⟩
def A_host_Labels : Loc2 T := ⟨fun id => match id with
    | _ => none, fun r => match r with
    | _ => none, fun r => match r with
    | _ => false⟩
theorem host_Labels_eq (x : tySs T S_host_Labels.ps) : run E_host_Labels A_host_Labels (Tryd.f31.body.getD .skip) (enterT E_host_Labels.C S_host_Labels.ps x) (retK E_host_Labels Tryd.f31.results.toList S_host_Labels.ps S_host_Labels.rs) = S_host_Labels.fn x := by kernel_rfl
theorem host_Labels_env : EnvOk Tryd.prog E_host_Labels := envOk (E := E_host_Labels) cd_ok tys fl_ok fun f ds S h => by
    dsimp only [E_host_Labels] at h
    split at h
    · cases h; exact host_Validate_ok
    · cases h; exact strings_Split_ok
    · cases h
theorem host_Labels_ok : SoundT Tryd.prog cd gdn 31 S_host_Labels :=
  sound_fn (E := E_host_Labels) (A := A_host_Labels) (done := []) (c := (Tryd.f31.body.getD .skip)) (S := S_host_Labels) (fn := Tryd.f31) hmix host_Labels_env Tryd.func31 rfl (by kernel_rfl) (by kernel_rfl) done_nil (by kernel_rfl) (by kernel_rfl) host_Labels_eq
def slices_Equal_string_string_L0b (y0 : (List (List UInt8))) (y1 : (List (List UInt8))) (y2 : Int) (y3 : Int) : Option (((List (List UInt8)) × (List (List UInt8)) × Int × Int × Unit) ⊕ ((Bool × Unit) ⊕ (Unit))) :=
 (bif (decide (y3 < y2)) then ((getI y0 y3).bind fun x1 => ((getI y1 y3).bind fun x2 => (bif (!decide (x1 = x2)) then (some (Sum.inr (Sum.inl (false, ()))))
 else (some (Sum.inl (y0, y1, y2, (IntKind.wrap .i64 (y3 + (1 : Int))), ()))))))
 else (some (Sum.inr (Sum.inr ()))))
def slices_Equal_string_string_L0 (y : ((List (List UInt8)) × (List (List UInt8)) × Int × Int × Unit)) : Option ((Bool × Unit) ⊕ (Unit)) := iter (fun (y : ((List (List UInt8)) × (List (List UInt8)) × Int × Int × Unit)) => slices_Equal_string_string_L0b y.1 y.2.1 y.2.2.1 y.2.2.2.1) rounds y
def slices_Equal_string_string (a0 : (List (List UInt8))) (a1 : (List (List UInt8))) : Option ((Unit) × (Bool × Unit)) :=
 (bif (!decide (((a0).length : Int) = ((a1).length : Int))) then (some ((), (false, ())))
 else ((slices_Equal_string_string_L0 (a0, a1, ((a0).length : Int), (0 : Int), ())).bind (Sum.elim (fun (z3 : (Bool × Unit)) => (some ((), (z3.1, ())))) (fun (z4 : (Unit)) => (some ((), (true, ())))))))
def S_slices_Equal_string_string : FSpec T := ⟨[.f (.v (.rs 1)), .f (.v (.rs 1))], [(.v .bool)], fun x => slices_Equal_string_string x.1 x.2.1⟩
def E_slices_Equal_string_string : Env T := ⟨tab.find, cd, globs, flc, fun f ds => match f with
    | _ => none, fun f => match f with
    | _ => false⟩
def A_slices_Equal_string_string : Loc2 T := ⟨fun id => match id with
    | 0 => some ⟨[(0, .f (.v (.rs 1))), (1, .f (.v (.rs 1))), (12, .f (.v (.int .i64))), (13, .f (.v (.int .i64)))], [(.ret, [(4, .f (.v .bool))]), (.exit 0, [])], slices_Equal_string_string_L0, []⟩
    | _ => none, fun r => match r with
    | _ => none, fun r => match r with
    | _ => false⟩
theorem slices_Equal_string_string_L0_eq (y0 : (List (List UInt8))) (y1 : (List (List UInt8))) (y2 : Int) (y3 : Int) : run E_slices_Equal_string_string A_slices_Equal_string_string (loopAt 0 (Tryd.f63.body.getD .skip)) (layC cd [(0, .f (.v (.rs 1))), (1, .f (.v (.rs 1))), (12, .f (.v (.int .i64))), (13, .f (.v (.int .i64)))] [] (y0, y1, y2, y3, ())) (roundK cd [(0, .f (.v (.rs 1))), (1, .f (.v (.rs 1))), (12, .f (.v (.int .i64))), (13, .f (.v (.int .i64)))] [] [(.ret, [(4, .f (.v .bool))]), (.exit 0, [])]) = slices_Equal_string_string_L0b y0 y1 y2 y3 := by kernel_rfl
theorem slices_Equal_string_string_eq (x : tySs T S_slices_Equal_string_string.ps) : run E_slices_Equal_string_string A_slices_Equal_string_string (Tryd.f63.body.getD .skip) (enterT E_slices_Equal_string_string.C S_slices_Equal_string_string.ps x) (retK E_slices_Equal_string_string Tryd.f63.results.toList S_slices_Equal_string_string.ps S_slices_Equal_string_string.rs) = S_slices_Equal_string_string.fn x := by kernel_rfl
theorem slices_Equal_string_string_env : EnvOk Tryd.prog E_slices_Equal_string_string := envOk (E := E_slices_Equal_string_string) cd_ok tys fl_ok fun f ds S h => by cases h
theorem slices_Equal_string_string_L0_ok : LoopOk Tryd.prog E_slices_Equal_string_string Tryd.f63.ntmps (kqOf S_slices_Equal_string_string.ps 0) (loopAt 0 (Tryd.f63.body.getD .skip)) ⟨[(0, .f (.v (.rs 1))), (1, .f (.v (.rs 1))), (12, .f (.v (.int .i64))), (13, .f (.v (.int .i64)))], [(.ret, [(4, .f (.v .bool))]), (.exit 0, [])], slices_Equal_string_string_L0, []⟩ :=
  loop_ok (A := A_slices_Equal_string_string) (done := []) (c0 := (Tryd.f63.body.getD .skip)) hmix slices_Equal_string_string_env done_nil rounds (by kernel_rfl) (by kernel_rfl) (fun x => slices_Equal_string_string_L0_eq x.1 x.2.1 x.2.2.1 x.2.2.2.1) (fun _ => rfl)
theorem slices_Equal_string_string_ok : SoundT Tryd.prog cd gdn 63 S_slices_Equal_string_string :=
  sound_fn (E := E_slices_Equal_string_string) (A := A_slices_Equal_string_string) (done := [0]) (c := (Tryd.f63.body.getD .skip)) (S := S_slices_Equal_string_string) (fn := Tryd.f63) hmix slices_Equal_string_string_env Tryd.func63 rfl (by kernel_rfl) (by kernel_rfl) (done_cons rfl slices_Equal_string_string_L0_ok done_nil) (by kernel_rfl) (by kernel_rfl) slices_Equal_string_string_eq
def host_ends (a0 : (List (List UInt8))) (a1 : (List (List UInt8))) : Option ((Unit) × (Bool × Unit)) :=
 (bif (decide (((a1).length : Int) ≤ ((a0).length : Int))) then (let v1 : Int := (IntKind.wrap .i64 (((a0).length : Int) - ((a1).length : Int)))
 (bif (decide ((0 : Int) ≤ v1) && decide (v1 ≤ ((a0).length : Int))) then ((slices_Equal_string_string (List.drop (v1).toNat a0) a1).bind fun r2 => (some ((), (r2.2.1, ()))))
 else none))
 else (some ((), (false, ()))))
def S_host_ends : FSpec T := ⟨[.f (.v (.rs 1)), .f (.v (.rs 1))], [(.v .bool)], fun x => host_ends x.1 x.2.1⟩
def E_host_ends : Env T := ⟨tab.find, cd, globs, flc, fun f ds => match f with
    | 63 => some S_slices_Equal_string_string
    | _ => none, fun f => match f with
    | 63 => true
    | _ => false⟩
def A_host_ends : Loc2 T := ⟨fun id => match id with
    | _ => none, fun r => match r with
    | _ => none, fun r => match r with
    | _ => false⟩
theorem host_ends_eq (x : tySs T S_host_ends.ps) : run E_host_ends A_host_ends (Tryd.f45.body.getD .skip) (enterT E_host_ends.C S_host_ends.ps x) (retK E_host_ends Tryd.f45.results.toList S_host_ends.ps S_host_ends.rs) = S_host_ends.fn x := by kernel_rfl
theorem host_ends_env : EnvOk Tryd.prog E_host_ends := envOk (E := E_host_ends) cd_ok tys fl_ok fun f ds S h => by
    dsimp only [E_host_ends] at h
    split at h
    · cases h; exact slices_Equal_string_string_ok
    · cases h
theorem host_ends_ok : SoundT Tryd.prog cd gdn 45 S_host_ends :=
  sound_fn (E := E_host_ends) (A := A_host_ends) (done := []) (c := (Tryd.f45.body.getD .skip)) (S := S_host_ends) (fn := Tryd.f45) hmix host_ends_env Tryd.func45 rfl (by kernel_rfl) (by kernel_rfl) done_nil (by kernel_rfl) (by kernel_rfl) host_ends_eq
def host_Within (a0 : (List UInt8)) (a1 : (List UInt8)) : Option ((Unit) × (Bool × Unit)) :=
 ((host_Validate a0).bind fun r1 => (bif (!decide (r1.2.1 = (0 : Int))) then (some ((), (false, ())))
 else ((host_Validate a1).bind fun r2 => (bif (!decide (r2.2.1 = (0 : Int))) then (some ((), (false, ())))
 else ((host_Labels a0).bind fun r3 => ((host_Labels a1).bind fun r4 => ((host_ends r3.2.1 r4.2.1).bind fun r5 => (some ((), (r5.2.1, ()))))))))))
def S_host_Within : FSpec T := ⟨[.f (.v .str), .f (.v .str)], [(.v .bool)], fun x => host_Within x.1 x.2.1⟩
def E_host_Within : Env T := ⟨tab.find, cd, globs, flc, fun f ds => match f with
    | 25 => some S_host_Validate
    | 31 => some S_host_Labels
    | 45 => some S_host_ends
    | _ => none, fun f => match f with
    | 25 => true
    | 45 => true
    | _ => false⟩
def A_host_Within : Loc2 T := ⟨fun id => match id with
    | _ => none, fun r => match r with
    | _ => none, fun r => match r with
    | _ => false⟩
theorem host_Within_eq (x : tySs T S_host_Within.ps) : run E_host_Within A_host_Within (Tryd.f30.body.getD .skip) (enterT E_host_Within.C S_host_Within.ps x) (retK E_host_Within Tryd.f30.results.toList S_host_Within.ps S_host_Within.rs) = S_host_Within.fn x := by kernel_rfl
theorem host_Within_env : EnvOk Tryd.prog E_host_Within := envOk (E := E_host_Within) cd_ok tys fl_ok fun f ds S h => by
    dsimp only [E_host_Within] at h
    split at h
    · cases h; exact host_Validate_ok
    · cases h; exact host_Labels_ok
    · cases h; exact host_ends_ok
    · cases h
theorem host_Within_ok : SoundT Tryd.prog cd gdn 30 S_host_Within :=
  sound_fn (E := E_host_Within) (A := A_host_Within) (done := []) (c := (Tryd.f30.body.getD .skip)) (S := S_host_Within) (fn := Tryd.f30) hmix host_Within_env Tryd.func30 rfl (by kernel_rfl) (by kernel_rfl) done_nil (by kernel_rfl) (by kernel_rfl) host_Within_eq
def host_FormatRule_L0b (y0 : (ApiSuffix × Unit)) (y1 : (List (List UInt8))) (y2 : Int) (y3 : Int) : Option (((ApiSuffix × Unit) × (List (List UInt8)) × Int × Int × Unit) ⊕ (((List UInt8) × Int × Unit) ⊕ ((ApiSuffix × Unit) × Unit))) :=
 (bif (decide (y3 < y2)) then ((getI y1 y3).bind fun x1 => ((host_validLabel x1).bind fun r2 => (bif (!r2.2.1) then (some (Sum.inr (Sum.inl (([] : List UInt8), (4 : Int), ()))))
 else (some (Sum.inl ((y0.1, ()), y1, y2, (IntKind.wrap .i64 (y3 + (1 : Int))), ()))))))
 else (some (Sum.inr (Sum.inr ((y0.1, ()), ())))))
def host_FormatRule_L0 (y : ((ApiSuffix × Unit) × (List (List UInt8)) × Int × Int × Unit)) : Option (((List UInt8) × Int × Unit) ⊕ ((ApiSuffix × Unit) × Unit)) := iter (fun (y : ((ApiSuffix × Unit) × (List (List UInt8)) × Int × Int × Unit)) => host_FormatRule_L0b y.1 y.2.1 y.2.2.1 y.2.2.2.1) rounds y
def host_FormatRule (a0 : ApiSuffix) : Option ((Unit) × ((List UInt8) × Int × Unit)) :=
 (bif (decide ((100 : Int) < ((a0.labels).length : Int))) then (some ((), (([] : List UInt8), (4 : Int), ())))
 else (bif a0.wild then (bif a0.except then (some ((), (([] : List UInt8), (4 : Int), ())))
 else (bif a0.except then (bif (decide (((a0.labels).length : Int) < (2 : Int))) then (some ((), (([] : List UInt8), (4 : Int), ())))
 else ((host_FormatRule_L0 ((a0, ()), a0.labels, ((a0.labels).length : Int), (0 : Int), ())).bind (Sum.elim (fun (z3 : ((List UInt8) × Int × Unit)) => (some ((), (z3.1, z3.2.1, ())))) (fun (z4 : ((ApiSuffix × Unit) × Unit)) => ((strings_Join z4.1.1.labels ([46] : List UInt8)).bind fun r5 => ((host_Validate r5.2.1).bind fun r6 => (bif (!decide (r6.2.1 = (0 : Int))) then (some ((), (([] : List UInt8), (4 : Int), ())))
 else (bif z4.1.1.wild then (bif Nat.ble ((([42, 46] : List UInt8)).length + (r5.2.1).length) 9223372036854775807 then (some ((), ((([42, 46] : List UInt8) ++ r5.2.1), (0 : Int), ())))
 else none)
 else (bif z4.1.1.except then (bif Nat.ble ((([33] : List UInt8)).length + (r5.2.1).length) 9223372036854775807 then (some ((), ((([33] : List UInt8) ++ r5.2.1), (0 : Int), ())))
 else none)
 else (some ((), (r5.2.1, (0 : Int), ()))))))))))))
 else ((host_FormatRule_L0 ((a0, ()), a0.labels, ((a0.labels).length : Int), (0 : Int), ())).bind (Sum.elim (fun (z7 : ((List UInt8) × Int × Unit)) => (some ((), (z7.1, z7.2.1, ())))) (fun (z8 : ((ApiSuffix × Unit) × Unit)) => ((strings_Join z8.1.1.labels ([46] : List UInt8)).bind fun r9 => ((host_Validate r9.2.1).bind fun r10 => (bif (!decide (r10.2.1 = (0 : Int))) then (some ((), (([] : List UInt8), (4 : Int), ())))
 else (bif z8.1.1.wild then (bif Nat.ble ((([42, 46] : List UInt8)).length + (r9.2.1).length) 9223372036854775807 then (some ((), ((([42, 46] : List UInt8) ++ r9.2.1), (0 : Int), ())))
 else none)
 else (bif z8.1.1.except then (bif Nat.ble ((([33] : List UInt8)).length + (r9.2.1).length) 9223372036854775807 then (some ((), ((([33] : List UInt8) ++ r9.2.1), (0 : Int), ())))
 else none)
 else (some ((), (r9.2.1, (0 : Int), ())))))))))))))
 else (bif a0.except then (bif (decide (((a0.labels).length : Int) < (2 : Int))) then (some ((), (([] : List UInt8), (4 : Int), ())))
 else ((host_FormatRule_L0 ((a0, ()), a0.labels, ((a0.labels).length : Int), (0 : Int), ())).bind (Sum.elim (fun (z11 : ((List UInt8) × Int × Unit)) => (some ((), (z11.1, z11.2.1, ())))) (fun (z12 : ((ApiSuffix × Unit) × Unit)) => ((strings_Join z12.1.1.labels ([46] : List UInt8)).bind fun r13 => ((host_Validate r13.2.1).bind fun r14 => (bif (!decide (r14.2.1 = (0 : Int))) then (some ((), (([] : List UInt8), (4 : Int), ())))
 else (bif z12.1.1.wild then (bif Nat.ble ((([42, 46] : List UInt8)).length + (r13.2.1).length) 9223372036854775807 then (some ((), ((([42, 46] : List UInt8) ++ r13.2.1), (0 : Int), ())))
 else none)
 else (bif z12.1.1.except then (bif Nat.ble ((([33] : List UInt8)).length + (r13.2.1).length) 9223372036854775807 then (some ((), ((([33] : List UInt8) ++ r13.2.1), (0 : Int), ())))
 else none)
 else (some ((), (r13.2.1, (0 : Int), ()))))))))))))
 else ((host_FormatRule_L0 ((a0, ()), a0.labels, ((a0.labels).length : Int), (0 : Int), ())).bind (Sum.elim (fun (z15 : ((List UInt8) × Int × Unit)) => (some ((), (z15.1, z15.2.1, ())))) (fun (z16 : ((ApiSuffix × Unit) × Unit)) => ((strings_Join z16.1.1.labels ([46] : List UInt8)).bind fun r17 => ((host_Validate r17.2.1).bind fun r18 => (bif (!decide (r18.2.1 = (0 : Int))) then (some ((), (([] : List UInt8), (4 : Int), ())))
 else (bif z16.1.1.wild then (bif Nat.ble ((([42, 46] : List UInt8)).length + (r17.2.1).length) 9223372036854775807 then (some ((), ((([42, 46] : List UInt8) ++ r17.2.1), (0 : Int), ())))
 else none)
 else (bif z16.1.1.except then (bif Nat.ble ((([33] : List UInt8)).length + (r17.2.1).length) 9223372036854775807 then (some ((), ((([33] : List UInt8) ++ r17.2.1), (0 : Int), ())))
 else none)
 else (some ((), (r17.2.1, (0 : Int), ()))))))))))))))
def S_host_FormatRule : FSpec T := ⟨[.f (.v (.agg 4))], [(.v .str), (.v (.int .i64))], fun x => host_FormatRule x.1⟩
def E_host_FormatRule : Env T := ⟨tab.find, cd, globs, flc, fun f ds => match f with
    | 25 => some S_host_Validate
    | 35 => some S_strings_Join
    | 41 => some S_host_validLabel
    | _ => none, fun f => match f with
    | 25 => true
    | 35 => true
    | 41 => true
    | _ => false⟩
def A_host_FormatRule : Loc2 T := ⟨fun id => match id with
    | 0 => some ⟨[(1, .ptr [(.v (.agg 4))]), (30, .f (.v (.rs 1))), (31, .f (.v (.int .i64))), (32, .f (.v (.int .i64)))], [(.ret, [(2, .f (.v .str)), (3, .f (.v (.int .i64)))]), (.exit 0, [(1, .ptr [(.v (.agg 4))])])], host_FormatRule_L0, []⟩
    | _ => none, fun r => match r with
    | _ => none, fun r => match r with
    | _ => false⟩
theorem host_FormatRule_L0_eq (y0 : (ApiSuffix × Unit)) (y1 : (List (List UInt8))) (y2 : Int) (y3 : Int) : run E_host_FormatRule A_host_FormatRule (loopAt 0 (Tryd.f64.body.getD .skip)) (layC cd [(1, .ptr [(.v (.agg 4))]), (30, .f (.v (.rs 1))), (31, .f (.v (.int .i64))), (32, .f (.v (.int .i64)))] [] (y0, y1, y2, y3, ())) (roundK cd [(1, .ptr [(.v (.agg 4))]), (30, .f (.v (.rs 1))), (31, .f (.v (.int .i64))), (32, .f (.v (.int .i64)))] [] [(.ret, [(2, .f (.v .str)), (3, .f (.v (.int .i64)))]), (.exit 0, [(1, .ptr [(.v (.agg 4))])])]) = host_FormatRule_L0b y0 y1 y2 y3 := by kernel_rfl
theorem host_FormatRule_eq (x : tySs T S_host_FormatRule.ps) : run E_host_FormatRule A_host_FormatRule (Tryd.f64.body.getD .skip) (enterT E_host_FormatRule.C S_host_FormatRule.ps x) (retK E_host_FormatRule Tryd.f64.results.toList S_host_FormatRule.ps S_host_FormatRule.rs) = S_host_FormatRule.fn x := by kernel_rfl
theorem host_FormatRule_env : EnvOk Tryd.prog E_host_FormatRule := envOk (E := E_host_FormatRule) cd_ok tys fl_ok fun f ds S h => by
    dsimp only [E_host_FormatRule] at h
    split at h
    · cases h; exact host_Validate_ok
    · cases h; exact strings_Join_ok
    · cases h; exact host_validLabel_ok
    · cases h
theorem host_FormatRule_L0_ok : LoopOk Tryd.prog E_host_FormatRule Tryd.f64.ntmps (kqOf S_host_FormatRule.ps 0) (loopAt 0 (Tryd.f64.body.getD .skip)) ⟨[(1, .ptr [(.v (.agg 4))]), (30, .f (.v (.rs 1))), (31, .f (.v (.int .i64))), (32, .f (.v (.int .i64)))], [(.ret, [(2, .f (.v .str)), (3, .f (.v (.int .i64)))]), (.exit 0, [(1, .ptr [(.v (.agg 4))])])], host_FormatRule_L0, []⟩ :=
  loop_ok (A := A_host_FormatRule) (done := []) (c0 := (Tryd.f64.body.getD .skip)) hmix host_FormatRule_env done_nil rounds (by kernel_rfl) (by kernel_rfl) (fun x => host_FormatRule_L0_eq x.1 x.2.1 x.2.2.1 x.2.2.2.1) (fun _ => rfl)
theorem host_FormatRule_ok : SoundT Tryd.prog cd gdn 64 S_host_FormatRule :=
  sound_fn (E := E_host_FormatRule) (A := A_host_FormatRule) (done := [0]) (c := (Tryd.f64.body.getD .skip)) (S := S_host_FormatRule) (fn := Tryd.f64) hmix host_FormatRule_env Tryd.func64 rfl (by kernel_rfl) (by kernel_rfl) (done_cons rfl host_FormatRule_L0_ok done_nil) (by kernel_rfl) (by kernel_rfl) host_FormatRule_eq
def host_matches (a0 : ApiSuffix) (a1 : (List (List UInt8))) : Option ((Unit) × (Bool × Unit)) :=
 ((host_FormatRule a0).bind fun r1 => (bif (!decide (r1.2.2.1 = (0 : Int))) then (some ((), (false, ())))
 else ((host_ends a1 a0.labels).bind fun r2 => (bif (!r2.2.1) then (some ((), (false, ())))
 else (bif (!a0.wild) then (some ((), (true, ())))
 else (some ((), ((decide (((a0.labels).length : Int) < ((a1).length : Int))), ()))))))))
def S_host_matches : FSpec T := ⟨[.f (.v (.agg 4)), .f (.v (.rs 1))], [(.v .bool)], fun x => host_matches x.1 x.2.1⟩
def E_host_matches : Env T := ⟨tab.find, cd, globs, flc, fun f ds => match f with
    | 45 => some S_host_ends
    | 64 => some S_host_FormatRule
    | _ => none, fun f => match f with
    | 45 => true
    | 64 => true
    | _ => false⟩
def A_host_matches : Loc2 T := ⟨fun id => match id with
    | _ => none, fun r => match r with
    | _ => none, fun r => match r with
    | _ => false⟩
theorem host_matches_eq (x : tySs T S_host_matches.ps) : run E_host_matches A_host_matches (Tryd.f46.body.getD .skip) (enterT E_host_matches.C S_host_matches.ps x) (retK E_host_matches Tryd.f46.results.toList S_host_matches.ps S_host_matches.rs) = S_host_matches.fn x := by kernel_rfl
theorem host_matches_env : EnvOk Tryd.prog E_host_matches := envOk (E := E_host_matches) cd_ok tys fl_ok fun f ds S h => by
    dsimp only [E_host_matches] at h
    split at h
    · cases h; exact host_ends_ok
    · cases h; exact host_FormatRule_ok
    · cases h
theorem host_matches_ok : SoundT Tryd.prog cd gdn 46 S_host_matches :=
  sound_fn (E := E_host_matches) (A := A_host_matches) (done := []) (c := (Tryd.f46.body.getD .skip)) (S := S_host_matches) (fn := Tryd.f46) hmix host_matches_env Tryd.func46 rfl (by kernel_rfl) (by kernel_rfl) done_nil (by kernel_rfl) (by kernel_rfl) host_matches_eq
def host_Public_L0b (y0 : (List (List UInt8))) (y1 : Int) (y2 : Int) (y3 : (List (ApiSuffix))) (y4 : Int) (y5 : Int) : Option (((List (List UInt8)) × Int × Int × (List (ApiSuffix)) × Int × Int × Unit) ⊕ (Int × Int × Unit)) :=
 (bif (decide (y5 < y4)) then ((getI y3 y5).bind fun x3 => ((host_matches x3 y0).bind fun r4 => (bif (!r4.2.1) then (some (Sum.inl (y0, y1, y2, y3, y4, (IntKind.wrap .i64 (y5 + (1 : Int))), ())))
 else (bif x3.except then (let v5 : Int := (bif decide (y2 < ((x3.labels).length : Int)) then ((x3.labels).length : Int) else y2)
 (some (Sum.inl (y0, y1, v5, y3, y4, (IntKind.wrap .i64 (y5 + (1 : Int))), ()))))
 else (bif x3.wild then (let v6 : Int := (bif decide (y1 < (IntKind.wrap .i64 (((x3.labels).length : Int) + (1 : Int)))) then (IntKind.wrap .i64 (((x3.labels).length : Int) + (1 : Int))) else y1)
 (some (Sum.inl (y0, v6, y2, y3, y4, (IntKind.wrap .i64 (y5 + (1 : Int))), ()))))
 else (let v7 : Int := (bif decide (y1 < ((x3.labels).length : Int)) then ((x3.labels).length : Int) else y1)
 (some (Sum.inl (y0, v7, y2, y3, y4, (IntKind.wrap .i64 (y5 + (1 : Int))), ())))))))))
 else (some (Sum.inr (y1, y2, ()))))
def host_Public_L0 (y : ((List (List UInt8)) × Int × Int × (List (ApiSuffix)) × Int × Int × Unit)) : Option (Int × Int × Unit) := iter (fun (y : ((List (List UInt8)) × Int × Int × (List (ApiSuffix)) × Int × Int × Unit)) => host_Public_L0b y.1 y.2.1 y.2.2.1 y.2.2.2.1 y.2.2.2.2.1 y.2.2.2.2.2.1) rounds y
def host_Public (a0 : (List (ApiSuffix))) (a1 : (List UInt8)) : Option ((Unit) × (Int × Unit)) :=
 ((host_Labels a1).bind fun r1 => (bif (decide (((r1.2.1).length : Int) = (0 : Int))) then (some ((), ((0 : Int), ())))
 else (let v2 : Int := (bif decide ((64 : Int) < ((a0).length : Int)) then (64 : Int) else ((a0).length : Int))
 (bif (decide ((0 : Int) ≤ v2) && decide (v2 ≤ ((a0).length : Int))) then ((host_Public_L0 (r1.2.1, (1 : Int), (0 : Int), (List.take (v2).toNat a0), (((List.take (v2).toNat a0)).length : Int), (0 : Int), ())).bind (fun (z8 : (Int × Int × Unit)) => (bif (decide ((0 : Int) < z8.2.1)) then (some ((), ((IntKind.wrap .i64 (z8.2.1 - (1 : Int))), ())))
 else (some ((), (z8.1, ()))))))
 else none))))
def S_host_Public : FSpec T := ⟨[.f (.v (.rs 4)), .f (.v .str)], [(.v (.int .i64))], fun x => host_Public x.1 x.2.1⟩
def E_host_Public : Env T := ⟨tab.find, cd, globs, flc, fun f ds => match f with
    | 31 => some S_host_Labels
    | 46 => some S_host_matches
    | _ => none, fun f => match f with
    | 46 => true
    | _ => false⟩
def A_host_Public : Loc2 T := ⟨fun id => match id with
    | 0 => some ⟨[(5, .f (.own 1)), (6, .f (.v (.int .i64))), (7, .f (.v (.int .i64))), (19, .f (.v (.rs 4))), (20, .f (.v (.int .i64))), (21, .f (.v (.int .i64)))], [(.exit 0, [(6, .f (.v (.int .i64))), (7, .f (.v (.int .i64)))])], host_Public_L0, []⟩
    | _ => none, fun r => match r with
    | _ => none, fun r => match r with
    | _ => false⟩
theorem host_Public_L0_eq (y0 : (List (List UInt8))) (y1 : Int) (y2 : Int) (y3 : (List (ApiSuffix))) (y4 : Int) (y5 : Int) : run E_host_Public A_host_Public (loopAt 0 (Tryd.f32.body.getD .skip)) (layC cd [(5, .f (.own 1)), (6, .f (.v (.int .i64))), (7, .f (.v (.int .i64))), (19, .f (.v (.rs 4))), (20, .f (.v (.int .i64))), (21, .f (.v (.int .i64)))] [] (y0, y1, y2, y3, y4, y5, ())) (roundK cd [(5, .f (.own 1)), (6, .f (.v (.int .i64))), (7, .f (.v (.int .i64))), (19, .f (.v (.rs 4))), (20, .f (.v (.int .i64))), (21, .f (.v (.int .i64)))] [] [(.exit 0, [(6, .f (.v (.int .i64))), (7, .f (.v (.int .i64)))])]) = host_Public_L0b y0 y1 y2 y3 y4 y5 := by kernel_rfl
theorem host_Public_eq (x : tySs T S_host_Public.ps) : run E_host_Public A_host_Public (Tryd.f32.body.getD .skip) (enterT E_host_Public.C S_host_Public.ps x) (retK E_host_Public Tryd.f32.results.toList S_host_Public.ps S_host_Public.rs) = S_host_Public.fn x := by kernel_rfl
theorem host_Public_env : EnvOk Tryd.prog E_host_Public := envOk (E := E_host_Public) cd_ok tys fl_ok fun f ds S h => by
    dsimp only [E_host_Public] at h
    split at h
    · cases h; exact host_Labels_ok
    · cases h; exact host_matches_ok
    · cases h
theorem host_Public_L0_ok : LoopOk Tryd.prog E_host_Public Tryd.f32.ntmps (kqOf S_host_Public.ps 0) (loopAt 0 (Tryd.f32.body.getD .skip)) ⟨[(5, .f (.own 1)), (6, .f (.v (.int .i64))), (7, .f (.v (.int .i64))), (19, .f (.v (.rs 4))), (20, .f (.v (.int .i64))), (21, .f (.v (.int .i64)))], [(.exit 0, [(6, .f (.v (.int .i64))), (7, .f (.v (.int .i64)))])], host_Public_L0, []⟩ :=
  loop_ok (A := A_host_Public) (done := []) (c0 := (Tryd.f32.body.getD .skip)) hmix host_Public_env done_nil rounds (by kernel_rfl) (by kernel_rfl) (fun x => host_Public_L0_eq x.1 x.2.1 x.2.2.1 x.2.2.2.1 x.2.2.2.2.1 x.2.2.2.2.2.1) (fun _ => rfl)
theorem host_Public_ok : SoundT Tryd.prog cd gdn 32 S_host_Public :=
  sound_fn (E := E_host_Public) (A := A_host_Public) (done := [0]) (c := (Tryd.f32.body.getD .skip)) (S := S_host_Public) (fn := Tryd.f32) hmix host_Public_env Tryd.func32 rfl (by kernel_rfl) (by kernel_rfl) (done_cons rfl host_Public_L0_ok done_nil) (by kernel_rfl) (by kernel_rfl) host_Public_eq
def origin_Permits (a0 : (List (ApiSuffix))) (a1 : ApiOrigin) (a2 : (List UInt8)) : Option ((Unit) × (Int × Unit)) :=
 ((host_Validate a1.host).bind fun r1 => (bif (!decide (r1.2.1 = (0 : Int))) then (some ((), (r1.2.1, ())))
 else ((host_Validate a2).bind fun r2 => (bif (!decide (r2.2.1 = (0 : Int))) then (some ((), (r2.2.1, ())))
 else (bif (decide (a2 = ([108, 111, 99, 97, 108, 104, 111, 115, 116] : List UInt8))) then (bif (decide (a1.host = ([108, 111, 99, 97, 108, 104, 111, 115, 116] : List UInt8))) then (some ((), ((0 : Int), ())))
 else (bif a1.secure then ((host_Within a1.host a2).bind fun r3 => (bif r3.2.1 then ((host_Labels a2).bind fun r4 => ((host_Public a0 a1.host).bind fun r5 => (bif (decide (r5.2.1 < ((r4.2.1).length : Int))) then (some ((), ((0 : Int), ())))
 else (some ((), ((34 : Int), ()))))))
 else (some ((), ((34 : Int), ())))))
 else (some ((), ((34 : Int), ())))))
 else (bif a1.secure then ((host_Within a1.host a2).bind fun r6 => (bif r6.2.1 then ((host_Labels a2).bind fun r7 => ((host_Public a0 a1.host).bind fun r8 => (bif (decide (r8.2.1 < ((r7.2.1).length : Int))) then (some ((), ((0 : Int), ())))
 else (some ((), ((34 : Int), ()))))))
 else (some ((), ((34 : Int), ())))))
 else (some ((), ((34 : Int), ())))))))))
def S_origin_Permits : FSpec T := ⟨[.f (.v (.rs 4)), .f (.v (.agg 3)), .f (.v .str)], [(.v (.int .i64))], fun x => origin_Permits x.1 x.2.1 x.2.2.1⟩
def E_origin_Permits : Env T := ⟨tab.find, cd, globs, flc, fun f ds => match f with
    | 25 => some S_host_Validate
    | 30 => some S_host_Within
    | 31 => some S_host_Labels
    | 32 => some S_host_Public
    | _ => none, fun f => match f with
    | 25 => true
    | 30 => true
    | 32 => true
    | _ => false⟩
def A_origin_Permits : Loc2 T := ⟨fun id => match id with
    | _ => none, fun r => match r with
    | _ => none, fun r => match r with
    | 9 => true
    | _ => false⟩
theorem origin_Permits_eq (x : tySs T S_origin_Permits.ps) : run E_origin_Permits A_origin_Permits (Tryd.f15.body.getD .skip) (enterT E_origin_Permits.C S_origin_Permits.ps x) (retK E_origin_Permits Tryd.f15.results.toList S_origin_Permits.ps S_origin_Permits.rs) = S_origin_Permits.fn x := by kernel_rfl
theorem origin_Permits_env : EnvOk Tryd.prog E_origin_Permits := envOk (E := E_origin_Permits) cd_ok tys fl_ok fun f ds S h => by
    dsimp only [E_origin_Permits] at h
    split at h
    · cases h; exact host_Validate_ok
    · cases h; exact host_Within_ok
    · cases h; exact host_Labels_ok
    · cases h; exact host_Public_ok
    · cases h
theorem origin_Permits_ok : SoundT Tryd.prog cd gdn 15 S_origin_Permits :=
  sound_fn (E := E_origin_Permits) (A := A_origin_Permits) (done := []) (c := (Tryd.f15.body.getD .skip)) (S := S_origin_Permits) (fn := Tryd.f15) hmix origin_Permits_env Tryd.func15 rfl (by kernel_rfl) (by kernel_rfl) done_nil (by kernel_rfl) (by kernel_rfl) origin_Permits_eq
def passkeylaw24_awake : Option ((Unit) × (Bool × Unit)) :=
 ((origin_Parse ([104, 116, 116, 112, 115, 58, 47, 47, 120, 46, 108, 111, 103, 105, 110, 46, 101, 120, 97, 109, 112, 108, 101, 46, 99, 111, 109, 58, 56, 52, 52, 51] : List UInt8)).bind fun r1 => ((origin_Format r1.2.1).bind fun r2 => (let v3 : List (ApiSuffix) := ([(⟨([([99, 111, 109] : List UInt8)] : List (List UInt8)), false, false⟩ : ApiSuffix)] : List (ApiSuffix))
 (bif (decide (r1.2.2.1 = (0 : Int))) then (bif (decide (r2.2.2.1 = (0 : Int))) then (let v4 : Bool := (decide (r2.2.1 = ([104, 116, 116, 112, 115, 58, 47, 47, 120, 46, 108, 111, 103, 105, 110, 46, 101, 120, 97, 109, 112, 108, 101, 46, 99, 111, 109, 58, 56, 52, 52, 51] : List UInt8)))
 (bif v4 then ((origin_Permits v3 r1.2.1 ([101, 120, 97, 109, 112, 108, 101, 46, 99, 111, 109] : List UInt8)).bind fun r5 => (bif (decide (r5.2.1 = (0 : Int))) then ((origin_Permits v3 r1.2.1 ([99, 111, 109] : List UInt8)).bind fun r6 => (bif (decide (r6.2.1 = (34 : Int))) then ((origin_Permits v3 r1.2.1 ([111, 116, 104, 101, 114, 46, 99, 111, 109] : List UInt8)).bind fun r7 => (some ((), ((decide (r7.2.1 = (34 : Int))), ()))))
 else (some ((), (false, ())))))
 else (some ((), (false, ())))))
 else (some ((), (false, ())))))
 else (some ((), (false, ()))))
 else (some ((), (false, ())))))))
def S_passkeylaw24_awake : FSpec T := ⟨[], [(.v .bool)], fun x => passkeylaw24_awake ⟩
def E_passkeylaw24_awake : Env T := ⟨tab.find, cd, globs, flc, fun f ds => match f with
    | 13 => some S_origin_Format
    | 14 => some S_origin_Parse
    | 15 => some S_origin_Permits
    | _ => none, fun f => match f with
    | 13 => true
    | 14 => true
    | 15 => true
    | _ => false⟩
def A_passkeylaw24_awake : Loc2 T := ⟨fun id => match id with
    | _ => none, fun r => match r with
    | _ => none, fun r => match r with
    | _ => false⟩
theorem passkeylaw24_awake_eq (x : tySs T S_passkeylaw24_awake.ps) : run E_passkeylaw24_awake A_passkeylaw24_awake (Tryd.f5.body.getD .skip) (enterT E_passkeylaw24_awake.C S_passkeylaw24_awake.ps x) (retK E_passkeylaw24_awake Tryd.f5.results.toList S_passkeylaw24_awake.ps S_passkeylaw24_awake.rs) = S_passkeylaw24_awake.fn x := by kernel_rfl
theorem passkeylaw24_awake_env : EnvOk Tryd.prog E_passkeylaw24_awake := envOk (E := E_passkeylaw24_awake) cd_ok tys fl_ok fun f ds S h => by
    dsimp only [E_passkeylaw24_awake] at h
    split at h
    · cases h; exact origin_Format_ok
    · cases h; exact origin_Parse_ok
    · cases h; exact origin_Permits_ok
    · cases h
theorem passkeylaw24_awake_ok : SoundT Tryd.prog cd gdn 5 S_passkeylaw24_awake :=
  sound_fn (E := E_passkeylaw24_awake) (A := A_passkeylaw24_awake) (done := []) (c := (Tryd.f5.body.getD .skip)) (S := S_passkeylaw24_awake) (fn := Tryd.f5) hmix passkeylaw24_awake_env Tryd.func5 rfl (by kernel_rfl) (by kernel_rfl) done_nil (by kernel_rfl) (by kernel_rfl) passkeylaw24_awake_eq
def passkeycast_Rules_L0b (y0 : Int) (y1 : (List (ApiSuffix))) (y2 : (List (ApiSuffix))) (y3 : Int) : Option ((Int × (List (ApiSuffix)) × (List (ApiSuffix)) × Int × Unit) ⊕ ((List (ApiSuffix)) × Unit)) :=
 (bif (decide (y3 < ((y1).length : Int))) then (let v6 : Int := (Int.fdiv y0 (2 ^ (min (BitVec.ofInt 64 y3).toNat (IntKind.bits .i64))))
 (let v7 : Int := (IntKind.wrap .i64 ((BitVec.ofInt (IntKind.bits .i64) v6 &&& BitVec.ofInt (IntKind.bits .i64) (1 : Int)).toNat : Int))
 (bif (decide (v7 = (0 : Int))) then (bif (decide ((0 : Int) ≤ y3) && decide (y3 < ((y1).length : Int))) then (((y1)[(y3).toNat]?).bind fun x8 => (bif small ((y2).length + (([x8] : List (ApiSuffix)) : List (ApiSuffix)).length) 32 then (some (Sum.inl (y0, y1, (y2 ++ ([x8] : List (ApiSuffix))), (IntKind.wrap .i64 (y3 + (1 : Int))), ())))
 else none))
 else none)
 else (some (Sum.inl (y0, y1, y2, (IntKind.wrap .i64 (y3 + (1 : Int))), ()))))))
 else (some (Sum.inr (y2, ()))))
def passkeycast_Rules_L0 (y : (Int × (List (ApiSuffix)) × (List (ApiSuffix)) × Int × Unit)) : Option ((List (ApiSuffix)) × Unit) := iter (fun (y : (Int × (List (ApiSuffix)) × (List (ApiSuffix)) × Int × Unit)) => passkeycast_Rules_L0b y.1 y.2.1 y.2.2.1 y.2.2.2.1) rounds y
def passkeycast_Rules (a0 : Int) : Option ((Unit) × ((List (ApiSuffix)) × Unit)) :=
 (let v1 : List (List UInt8) := ([([99, 111] : List UInt8), ([117, 107] : List UInt8)] : List (List UInt8))
 (let v2 : List (List UInt8) := ([([119, 119, 119] : List UInt8), ([99, 107] : List UInt8)] : List (List UInt8))
 (let v3 : List (List UInt8) := ([([103, 105, 116, 104, 117, 98] : List UInt8), ([105, 111] : List UInt8)] : List (List UInt8))
 (let v4 : List (List UInt8) := ([([98] : List UInt8), ([99, 111] : List UInt8), ([117, 107] : List UInt8)] : List (List UInt8))
 (let v5 : List (ApiSuffix) := ([(⟨([([99, 111, 109] : List UInt8)] : List (List UInt8)), false, false⟩ : ApiSuffix), (⟨([([117, 107] : List UInt8)] : List (List UInt8)), false, false⟩ : ApiSuffix), (⟨v1, false, false⟩ : ApiSuffix), (⟨([([99, 107] : List UInt8)] : List (List UInt8)), true, false⟩ : ApiSuffix), (⟨v2, false, true⟩ : ApiSuffix), (⟨v3, false, false⟩ : ApiSuffix), (⟨([([116, 101, 115, 116] : List UInt8)] : List (List UInt8)), false, false⟩ : ApiSuffix), (⟨v4, false, true⟩ : ApiSuffix)] : List (ApiSuffix))
 ((passkeycast_Rules_L0 (a0, v5, [], (0 : Int), ())).bind (fun (z9 : ((List (ApiSuffix)) × Unit)) => (some ((), (z9.1, ()))))))))))
def S_passkeycast_Rules : FSpec T := ⟨[.f (.v (.int .i64))], [(.own 4)], fun x => passkeycast_Rules x.1⟩
def E_passkeycast_Rules : Env T := ⟨tab.find, cd, globs, flc, fun f ds => match f with
    | _ => none, fun f => match f with
    | _ => false⟩
def A_passkeycast_Rules : Loc2 T := ⟨fun id => match id with
    | 0 => some ⟨[(0, .f (.v (.int .i64))), (3, .f (.own 4)), (4, .f (.own 4)), (5, .f (.v (.int .i64)))], [(.exit 0, [(4, .f (.own 4))])], passkeycast_Rules_L0, []⟩
    | _ => none, fun r => match r with
    | _ => none, fun r => match r with
    | _ => false⟩
theorem passkeycast_Rules_L0_eq (y0 : Int) (y1 : (List (ApiSuffix))) (y2 : (List (ApiSuffix))) (y3 : Int) : run E_passkeycast_Rules A_passkeycast_Rules (loopAt 0 (Tryd.f6.body.getD .skip)) (layC cd [(0, .f (.v (.int .i64))), (3, .f (.own 4)), (4, .f (.own 4)), (5, .f (.v (.int .i64)))] [] (y0, y1, y2, y3, ())) (roundK cd [(0, .f (.v (.int .i64))), (3, .f (.own 4)), (4, .f (.own 4)), (5, .f (.v (.int .i64)))] [] [(.exit 0, [(4, .f (.own 4))])]) = passkeycast_Rules_L0b y0 y1 y2 y3 := by kernel_rfl
theorem passkeycast_Rules_eq (x : tySs T S_passkeycast_Rules.ps) : run E_passkeycast_Rules A_passkeycast_Rules (Tryd.f6.body.getD .skip) (enterT E_passkeycast_Rules.C S_passkeycast_Rules.ps x) (retK E_passkeycast_Rules Tryd.f6.results.toList S_passkeycast_Rules.ps S_passkeycast_Rules.rs) = S_passkeycast_Rules.fn x := by kernel_rfl
theorem passkeycast_Rules_env : EnvOk Tryd.prog E_passkeycast_Rules := envOk (E := E_passkeycast_Rules) cd_ok tys fl_ok fun f ds S h => by cases h
theorem passkeycast_Rules_L0_ok : LoopOk Tryd.prog E_passkeycast_Rules Tryd.f6.ntmps (kqOf S_passkeycast_Rules.ps 0) (loopAt 0 (Tryd.f6.body.getD .skip)) ⟨[(0, .f (.v (.int .i64))), (3, .f (.own 4)), (4, .f (.own 4)), (5, .f (.v (.int .i64)))], [(.exit 0, [(4, .f (.own 4))])], passkeycast_Rules_L0, []⟩ :=
  loop_ok (A := A_passkeycast_Rules) (done := []) (c0 := (Tryd.f6.body.getD .skip)) hmix passkeycast_Rules_env done_nil rounds (by kernel_rfl) (by kernel_rfl) (fun x => passkeycast_Rules_L0_eq x.1 x.2.1 x.2.2.1 x.2.2.2.1) (fun _ => rfl)
theorem passkeycast_Rules_ok : SoundT Tryd.prog cd gdn 6 S_passkeycast_Rules :=
  sound_fn (E := E_passkeycast_Rules) (A := A_passkeycast_Rules) (done := [0]) (c := (Tryd.f6.body.getD .skip)) (S := S_passkeycast_Rules) (fn := Tryd.f6) hmix passkeycast_Rules_env Tryd.func6 rfl (by kernel_rfl) (by kernel_rfl) (done_cons rfl passkeycast_Rules_L0_ok done_nil) (by kernel_rfl) (by kernel_rfl) passkeycast_Rules_eq
def passkeycast_Mod (a0 : Int) (a1 : Int) : Option ((Unit) × (Int × Unit)) :=
 (bif decide ((BitVec.ofInt 64 a1) = 0) then none
 else (let v1 : Int := (IntKind.wrap .i64 (((BitVec.ofInt 64 a0) % (BitVec.ofInt 64 a1)).toNat : Int))
 (some ((), (v1, ())))))
def S_passkeycast_Mod : FSpec T := ⟨[.f (.v (.int .i64)), .f (.v (.int .i64))], [(.v (.int .i64))], fun x => passkeycast_Mod x.1 x.2.1⟩
def E_passkeycast_Mod : Env T := ⟨tab.find, cd, globs, flc, fun f ds => match f with
    | _ => none, fun f => match f with
    | _ => false⟩
def A_passkeycast_Mod : Loc2 T := ⟨fun id => match id with
    | _ => none, fun r => match r with
    | _ => none, fun r => match r with
    | _ => false⟩
theorem passkeycast_Mod_eq (x : tySs T S_passkeycast_Mod.ps) : run E_passkeycast_Mod A_passkeycast_Mod (Tryd.f9.body.getD .skip) (enterT E_passkeycast_Mod.C S_passkeycast_Mod.ps x) (retK E_passkeycast_Mod Tryd.f9.results.toList S_passkeycast_Mod.ps S_passkeycast_Mod.rs) = S_passkeycast_Mod.fn x := by kernel_rfl
theorem passkeycast_Mod_env : EnvOk Tryd.prog E_passkeycast_Mod := envOk (E := E_passkeycast_Mod) cd_ok tys fl_ok fun f ds S h => by cases h
theorem passkeycast_Mod_ok : SoundT Tryd.prog cd gdn 9 S_passkeycast_Mod :=
  sound_fn (E := E_passkeycast_Mod) (A := A_passkeycast_Mod) (done := []) (c := (Tryd.f9.body.getD .skip)) (S := S_passkeycast_Mod) (fn := Tryd.f9) hmix passkeycast_Mod_env Tryd.func9 rfl (by kernel_rfl) (by kernel_rfl) done_nil (by kernel_rfl) (by kernel_rfl) passkeycast_Mod_eq
def passkeycast_Host (a0 : Int) : Option ((Unit) × ((List UInt8) × Unit)) :=
 (let v1 : List (List UInt8) := ([([101, 120, 97, 109, 112, 108, 101, 46, 99, 111, 109] : List UInt8), ([108, 111, 103, 105, 110, 46, 101, 120, 97, 109, 112, 108, 101, 46, 99, 111, 109] : List UInt8), ([97, 46, 98, 46, 99, 111, 46, 117, 107] : List UInt8), ([98, 46, 99, 111, 46, 117, 107] : List UInt8), ([99, 111, 46, 117, 107] : List UInt8), ([117, 107] : List UInt8), ([120, 46, 121, 46, 99, 107] : List UInt8), ([119, 119, 119, 46, 99, 107] : List UInt8), ([99, 107] : List UInt8), ([108, 111, 99, 97, 108, 104, 111, 115, 116] : List UInt8), ([101, 118, 105, 108, 46, 116, 101, 115, 116] : List UInt8), ([101, 120, 97, 109, 112, 108, 101, 46, 99, 111, 109, 46, 101, 118, 105, 108, 46, 116, 101, 115, 116] : List UInt8), ([97, 46, 108, 111, 103, 105, 110, 46, 101, 120, 97, 109, 112, 108, 101, 46, 99, 111, 109] : List UInt8), ([120, 97, 109, 112, 108, 101, 46, 99, 111, 109] : List UInt8), ([121, 46, 99, 107] : List UInt8), ([122, 46, 120, 46, 121, 46, 99, 107] : List UInt8), ([103, 105, 116, 104, 117, 98, 46, 105, 111] : List UInt8), ([109, 101, 46, 103, 105, 116, 104, 117, 98, 46, 105, 111] : List UInt8), ([121, 111, 117, 46, 103, 105, 116, 104, 117, 98, 46, 105, 111] : List UInt8), ([105, 111] : List UInt8), ([49, 46, 50, 46, 51, 46, 52] : List UInt8), ([] : List UInt8), ([97, 46, 46, 98] : List UInt8), ([69, 120, 97, 109, 112, 108, 101, 46, 99, 111, 109] : List UInt8), ([45, 97, 46, 99, 111, 109] : List UInt8), ([97, 46, 99, 111, 109, 46] : List UInt8), ([97, 45, 98, 46, 99, 49] : List UInt8), ([99, 49] : List UInt8)] : List (List UInt8))
 ((passkeycast_Mod a0 (28 : Int)).bind fun r2 => (bif (decide ((0 : Int) ≤ r2.2.1) && decide (r2.2.1 < (28 : Int))) then (((v1)[(r2.2.1).toNat]?).bind fun x3 => (some ((), (x3, ()))))
 else none)))
def S_passkeycast_Host : FSpec T := ⟨[.f (.v (.int .i64))], [(.v .str)], fun x => passkeycast_Host x.1⟩
def E_passkeycast_Host : Env T := ⟨tab.find, cd, globs, flc, fun f ds => match f with
    | 9 => some S_passkeycast_Mod
    | _ => none, fun f => match f with
    | 9 => true
    | _ => false⟩
def A_passkeycast_Host : Loc2 T := ⟨fun id => match id with
    | _ => none, fun r => match r with
    | _ => none, fun r => match r with
    | _ => false⟩
theorem passkeycast_Host_eq (x : tySs T S_passkeycast_Host.ps) : run E_passkeycast_Host A_passkeycast_Host (Tryd.f16.body.getD .skip) (enterT E_passkeycast_Host.C S_passkeycast_Host.ps x) (retK E_passkeycast_Host Tryd.f16.results.toList S_passkeycast_Host.ps S_passkeycast_Host.rs) = S_passkeycast_Host.fn x := by kernel_rfl
theorem passkeycast_Host_env : EnvOk Tryd.prog E_passkeycast_Host := envOk (E := E_passkeycast_Host) cd_ok tys fl_ok fun f ds S h => by
    dsimp only [E_passkeycast_Host] at h
    split at h
    · cases h; exact passkeycast_Mod_ok
    · cases h
theorem passkeycast_Host_ok : SoundT Tryd.prog cd gdn 16 S_passkeycast_Host :=
  sound_fn (E := E_passkeycast_Host) (A := A_passkeycast_Host) (done := []) (c := (Tryd.f16.body.getD .skip)) (S := S_passkeycast_Host) (fn := Tryd.f16) hmix passkeycast_Host_env Tryd.func16 rfl (by kernel_rfl) (by kernel_rfl) done_nil (by kernel_rfl) (by kernel_rfl) passkeycast_Host_eq
def passkeylaw24_text (a0 : Int) (a1 : Int) : Option ((Unit) × ((List UInt8) × Unit)) :=
 (let v1 : List (List UInt8) := ([([104, 116, 116, 112, 115, 58, 47, 47] : List UInt8), ([104, 116, 116, 112, 58, 47, 47] : List UInt8), ([104, 116, 116, 112, 115, 58, 47] : List UInt8), ([] : List UInt8), ([102, 116, 112, 58, 47, 47] : List UInt8), ([72, 84, 84, 80, 83, 58, 47, 47] : List UInt8)] : List (List UInt8))
 (let v2 : List (Int) := ([(0 : Int), (0 : Int), (0 : Int), (1 : Int), (1 : Int), (2 : Int), (3 : Int), (4 : Int), (5 : Int), (0 : Int)] : List (Int))
 ((passkeycast_Mod a1 (10 : Int)).bind fun r3 => (bif (decide ((0 : Int) ≤ r3.2.1) && decide (r3.2.1 < (10 : Int))) then (((v2)[(r3.2.1).toNat]?).bind fun x4 => (bif (decide ((0 : Int) ≤ x4) && decide (x4 < (6 : Int))) then (((v1)[(x4).toNat]?).bind fun x5 => ((passkeycast_Host a0).bind fun r6 => (bif Nat.ble ((x5).length + (r6.2.1).length) 9223372036854775807 then (let v7 : List (List UInt8) := ([([] : List UInt8), ([] : List UInt8), ([58, 56, 48, 56, 48] : List UInt8), ([58, 52, 52, 51] : List UInt8), ([58, 56, 48] : List UInt8), ([58, 48] : List UInt8), ([58, 54, 53, 53, 51, 53] : List UInt8), ([58, 54, 53, 53, 51, 54] : List UInt8), ([58, 48, 49] : List UInt8), ([58] : List UInt8), ([58, 56, 97] : List UInt8), ([58, 56, 48, 56, 48, 47] : List UInt8), ([47] : List UInt8), ([58, 49, 58, 50] : List UInt8), ([58, 57, 57, 57, 57, 57] : List UInt8)] : List (List UInt8))
 ((passkeycast_Mod (IntKind.wrap .i64 (Int.tdiv a1 (10 : Int))) (15 : Int)).bind fun r8 => (bif (decide ((0 : Int) ≤ r8.2.1) && decide (r8.2.1 < (15 : Int))) then (((v7)[(r8.2.1).toNat]?).bind fun x9 => (bif Nat.ble (((x5 ++ r6.2.1)).length + (x9).length) 9223372036854775807 then (some ((), (((x5 ++ r6.2.1) ++ x9), ())))
 else none))
 else none)))
 else none)))
 else none))
 else none))))
def S_passkeylaw24_text : FSpec T := ⟨[.f (.v (.int .i64)), .f (.v (.int .i64))], [(.v .str)], fun x => passkeylaw24_text x.1 x.2.1⟩
def E_passkeylaw24_text : Env T := ⟨tab.find, cd, globs, flc, fun f ds => match f with
    | 9 => some S_passkeycast_Mod
    | 16 => some S_passkeycast_Host
    | _ => none, fun f => match f with
    | 9 => true
    | 16 => true
    | _ => false⟩
def A_passkeylaw24_text : Loc2 T := ⟨fun id => match id with
    | _ => none, fun r => match r with
    | _ => none, fun r => match r with
    | _ => false⟩
theorem passkeylaw24_text_eq (x : tySs T S_passkeylaw24_text.ps) : run E_passkeylaw24_text A_passkeylaw24_text (Tryd.f7.body.getD .skip) (enterT E_passkeylaw24_text.C S_passkeylaw24_text.ps x) (retK E_passkeylaw24_text Tryd.f7.results.toList S_passkeylaw24_text.ps S_passkeylaw24_text.rs) = S_passkeylaw24_text.fn x := by kernel_rfl
theorem passkeylaw24_text_env : EnvOk Tryd.prog E_passkeylaw24_text := envOk (E := E_passkeylaw24_text) cd_ok tys fl_ok fun f ds S h => by
    dsimp only [E_passkeylaw24_text] at h
    split at h
    · cases h; exact passkeycast_Mod_ok
    · cases h; exact passkeycast_Host_ok
    · cases h
theorem passkeylaw24_text_ok : SoundT Tryd.prog cd gdn 7 S_passkeylaw24_text :=
  sound_fn (E := E_passkeylaw24_text) (A := A_passkeylaw24_text) (done := []) (c := (Tryd.f7.body.getD .skip)) (S := S_passkeylaw24_text) (fn := Tryd.f7) hmix passkeylaw24_text_env Tryd.func7 rfl (by kernel_rfl) (by kernel_rfl) done_nil (by kernel_rfl) (by kernel_rfl) passkeylaw24_text_eq
def passkeycast_Origin (a0 : Int) : Option ((Unit) × (ApiOrigin × Unit)) :=
 (let v1 : Int := (IntKind.wrap .i64 ((BitVec.ofInt (IntKind.bits .i64) a0 &&& BitVec.ofInt (IntKind.bits .i64) (7 : Int)).toNat : Int))
 ((passkeycast_Host (Int.fdiv a0 (2 ^ (min 3 (IntKind.bits .i64))))).bind fun r2 => (let v3 : List (Int) := ([(443 : Int), (80 : Int), (8080 : Int), (443 : Int), (1 : Int), (65535 : Int), (0 : Int), (65536 : Int)] : List (Int))
 (let v4 : Int := (IntKind.wrap .i64 ((BitVec.ofInt (IntKind.bits .i64) (Int.fdiv a0 (2 ^ (min 10 (IntKind.bits .i64)))) &&& BitVec.ofInt (IntKind.bits .i64) (7 : Int)).toNat : Int))
 (bif (decide ((0 : Int) ≤ v4) && decide (v4 < (8 : Int))) then (((v3)[(v4).toNat]?).bind fun x5 => (some ((), ((⟨(!decide (v1 = (7 : Int))), r2.2.1, x5⟩ : ApiOrigin), ()))))
 else none)))))
def S_passkeycast_Origin : FSpec T := ⟨[.f (.v (.int .i64))], [(.v (.agg 3))], fun x => passkeycast_Origin x.1⟩
def E_passkeycast_Origin : Env T := ⟨tab.find, cd, globs, flc, fun f ds => match f with
    | 16 => some S_passkeycast_Host
    | _ => none, fun f => match f with
    | 16 => true
    | _ => false⟩
def A_passkeycast_Origin : Loc2 T := ⟨fun id => match id with
    | _ => none, fun r => match r with
    | _ => none, fun r => match r with
    | 1 => true
    | _ => false⟩
theorem passkeycast_Origin_eq (x : tySs T S_passkeycast_Origin.ps) : run E_passkeycast_Origin A_passkeycast_Origin (Tryd.f8.body.getD .skip) (enterT E_passkeycast_Origin.C S_passkeycast_Origin.ps x) (retK E_passkeycast_Origin Tryd.f8.results.toList S_passkeycast_Origin.ps S_passkeycast_Origin.rs) = S_passkeycast_Origin.fn x := by kernel_rfl
theorem passkeycast_Origin_env : EnvOk Tryd.prog E_passkeycast_Origin := envOk (E := E_passkeycast_Origin) cd_ok tys fl_ok fun f ds S h => by
    dsimp only [E_passkeycast_Origin] at h
    split at h
    · cases h; exact passkeycast_Host_ok
    · cases h
theorem passkeycast_Origin_ok : SoundT Tryd.prog cd gdn 8 S_passkeycast_Origin :=
  sound_fn (E := E_passkeycast_Origin) (A := A_passkeycast_Origin) (done := []) (c := (Tryd.f8.body.getD .skip)) (S := S_passkeycast_Origin) (fn := Tryd.f8) hmix passkeycast_Origin_env Tryd.func8 rfl (by kernel_rfl) (by kernel_rfl) done_nil (by kernel_rfl) (by kernel_rfl) passkeycast_Origin_eq
def passkeyref23_scheme (a0 : Bool) : Option ((Unit) × ((List UInt8) × Unit)) :=
 (bif a0 then (some ((), (([104, 116, 116, 112, 115, 58, 47, 47] : List UInt8), ())))
 else (some ((), (([104, 116, 116, 112, 58, 47, 47] : List UInt8), ()))))
def S_passkeyref23_scheme : FSpec T := ⟨[.f (.v .bool)], [(.v .str)], fun x => passkeyref23_scheme x.1⟩
def E_passkeyref23_scheme : Env T := ⟨tab.find, cd, globs, flc, fun f ds => match f with
    | _ => none, fun f => match f with
    | _ => false⟩
def A_passkeyref23_scheme : Loc2 T := ⟨fun id => match id with
    | _ => none, fun r => match r with
    | _ => none, fun r => match r with
    | _ => false⟩
theorem passkeyref23_scheme_eq (x : tySs T S_passkeyref23_scheme.ps) : run E_passkeyref23_scheme A_passkeyref23_scheme (Tryd.f17.body.getD .skip) (enterT E_passkeyref23_scheme.C S_passkeyref23_scheme.ps x) (retK E_passkeyref23_scheme Tryd.f17.results.toList S_passkeyref23_scheme.ps S_passkeyref23_scheme.rs) = S_passkeyref23_scheme.fn x := by kernel_rfl
theorem passkeyref23_scheme_env : EnvOk Tryd.prog E_passkeyref23_scheme := envOk (E := E_passkeyref23_scheme) cd_ok tys fl_ok fun f ds S h => by cases h
theorem passkeyref23_scheme_ok : SoundT Tryd.prog cd gdn 17 S_passkeyref23_scheme :=
  sound_fn (E := E_passkeyref23_scheme) (A := A_passkeyref23_scheme) (done := []) (c := (Tryd.f17.body.getD .skip)) (S := S_passkeyref23_scheme) (fn := Tryd.f17) hmix passkeyref23_scheme_env Tryd.func17 rfl (by kernel_rfl) (by kernel_rfl) done_nil (by kernel_rfl) (by kernel_rfl) passkeyref23_scheme_eq
def passkeyref23_split_L0b (y0 : (List UInt8)) (y1 : UInt8) (y2 : (List (List UInt8))) (y3 : Int) (y4 : Int) : Option (((List UInt8) × UInt8 × (List (List UInt8)) × Int × Int × Unit) ⊕ ((List UInt8) × (List (List UInt8)) × Int × Unit)) :=
 (bif (decide (y4 < ((y0).length : Int))) then ((getI y0 y4).bind fun x1 => (bif (decide (x1.toBitVec = y1.toBitVec)) then (bif (decide ((0 : Int) ≤ y4) && decide (y4 ≤ ((y0).length : Int))) then (bif (decide ((0 : Int) ≤ y3) && decide (y3 ≤ ((y4).toNat : Int))) then (let v2 : List (List UInt8) := ([(List.drop (y3).toNat (List.take (y4).toNat y0))] : List (List UInt8))
 (bif small ((y2).length + (v2 : List (List UInt8)).length) 16 then (some (Sum.inl (y0, y1, (y2 ++ v2), (IntKind.wrap .i64 (y4 + (1 : Int))), (IntKind.wrap .i64 (y4 + (1 : Int))), ())))
 else none))
 else none)
 else none)
 else (some (Sum.inl (y0, y1, y2, y3, (IntKind.wrap .i64 (y4 + (1 : Int))), ())))))
 else (some (Sum.inr (y0, y2, y3, ()))))
def passkeyref23_split_L0 (y : ((List UInt8) × UInt8 × (List (List UInt8)) × Int × Int × Unit)) : Option ((List UInt8) × (List (List UInt8)) × Int × Unit) := iter (fun (y : ((List UInt8) × UInt8 × (List (List UInt8)) × Int × Int × Unit)) => passkeyref23_split_L0b y.1 y.2.1 y.2.2.1 y.2.2.2.1 y.2.2.2.2.1) rounds y
def passkeyref23_split (a0 : (List UInt8)) (a1 : UInt8) : Option ((Unit) × ((List (List UInt8)) × Unit)) :=
 ((passkeyref23_split_L0 (a0, a1, [], (0 : Int), (0 : Int), ())).bind (fun (z3 : ((List UInt8) × (List (List UInt8)) × Int × Unit)) => (bif (decide ((0 : Int) ≤ z3.2.2.1) && decide (z3.2.2.1 ≤ ((z3.1).length : Int))) then (bif small ((z3.2.1).length + (([(List.drop (z3.2.2.1).toNat z3.1)] : List (List UInt8)) : List (List UInt8)).length) 16 then (let v4 : List (List UInt8) := (z3.2.1 ++ ([(List.drop (z3.2.2.1).toNat z3.1)] : List (List UInt8)))
 (some ((), (v4, ()))))
 else none)
 else none)))
def S_passkeyref23_split : FSpec T := ⟨[.f (.v .str), .f (.v .u8)], [(.own 1)], fun x => passkeyref23_split x.1 x.2.1⟩
def E_passkeyref23_split : Env T := ⟨tab.find, cd, globs, flc, fun f ds => match f with
    | _ => none, fun f => match f with
    | _ => false⟩
def A_passkeyref23_split : Loc2 T := ⟨fun id => match id with
    | 0 => some ⟨[(0, .f (.v .str)), (1, .f (.v .u8)), (5, .f (.own 1)), (6, .f (.v (.int .i64))), (7, .f (.v (.int .i64)))], [(.exit 0, [(0, .f (.v .str)), (5, .f (.own 1)), (6, .f (.v (.int .i64)))])], passkeyref23_split_L0, []⟩
    | _ => none, fun r => match r with
    | _ => none, fun r => match r with
    | _ => false⟩
theorem passkeyref23_split_L0_eq (y0 : (List UInt8)) (y1 : UInt8) (y2 : (List (List UInt8))) (y3 : Int) (y4 : Int) : run E_passkeyref23_split A_passkeyref23_split (loopAt 0 (Tryd.f24.body.getD .skip)) (layC cd [(0, .f (.v .str)), (1, .f (.v .u8)), (5, .f (.own 1)), (6, .f (.v (.int .i64))), (7, .f (.v (.int .i64)))] [] (y0, y1, y2, y3, y4, ())) (roundK cd [(0, .f (.v .str)), (1, .f (.v .u8)), (5, .f (.own 1)), (6, .f (.v (.int .i64))), (7, .f (.v (.int .i64)))] [] [(.exit 0, [(0, .f (.v .str)), (5, .f (.own 1)), (6, .f (.v (.int .i64)))])]) = passkeyref23_split_L0b y0 y1 y2 y3 y4 := by kernel_rfl
theorem passkeyref23_split_eq (x : tySs T S_passkeyref23_split.ps) : run E_passkeyref23_split A_passkeyref23_split (Tryd.f24.body.getD .skip) (enterT E_passkeyref23_split.C S_passkeyref23_split.ps x) (retK E_passkeyref23_split Tryd.f24.results.toList S_passkeyref23_split.ps S_passkeyref23_split.rs) = S_passkeyref23_split.fn x := by kernel_rfl
theorem passkeyref23_split_env : EnvOk Tryd.prog E_passkeyref23_split := envOk (E := E_passkeyref23_split) cd_ok tys fl_ok fun f ds S h => by cases h
theorem passkeyref23_split_L0_ok : LoopOk Tryd.prog E_passkeyref23_split Tryd.f24.ntmps (kqOf S_passkeyref23_split.ps 0) (loopAt 0 (Tryd.f24.body.getD .skip)) ⟨[(0, .f (.v .str)), (1, .f (.v .u8)), (5, .f (.own 1)), (6, .f (.v (.int .i64))), (7, .f (.v (.int .i64)))], [(.exit 0, [(0, .f (.v .str)), (5, .f (.own 1)), (6, .f (.v (.int .i64)))])], passkeyref23_split_L0, []⟩ :=
  loop_ok (A := A_passkeyref23_split) (done := []) (c0 := (Tryd.f24.body.getD .skip)) hmix passkeyref23_split_env done_nil rounds (by kernel_rfl) (by kernel_rfl) (fun x => passkeyref23_split_L0_eq x.1 x.2.1 x.2.2.1 x.2.2.2.1 x.2.2.2.2.1) (fun _ => rfl)
theorem passkeyref23_split_ok : SoundT Tryd.prog cd gdn 24 S_passkeyref23_split :=
  sound_fn (E := E_passkeyref23_split) (A := A_passkeyref23_split) (done := [0]) (c := (Tryd.f24.body.getD .skip)) (S := S_passkeyref23_split) (fn := Tryd.f24) hmix passkeyref23_split_env Tryd.func24 rfl (by kernel_rfl) (by kernel_rfl) (done_cons rfl passkeyref23_split_L0_ok done_nil) (by kernel_rfl) (by kernel_rfl) passkeyref23_split_eq
def passkeyref23_digit (a0 : UInt8) : Option ((Unit) × (Bool × Unit)) :=
 (bif (decide ((48 : UInt8).toBitVec.toNat ≤ a0.toBitVec.toNat)) then (some ((), ((decide (a0.toBitVec.toNat ≤ (57 : UInt8).toBitVec.toNat)), ())))
 else (some ((), (false, ()))))
def S_passkeyref23_digit : FSpec T := ⟨[.f (.v .u8)], [(.v .bool)], fun x => passkeyref23_digit x.1⟩
def E_passkeyref23_digit : Env T := ⟨tab.find, cd, globs, flc, fun f ds => match f with
    | _ => none, fun f => match f with
    | _ => false⟩
def A_passkeyref23_digit : Loc2 T := ⟨fun id => match id with
    | _ => none, fun r => match r with
    | _ => none, fun r => match r with
    | _ => false⟩
theorem passkeyref23_digit_eq (x : tySs T S_passkeyref23_digit.ps) : run E_passkeyref23_digit A_passkeyref23_digit (Tryd.f34.body.getD .skip) (enterT E_passkeyref23_digit.C S_passkeyref23_digit.ps x) (retK E_passkeyref23_digit Tryd.f34.results.toList S_passkeyref23_digit.ps S_passkeyref23_digit.rs) = S_passkeyref23_digit.fn x := by kernel_rfl
theorem passkeyref23_digit_env : EnvOk Tryd.prog E_passkeyref23_digit := envOk (E := E_passkeyref23_digit) cd_ok tys fl_ok fun f ds S h => by cases h
theorem passkeyref23_digit_ok : SoundT Tryd.prog cd gdn 34 S_passkeyref23_digit :=
  sound_fn (E := E_passkeyref23_digit) (A := A_passkeyref23_digit) (done := []) (c := (Tryd.f34.body.getD .skip)) (S := S_passkeyref23_digit) (fn := Tryd.f34) hmix passkeyref23_digit_env Tryd.func34 rfl (by kernel_rfl) (by kernel_rfl) done_nil (by kernel_rfl) (by kernel_rfl) passkeyref23_digit_eq
def passkeyref23_label_L0b (y0 : (List UInt8)) (y1 : Int) : Option (((List UInt8) × Int × Unit) ⊕ ((Bool × Unit) ⊕ (Unit))) :=
 (bif (decide (y1 < ((y0).length : Int))) then ((getI y0 y1).bind fun x3 => (bif (decide ((97 : UInt8).toBitVec.toNat ≤ x3.toBitVec.toNat)) then ((getI y0 y1).bind fun x4 => (bif (!(decide (x4.toBitVec.toNat ≤ (122 : UInt8).toBitVec.toNat))) then ((getI y0 y1).bind fun x5 => ((passkeyref23_digit x5).bind fun r6 => (bif (!r6.2.1) then ((getI y0 y1).bind fun x7 => (bif (!decide (x7.toBitVec = (45 : UInt8).toBitVec)) then (some (Sum.inr (Sum.inl (false, ()))))
 else (some (Sum.inl (y0, (IntKind.wrap .i64 (y1 + (1 : Int))), ())))))
 else (some (Sum.inl (y0, (IntKind.wrap .i64 (y1 + (1 : Int))), ()))))))
 else (some (Sum.inl (y0, (IntKind.wrap .i64 (y1 + (1 : Int))), ())))))
 else ((getI y0 y1).bind fun x8 => ((passkeyref23_digit x8).bind fun r9 => (bif (!r9.2.1) then ((getI y0 y1).bind fun x10 => (bif (!decide (x10.toBitVec = (45 : UInt8).toBitVec)) then (some (Sum.inr (Sum.inl (false, ()))))
 else (some (Sum.inl (y0, (IntKind.wrap .i64 (y1 + (1 : Int))), ())))))
 else (some (Sum.inl (y0, (IntKind.wrap .i64 (y1 + (1 : Int))), ()))))))))
 else (some (Sum.inr (Sum.inr ()))))
def passkeyref23_label_L0 (y : ((List UInt8) × Int × Unit)) : Option ((Bool × Unit) ⊕ (Unit)) := iter (fun (y : ((List UInt8) × Int × Unit)) => passkeyref23_label_L0b y.1 y.2.1) rounds y
def passkeyref23_label (a0 : (List UInt8)) : Option ((Unit) × (Bool × Unit)) :=
 (bif (decide (((a0).length : Int) < (1 : Int))) then (some ((), (false, ())))
 else (bif (decide ((63 : Int) < ((a0).length : Int))) then (some ((), (false, ())))
 else ((getI a0 (0 : Int)).bind fun x1 => (bif (decide (x1.toBitVec = (45 : UInt8).toBitVec)) then (some ((), (false, ())))
 else ((getI a0 (IntKind.wrap .i64 (((a0).length : Int) - (1 : Int)))).bind fun x2 => (bif (decide (x2.toBitVec = (45 : UInt8).toBitVec)) then (some ((), (false, ())))
 else ((passkeyref23_label_L0 (a0, (0 : Int), ())).bind (Sum.elim (fun (z11 : (Bool × Unit)) => (some ((), (z11.1, ())))) (fun (z12 : (Unit)) => (some ((), (true, ()))))))))))))
def S_passkeyref23_label : FSpec T := ⟨[.f (.v .str)], [(.v .bool)], fun x => passkeyref23_label x.1⟩
def E_passkeyref23_label : Env T := ⟨tab.find, cd, globs, flc, fun f ds => match f with
    | 34 => some S_passkeyref23_digit
    | _ => none, fun f => match f with
    | 34 => true
    | _ => false⟩
def A_passkeyref23_label : Loc2 T := ⟨fun id => match id with
    | 0 => some ⟨[(0, .f (.v .str)), (3, .f (.v (.int .i64)))], [(.ret, [(2, .f (.v .bool))]), (.exit 0, [])], passkeyref23_label_L0, []⟩
    | _ => none, fun r => match r with
    | _ => none, fun r => match r with
    | _ => false⟩
theorem passkeyref23_label_L0_eq (y0 : (List UInt8)) (y1 : Int) : run E_passkeyref23_label A_passkeyref23_label (loopAt 0 (Tryd.f33.body.getD .skip)) (layC cd [(0, .f (.v .str)), (3, .f (.v (.int .i64)))] [] (y0, y1, ())) (roundK cd [(0, .f (.v .str)), (3, .f (.v (.int .i64)))] [] [(.ret, [(2, .f (.v .bool))]), (.exit 0, [])]) = passkeyref23_label_L0b y0 y1 := by kernel_rfl
theorem passkeyref23_label_eq (x : tySs T S_passkeyref23_label.ps) : run E_passkeyref23_label A_passkeyref23_label (Tryd.f33.body.getD .skip) (enterT E_passkeyref23_label.C S_passkeyref23_label.ps x) (retK E_passkeyref23_label Tryd.f33.results.toList S_passkeyref23_label.ps S_passkeyref23_label.rs) = S_passkeyref23_label.fn x := by kernel_rfl
theorem passkeyref23_label_env : EnvOk Tryd.prog E_passkeyref23_label := envOk (E := E_passkeyref23_label) cd_ok tys fl_ok fun f ds S h => by
    dsimp only [E_passkeyref23_label] at h
    split at h
    · cases h; exact passkeyref23_digit_ok
    · cases h
theorem passkeyref23_label_L0_ok : LoopOk Tryd.prog E_passkeyref23_label Tryd.f33.ntmps (kqOf S_passkeyref23_label.ps 0) (loopAt 0 (Tryd.f33.body.getD .skip)) ⟨[(0, .f (.v .str)), (3, .f (.v (.int .i64)))], [(.ret, [(2, .f (.v .bool))]), (.exit 0, [])], passkeyref23_label_L0, []⟩ :=
  loop_ok (A := A_passkeyref23_label) (done := []) (c0 := (Tryd.f33.body.getD .skip)) hmix passkeyref23_label_env done_nil rounds (by kernel_rfl) (by kernel_rfl) (fun x => passkeyref23_label_L0_eq x.1 x.2.1) (fun _ => rfl)
theorem passkeyref23_label_ok : SoundT Tryd.prog cd gdn 33 S_passkeyref23_label :=
  sound_fn (E := E_passkeyref23_label) (A := A_passkeyref23_label) (done := [0]) (c := (Tryd.f33.body.getD .skip)) (S := S_passkeyref23_label) (fn := Tryd.f33) hmix passkeyref23_label_env Tryd.func33 rfl (by kernel_rfl) (by kernel_rfl) (done_cons rfl passkeyref23_label_L0_ok done_nil) (by kernel_rfl) (by kernel_rfl) passkeyref23_label_eq
def passkeyref23_Validate_L0b (y0 : (List (List UInt8))) (y1 : Int) : Option (((List (List UInt8)) × Int × Unit) ⊕ ((Int × Unit) ⊕ ((List (List UInt8)) × Unit))) :=
 (bif (decide (y1 < ((y0).length : Int))) then (bif (decide ((0 : Int) ≤ y1) && decide (y1 < ((y0).length : Int))) then (((y0)[(y1).toNat]?).bind fun x2 => ((passkeyref23_label x2).bind fun r3 => (bif (!r3.2.1) then (some (Sum.inr (Sum.inl ((2 : Int), ()))))
 else (some (Sum.inl (y0, (IntKind.wrap .i64 (y1 + (1 : Int))), ()))))))
 else none)
 else (some (Sum.inr (Sum.inr (y0, ())))))
def passkeyref23_Validate_L0 (y : ((List (List UInt8)) × Int × Unit)) : Option ((Int × Unit) ⊕ ((List (List UInt8)) × Unit)) := iter (fun (y : ((List (List UInt8)) × Int × Unit)) => passkeyref23_Validate_L0b y.1 y.2.1) rounds y
def passkeyref23_Validate_L2b (y0 : (List UInt8)) (y1 : Int) : Option (((List UInt8) × Int × Unit) ⊕ ((Int × Unit) ⊕ (Unit))) :=
 (bif (decide (y1 < ((y0).length : Int))) then ((getI y0 y1).bind fun x7 => ((passkeyref23_digit x7).bind fun r8 => (bif (!r8.2.1) then (some (Sum.inr (Sum.inl ((0 : Int), ()))))
 else (some (Sum.inl (y0, (IntKind.wrap .i64 (y1 + (1 : Int))), ()))))))
 else (some (Sum.inr (Sum.inr ()))))
def passkeyref23_Validate_L2 (y : ((List UInt8) × Int × Unit)) : Option ((Int × Unit) ⊕ (Unit)) := iter (fun (y : ((List UInt8) × Int × Unit)) => passkeyref23_Validate_L2b y.1 y.2.1) rounds y
def passkeyref23_Validate (a0 : (List UInt8)) : Option ((Unit) × (Int × Unit)) :=
 (bif (decide ((100 : Int) < ((a0).length : Int))) then (some ((), ((8 : Int), ())))
 else ((passkeyref23_split a0 (46 : UInt8)).bind fun r1 => ((passkeyref23_Validate_L0 (r1.2.1, (0 : Int), ())).bind (Sum.elim (fun (z4 : (Int × Unit)) => (some ((), (z4.1, ())))) (fun (z5 : ((List (List UInt8)) × Unit)) => (bif (decide ((0 : Int) ≤ (IntKind.wrap .i64 (((z5.1).length : Int) - (1 : Int)))) && decide ((IntKind.wrap .i64 (((z5.1).length : Int) - (1 : Int))) < ((z5.1).length : Int))) then (((z5.1)[((IntKind.wrap .i64 (((z5.1).length : Int) - (1 : Int)))).toNat]?).bind fun x6 => ((passkeyref23_Validate_L2 (x6, (0 : Int), ())).bind (Sum.elim (fun (z9 : (Int × Unit)) => (some ((), (z9.1, ())))) (fun (z10 : (Unit)) => (some ((), ((2 : Int), ())))))))
 else none))))))
def S_passkeyref23_Validate : FSpec T := ⟨[.f (.v .str)], [(.v (.int .i64))], fun x => passkeyref23_Validate x.1⟩
def E_passkeyref23_Validate : Env T := ⟨tab.find, cd, globs, flc, fun f ds => match f with
    | 24 => some S_passkeyref23_split
    | 33 => some S_passkeyref23_label
    | 34 => some S_passkeyref23_digit
    | _ => none, fun f => match f with
    | 33 => true
    | 34 => true
    | _ => false⟩
def A_passkeyref23_Validate : Loc2 T := ⟨fun id => match id with
    | 0 => some ⟨[(3, .f (.own 1)), (4, .f (.v (.int .i64)))], [(.ret, [(2, .f (.v (.int .i64)))]), (.exit 0, [(3, .f (.own 1))])], passkeyref23_Validate_L0, []⟩
    | 2 => some ⟨[(5, .f (.v .str)), (6, .f (.v (.int .i64)))], [(.ret, [(2, .f (.v (.int .i64)))]), (.exit 2, [])], passkeyref23_Validate_L2, []⟩
    | _ => none, fun r => match r with
    | _ => none, fun r => match r with
    | _ => false⟩
theorem passkeyref23_Validate_L0_eq (y0 : (List (List UInt8))) (y1 : Int) : run E_passkeyref23_Validate A_passkeyref23_Validate (loopAt 0 (Tryd.f18.body.getD .skip)) (layC cd [(3, .f (.own 1)), (4, .f (.v (.int .i64)))] [] (y0, y1, ())) (roundK cd [(3, .f (.own 1)), (4, .f (.v (.int .i64)))] [] [(.ret, [(2, .f (.v (.int .i64)))]), (.exit 0, [(3, .f (.own 1))])]) = passkeyref23_Validate_L0b y0 y1 := by kernel_rfl
theorem passkeyref23_Validate_L2_eq (y0 : (List UInt8)) (y1 : Int) : run E_passkeyref23_Validate A_passkeyref23_Validate (loopAt 2 (Tryd.f18.body.getD .skip)) (layC cd [(5, .f (.v .str)), (6, .f (.v (.int .i64)))] [] (y0, y1, ())) (roundK cd [(5, .f (.v .str)), (6, .f (.v (.int .i64)))] [] [(.ret, [(2, .f (.v (.int .i64)))]), (.exit 2, [])]) = passkeyref23_Validate_L2b y0 y1 := by kernel_rfl
theorem passkeyref23_Validate_eq (x : tySs T S_passkeyref23_Validate.ps) : run E_passkeyref23_Validate A_passkeyref23_Validate (Tryd.f18.body.getD .skip) (enterT E_passkeyref23_Validate.C S_passkeyref23_Validate.ps x) (retK E_passkeyref23_Validate Tryd.f18.results.toList S_passkeyref23_Validate.ps S_passkeyref23_Validate.rs) = S_passkeyref23_Validate.fn x := by kernel_rfl
theorem passkeyref23_Validate_env : EnvOk Tryd.prog E_passkeyref23_Validate := envOk (E := E_passkeyref23_Validate) cd_ok tys fl_ok fun f ds S h => by
    dsimp only [E_passkeyref23_Validate] at h
    split at h
    · cases h; exact passkeyref23_split_ok
    · cases h; exact passkeyref23_label_ok
    · cases h; exact passkeyref23_digit_ok
    · cases h
theorem passkeyref23_Validate_L0_ok : LoopOk Tryd.prog E_passkeyref23_Validate Tryd.f18.ntmps (kqOf S_passkeyref23_Validate.ps 0) (loopAt 0 (Tryd.f18.body.getD .skip)) ⟨[(3, .f (.own 1)), (4, .f (.v (.int .i64)))], [(.ret, [(2, .f (.v (.int .i64)))]), (.exit 0, [(3, .f (.own 1))])], passkeyref23_Validate_L0, []⟩ :=
  loop_ok (A := A_passkeyref23_Validate) (done := []) (c0 := (Tryd.f18.body.getD .skip)) hmix passkeyref23_Validate_env done_nil rounds (by kernel_rfl) (by kernel_rfl) (fun x => passkeyref23_Validate_L0_eq x.1 x.2.1) (fun _ => rfl)
theorem passkeyref23_Validate_L2_ok : LoopOk Tryd.prog E_passkeyref23_Validate Tryd.f18.ntmps (kqOf S_passkeyref23_Validate.ps 0) (loopAt 2 (Tryd.f18.body.getD .skip)) ⟨[(5, .f (.v .str)), (6, .f (.v (.int .i64)))], [(.ret, [(2, .f (.v (.int .i64)))]), (.exit 2, [])], passkeyref23_Validate_L2, []⟩ :=
  loop_ok (A := A_passkeyref23_Validate) (done := [0]) (c0 := (Tryd.f18.body.getD .skip)) hmix passkeyref23_Validate_env (done_cons rfl passkeyref23_Validate_L0_ok done_nil) rounds (by kernel_rfl) (by kernel_rfl) (fun x => passkeyref23_Validate_L2_eq x.1 x.2.1) (fun _ => rfl)
theorem passkeyref23_Validate_ok : SoundT Tryd.prog cd gdn 18 S_passkeyref23_Validate :=
  sound_fn (E := E_passkeyref23_Validate) (A := A_passkeyref23_Validate) (done := [0, 2]) (c := (Tryd.f18.body.getD .skip)) (S := S_passkeyref23_Validate) (fn := Tryd.f18) hmix passkeyref23_Validate_env Tryd.func18 rfl (by kernel_rfl) (by kernel_rfl) (done_cons rfl passkeyref23_Validate_L0_ok (done_cons rfl passkeyref23_Validate_L2_ok done_nil)) (by kernel_rfl) (by kernel_rfl) passkeyref23_Validate_eq
def passkeyref23_defaultPort (a0 : Bool) : Option ((Unit) × (Int × Unit)) :=
 (bif a0 then (some ((), ((443 : Int), ())))
 else (some ((), ((80 : Int), ()))))
def S_passkeyref23_defaultPort : FSpec T := ⟨[.f (.v .bool)], [(.v (.int .i64))], fun x => passkeyref23_defaultPort x.1⟩
def E_passkeyref23_defaultPort : Env T := ⟨tab.find, cd, globs, flc, fun f ds => match f with
    | _ => none, fun f => match f with
    | _ => false⟩
def A_passkeyref23_defaultPort : Loc2 T := ⟨fun id => match id with
    | _ => none, fun r => match r with
    | _ => none, fun r => match r with
    | _ => false⟩
theorem passkeyref23_defaultPort_eq (x : tySs T S_passkeyref23_defaultPort.ps) : run E_passkeyref23_defaultPort A_passkeyref23_defaultPort (Tryd.f19.body.getD .skip) (enterT E_passkeyref23_defaultPort.C S_passkeyref23_defaultPort.ps x) (retK E_passkeyref23_defaultPort Tryd.f19.results.toList S_passkeyref23_defaultPort.ps S_passkeyref23_defaultPort.rs) = S_passkeyref23_defaultPort.fn x := by kernel_rfl
theorem passkeyref23_defaultPort_env : EnvOk Tryd.prog E_passkeyref23_defaultPort := envOk (E := E_passkeyref23_defaultPort) cd_ok tys fl_ok fun f ds S h => by cases h
theorem passkeyref23_defaultPort_ok : SoundT Tryd.prog cd gdn 19 S_passkeyref23_defaultPort :=
  sound_fn (E := E_passkeyref23_defaultPort) (A := A_passkeyref23_defaultPort) (done := []) (c := (Tryd.f19.body.getD .skip)) (S := S_passkeyref23_defaultPort) (fn := Tryd.f19) hmix passkeyref23_defaultPort_env Tryd.func19 rfl (by kernel_rfl) (by kernel_rfl) done_nil (by kernel_rfl) (by kernel_rfl) passkeyref23_defaultPort_eq
def passkeyref23_port_L0b (y0 : (List UInt8)) (y1 : Bool) (y2 : Int) (y3 : Int) : Option (((List UInt8) × Bool × Int × Int × Unit) ⊕ ((Int × Bool × Unit) ⊕ (Bool × Int × Unit))) :=
 (bif (decide (y3 < ((y0).length : Int))) then ((getI y0 y3).bind fun x2 => ((passkeyref23_digit x2).bind fun r3 => (bif (!r3.2.1) then (some (Sum.inr (Sum.inl ((0 : Int), false, ()))))
 else ((getI y0 y3).bind fun x4 => (let v5 : Int := ((UInt8.ofBitVec (x4.toBitVec - (48 : UInt8).toBitVec)).toBitVec.toNat : Int)
 (let v6 : Int := (IntKind.wrap .i64 ((IntKind.wrap .i64 ((10 : Int) * y2)) + v5))
 (some (Sum.inl (y0, y1, v6, (IntKind.wrap .i64 (y3 + (1 : Int))), ())))))))))
 else (some (Sum.inr (Sum.inr (y1, y2, ())))))
def passkeyref23_port_L0 (y : ((List UInt8) × Bool × Int × Int × Unit)) : Option ((Int × Bool × Unit) ⊕ (Bool × Int × Unit)) := iter (fun (y : ((List UInt8) × Bool × Int × Int × Unit)) => passkeyref23_port_L0b y.1 y.2.1 y.2.2.1 y.2.2.2.1) rounds y
def passkeyref23_port (a0 : (List UInt8)) (a1 : Bool) : Option ((Unit) × (Int × Bool × Unit)) :=
 (bif (decide (((a0).length : Int) < (1 : Int))) then (some ((), ((0 : Int), false, ())))
 else (bif (decide ((5 : Int) < ((a0).length : Int))) then (some ((), ((0 : Int), false, ())))
 else ((getI a0 (0 : Int)).bind fun x1 => (bif (decide (x1.toBitVec = (48 : UInt8).toBitVec)) then (some ((), ((0 : Int), false, ())))
 else ((passkeyref23_port_L0 (a0, a1, (0 : Int), (0 : Int), ())).bind (Sum.elim (fun (z7 : (Int × Bool × Unit)) => (some ((), (z7.1, z7.2.1, ())))) (fun (z8 : (Bool × Int × Unit)) => (bif (decide (z8.2.1 ≤ (65535 : Int))) then ((passkeyref23_defaultPort z8.1).bind fun r9 => (some ((), (z8.2.1, (!decide (z8.2.1 = r9.2.1)), ()))))
 else (some ((), (z8.2.1, false, ())))))))))))
def S_passkeyref23_port : FSpec T := ⟨[.f (.v .str), .f (.v .bool)], [(.v (.int .i64)), (.v .bool)], fun x => passkeyref23_port x.1 x.2.1⟩
def E_passkeyref23_port : Env T := ⟨tab.find, cd, globs, flc, fun f ds => match f with
    | 19 => some S_passkeyref23_defaultPort
    | 34 => some S_passkeyref23_digit
    | _ => none, fun f => match f with
    | 19 => true
    | 34 => true
    | _ => false⟩
def A_passkeyref23_port : Loc2 T := ⟨fun id => match id with
    | 0 => some ⟨[(0, .f (.v .str)), (1, .f (.v .bool)), (6, .f (.v (.int .i64))), (7, .f (.v (.int .i64)))], [(.ret, [(4, .f (.v (.int .i64))), (5, .f (.v .bool))]), (.exit 0, [(1, .f (.v .bool)), (6, .f (.v (.int .i64)))])], passkeyref23_port_L0, []⟩
    | _ => none, fun r => match r with
    | _ => none, fun r => match r with
    | _ => false⟩
theorem passkeyref23_port_L0_eq (y0 : (List UInt8)) (y1 : Bool) (y2 : Int) (y3 : Int) : run E_passkeyref23_port A_passkeyref23_port (loopAt 0 (Tryd.f20.body.getD .skip)) (layC cd [(0, .f (.v .str)), (1, .f (.v .bool)), (6, .f (.v (.int .i64))), (7, .f (.v (.int .i64)))] [] (y0, y1, y2, y3, ())) (roundK cd [(0, .f (.v .str)), (1, .f (.v .bool)), (6, .f (.v (.int .i64))), (7, .f (.v (.int .i64)))] [] [(.ret, [(4, .f (.v (.int .i64))), (5, .f (.v .bool))]), (.exit 0, [(1, .f (.v .bool)), (6, .f (.v (.int .i64)))])]) = passkeyref23_port_L0b y0 y1 y2 y3 := by kernel_rfl
theorem passkeyref23_port_eq (x : tySs T S_passkeyref23_port.ps) : run E_passkeyref23_port A_passkeyref23_port (Tryd.f20.body.getD .skip) (enterT E_passkeyref23_port.C S_passkeyref23_port.ps x) (retK E_passkeyref23_port Tryd.f20.results.toList S_passkeyref23_port.ps S_passkeyref23_port.rs) = S_passkeyref23_port.fn x := by kernel_rfl
theorem passkeyref23_port_env : EnvOk Tryd.prog E_passkeyref23_port := envOk (E := E_passkeyref23_port) cd_ok tys fl_ok fun f ds S h => by
    dsimp only [E_passkeyref23_port] at h
    split at h
    · cases h; exact passkeyref23_defaultPort_ok
    · cases h; exact passkeyref23_digit_ok
    · cases h
theorem passkeyref23_port_L0_ok : LoopOk Tryd.prog E_passkeyref23_port Tryd.f20.ntmps (kqOf S_passkeyref23_port.ps 0) (loopAt 0 (Tryd.f20.body.getD .skip)) ⟨[(0, .f (.v .str)), (1, .f (.v .bool)), (6, .f (.v (.int .i64))), (7, .f (.v (.int .i64)))], [(.ret, [(4, .f (.v (.int .i64))), (5, .f (.v .bool))]), (.exit 0, [(1, .f (.v .bool)), (6, .f (.v (.int .i64)))])], passkeyref23_port_L0, []⟩ :=
  loop_ok (A := A_passkeyref23_port) (done := []) (c0 := (Tryd.f20.body.getD .skip)) hmix passkeyref23_port_env done_nil rounds (by kernel_rfl) (by kernel_rfl) (fun x => passkeyref23_port_L0_eq x.1 x.2.1 x.2.2.1 x.2.2.2.1) (fun _ => rfl)
theorem passkeyref23_port_ok : SoundT Tryd.prog cd gdn 20 S_passkeyref23_port :=
  sound_fn (E := E_passkeyref23_port) (A := A_passkeyref23_port) (done := [0]) (c := (Tryd.f20.body.getD .skip)) (S := S_passkeyref23_port) (fn := Tryd.f20) hmix passkeyref23_port_env Tryd.func20 rfl (by kernel_rfl) (by kernel_rfl) (done_cons rfl passkeyref23_port_L0_ok done_nil) (by kernel_rfl) (by kernel_rfl) passkeyref23_port_eq
def passkeyref23_ParseOrigin_L0b (y0 : (ApiOrigin × Unit)) (y1 : (ApiOrigin × Unit)) (y2 : (List UInt8)) (y3 : Int) (y4 : Int) : Option (((ApiOrigin × Unit) × (ApiOrigin × Unit) × (List UInt8) × Int × Int × Unit) ⊕ ((ApiOrigin × Unit) × (ApiOrigin × Unit) × (List UInt8) × Int × Unit)) :=
 (bif (decide ((0 : Int) ≤ y4)) then ((getI y2 y4).bind fun x4 => (bif (decide (x4.toBitVec = (58 : UInt8).toBitVec)) then (some (Sum.inl ((y0.1, ()), (y1.1, ()), y2, y4, (IntKind.wrap .i64 (y4 - (1 : Int))), ())))
 else (some (Sum.inl ((y0.1, ()), (y1.1, ()), y2, y3, (IntKind.wrap .i64 (y4 - (1 : Int))), ())))))
 else (some (Sum.inr ((y0.1, ()), (y1.1, ()), y2, y3, ()))))
def passkeyref23_ParseOrigin_L0 (y : ((ApiOrigin × Unit) × (ApiOrigin × Unit) × (List UInt8) × Int × Int × Unit)) : Option ((ApiOrigin × Unit) × (ApiOrigin × Unit) × (List UInt8) × Int × Unit) := iter (fun (y : ((ApiOrigin × Unit) × (ApiOrigin × Unit) × (List UInt8) × Int × Int × Unit)) => passkeyref23_ParseOrigin_L0b y.1 y.2.1 y.2.2.1 y.2.2.2.1 y.2.2.2.2.1) rounds y
def passkeyref23_ParseOrigin (a0 : (List UInt8)) : Option ((Unit) × (ApiOrigin × Int × Unit)) :=
 (bif (decide ((8 : Int) ≤ ((a0).length : Int))) then (bif decide ((8 : Int) ≤ ((a0).length : Int)) then ((passkeyref23_scheme (decide ((List.take 8 a0) = ([104, 116, 116, 112, 115, 58, 47, 47] : List UInt8)))).bind fun r1 => (bif (decide (((a0).length : Int) < ((r1.2.1).length : Int))) then (some ((), ((⟨false, ([] : List UInt8), (0 : Int)⟩ : ApiOrigin), (2 : Int), ())))
 else (bif (decide ((0 : Int) ≤ ((r1.2.1).length : Int)) && decide (((r1.2.1).length : Int) ≤ ((a0).length : Int))) then (bif (!decide ((List.take (((r1.2.1).length : Int)).toNat a0) = r1.2.1)) then (some ((), ((⟨false, ([] : List UInt8), (0 : Int)⟩ : ApiOrigin), (2 : Int), ())))
 else (bif (decide ((0 : Int) ≤ ((r1.2.1).length : Int)) && decide (((r1.2.1).length : Int) ≤ ((a0).length : Int))) then (let v2 : Int := (((List.drop (((r1.2.1).length : Int)).toNat a0)).length : Int)
 (let v3 : Int := (((List.drop (((r1.2.1).length : Int)).toNat a0)).length : Int)
 ((passkeyref23_ParseOrigin_L0 (((⟨false, ([] : List UInt8), (0 : Int)⟩ : ApiOrigin), ()), ((⟨(decide ((List.take 8 a0) = ([104, 116, 116, 112, 115, 58, 47, 47] : List UInt8))), ([] : List UInt8), (0 : Int)⟩ : ApiOrigin), ()), (List.drop (((r1.2.1).length : Int)).toNat a0), v2, (IntKind.wrap .i64 (v3 - (1 : Int))), ())).bind (fun (z5 : ((ApiOrigin × Unit) × (ApiOrigin × Unit) × (List UInt8) × Int × Unit)) => (bif (decide ((0 : Int) ≤ z5.2.2.2.1) && decide (z5.2.2.2.1 ≤ ((z5.2.2.1).length : Int))) then ((passkeyref23_Validate (List.take (z5.2.2.2.1).toNat z5.2.2.1)).bind fun r6 => (bif (!decide (r6.2.1 = (0 : Int))) then (some ((), ((⟨false, ([] : List UInt8), (0 : Int)⟩ : ApiOrigin), r6.2.1, ())))
 else (bif (decide ((0 : Int) ≤ z5.2.2.2.1) && decide (z5.2.2.2.1 ≤ ((z5.2.2.1).length : Int))) then ((passkeyref23_defaultPort z5.2.1.1.secure).bind fun r7 => (bif (decide (z5.2.2.2.1 < ((z5.2.2.1).length : Int))) then (bif (decide ((0 : Int) ≤ (IntKind.wrap .i64 (z5.2.2.2.1 + (1 : Int)))) && decide ((IntKind.wrap .i64 (z5.2.2.2.1 + (1 : Int))) ≤ ((z5.2.2.1).length : Int))) then (let v8 : List UInt8 := (List.drop ((IntKind.wrap .i64 (z5.2.2.2.1 + (1 : Int)))).toNat z5.2.2.1)
 ((passkeyref23_port v8 z5.2.1.1.secure).bind fun r9 => (bif (!r9.2.2.1) then (some ((), ((⟨false, ([] : List UInt8), (0 : Int)⟩ : ApiOrigin), (2 : Int), ())))
 else (some ((), ((⟨z5.2.1.1.secure, (List.take (z5.2.2.2.1).toNat z5.2.2.1), r9.2.1⟩ : ApiOrigin), (0 : Int), ()))))))
 else none)
 else (some ((), ((⟨z5.2.1.1.secure, (List.take (z5.2.2.2.1).toNat z5.2.2.1), r7.2.1⟩ : ApiOrigin), (0 : Int), ())))))
 else none)))
 else none)))))
 else none))
 else none)))
 else none)
 else ((passkeyref23_scheme false).bind fun r10 => (bif (decide (((a0).length : Int) < ((r10.2.1).length : Int))) then (some ((), ((⟨false, ([] : List UInt8), (0 : Int)⟩ : ApiOrigin), (2 : Int), ())))
 else (bif (decide ((0 : Int) ≤ ((r10.2.1).length : Int)) && decide (((r10.2.1).length : Int) ≤ ((a0).length : Int))) then (bif (!decide ((List.take (((r10.2.1).length : Int)).toNat a0) = r10.2.1)) then (some ((), ((⟨false, ([] : List UInt8), (0 : Int)⟩ : ApiOrigin), (2 : Int), ())))
 else (bif (decide ((0 : Int) ≤ ((r10.2.1).length : Int)) && decide (((r10.2.1).length : Int) ≤ ((a0).length : Int))) then (let v11 : Int := (((List.drop (((r10.2.1).length : Int)).toNat a0)).length : Int)
 (let v12 : Int := (((List.drop (((r10.2.1).length : Int)).toNat a0)).length : Int)
 ((passkeyref23_ParseOrigin_L0 (((⟨false, ([] : List UInt8), (0 : Int)⟩ : ApiOrigin), ()), ((⟨false, ([] : List UInt8), (0 : Int)⟩ : ApiOrigin), ()), (List.drop (((r10.2.1).length : Int)).toNat a0), v11, (IntKind.wrap .i64 (v12 - (1 : Int))), ())).bind (fun (z13 : ((ApiOrigin × Unit) × (ApiOrigin × Unit) × (List UInt8) × Int × Unit)) => (bif (decide ((0 : Int) ≤ z13.2.2.2.1) && decide (z13.2.2.2.1 ≤ ((z13.2.2.1).length : Int))) then ((passkeyref23_Validate (List.take (z13.2.2.2.1).toNat z13.2.2.1)).bind fun r14 => (bif (!decide (r14.2.1 = (0 : Int))) then (some ((), ((⟨false, ([] : List UInt8), (0 : Int)⟩ : ApiOrigin), r14.2.1, ())))
 else (bif (decide ((0 : Int) ≤ z13.2.2.2.1) && decide (z13.2.2.2.1 ≤ ((z13.2.2.1).length : Int))) then ((passkeyref23_defaultPort z13.2.1.1.secure).bind fun r15 => (bif (decide (z13.2.2.2.1 < ((z13.2.2.1).length : Int))) then (bif (decide ((0 : Int) ≤ (IntKind.wrap .i64 (z13.2.2.2.1 + (1 : Int)))) && decide ((IntKind.wrap .i64 (z13.2.2.2.1 + (1 : Int))) ≤ ((z13.2.2.1).length : Int))) then (let v16 : List UInt8 := (List.drop ((IntKind.wrap .i64 (z13.2.2.2.1 + (1 : Int)))).toNat z13.2.2.1)
 ((passkeyref23_port v16 z13.2.1.1.secure).bind fun r17 => (bif (!r17.2.2.1) then (some ((), ((⟨false, ([] : List UInt8), (0 : Int)⟩ : ApiOrigin), (2 : Int), ())))
 else (some ((), ((⟨z13.2.1.1.secure, (List.take (z13.2.2.2.1).toNat z13.2.2.1), r17.2.1⟩ : ApiOrigin), (0 : Int), ()))))))
 else none)
 else (some ((), ((⟨z13.2.1.1.secure, (List.take (z13.2.2.2.1).toNat z13.2.2.1), r15.2.1⟩ : ApiOrigin), (0 : Int), ())))))
 else none)))
 else none)))))
 else none))
 else none))))
def S_passkeyref23_ParseOrigin : FSpec T := ⟨[.f (.v .str)], [(.v (.agg 3)), (.v (.int .i64))], fun x => passkeyref23_ParseOrigin x.1⟩
def E_passkeyref23_ParseOrigin : Env T := ⟨tab.find, cd, globs, flc, fun f ds => match f with
    | 17 => some S_passkeyref23_scheme
    | 18 => some S_passkeyref23_Validate
    | 19 => some S_passkeyref23_defaultPort
    | 20 => some S_passkeyref23_port
    | _ => none, fun f => match f with
    | 17 => true
    | 18 => true
    | 19 => true
    | 20 => true
    | _ => false⟩
def A_passkeyref23_ParseOrigin : Loc2 T := ⟨fun id => match id with
    | 0 => some ⟨[(2, .ptr [(.v (.agg 3))]), (4, .ptr [(.v (.agg 3))]), (6, .f (.v .str)), (7, .f (.v (.int .i64))), (8, .f (.v (.int .i64)))], [(.exit 0, [(2, .ptr [(.v (.agg 3))]), (4, .ptr [(.v (.agg 3))]), (6, .f (.v .str)), (7, .f (.v (.int .i64)))])], passkeyref23_ParseOrigin_L0, []⟩
    | _ => none, fun r => match r with
    | _ => none, fun r => match r with
    | _ => false⟩
theorem passkeyref23_ParseOrigin_L0_eq (y0 : (ApiOrigin × Unit)) (y1 : (ApiOrigin × Unit)) (y2 : (List UInt8)) (y3 : Int) (y4 : Int) : run E_passkeyref23_ParseOrigin A_passkeyref23_ParseOrigin (loopAt 0 (Tryd.f10.body.getD .skip)) (layC cd [(2, .ptr [(.v (.agg 3))]), (4, .ptr [(.v (.agg 3))]), (6, .f (.v .str)), (7, .f (.v (.int .i64))), (8, .f (.v (.int .i64)))] [] (y0, y1, y2, y3, y4, ())) (roundK cd [(2, .ptr [(.v (.agg 3))]), (4, .ptr [(.v (.agg 3))]), (6, .f (.v .str)), (7, .f (.v (.int .i64))), (8, .f (.v (.int .i64)))] [] [(.exit 0, [(2, .ptr [(.v (.agg 3))]), (4, .ptr [(.v (.agg 3))]), (6, .f (.v .str)), (7, .f (.v (.int .i64)))])]) = passkeyref23_ParseOrigin_L0b y0 y1 y2 y3 y4 := by kernel_rfl
theorem passkeyref23_ParseOrigin_eq (x : tySs T S_passkeyref23_ParseOrigin.ps) : run E_passkeyref23_ParseOrigin A_passkeyref23_ParseOrigin (Tryd.f10.body.getD .skip) (enterT E_passkeyref23_ParseOrigin.C S_passkeyref23_ParseOrigin.ps x) (retK E_passkeyref23_ParseOrigin Tryd.f10.results.toList S_passkeyref23_ParseOrigin.ps S_passkeyref23_ParseOrigin.rs) = S_passkeyref23_ParseOrigin.fn x := by kernel_rfl
theorem passkeyref23_ParseOrigin_env : EnvOk Tryd.prog E_passkeyref23_ParseOrigin := envOk (E := E_passkeyref23_ParseOrigin) cd_ok tys fl_ok fun f ds S h => by
    dsimp only [E_passkeyref23_ParseOrigin] at h
    split at h
    · cases h; exact passkeyref23_scheme_ok
    · cases h; exact passkeyref23_Validate_ok
    · cases h; exact passkeyref23_defaultPort_ok
    · cases h; exact passkeyref23_port_ok
    · cases h
theorem passkeyref23_ParseOrigin_L0_ok : LoopOk Tryd.prog E_passkeyref23_ParseOrigin Tryd.f10.ntmps (kqOf S_passkeyref23_ParseOrigin.ps 0) (loopAt 0 (Tryd.f10.body.getD .skip)) ⟨[(2, .ptr [(.v (.agg 3))]), (4, .ptr [(.v (.agg 3))]), (6, .f (.v .str)), (7, .f (.v (.int .i64))), (8, .f (.v (.int .i64)))], [(.exit 0, [(2, .ptr [(.v (.agg 3))]), (4, .ptr [(.v (.agg 3))]), (6, .f (.v .str)), (7, .f (.v (.int .i64)))])], passkeyref23_ParseOrigin_L0, []⟩ :=
  loop_ok (A := A_passkeyref23_ParseOrigin) (done := []) (c0 := (Tryd.f10.body.getD .skip)) hmix passkeyref23_ParseOrigin_env done_nil rounds (by kernel_rfl) (by kernel_rfl) (fun x => passkeyref23_ParseOrigin_L0_eq x.1 x.2.1 x.2.2.1 x.2.2.2.1 x.2.2.2.2.1) (fun _ => rfl)
theorem passkeyref23_ParseOrigin_ok : SoundT Tryd.prog cd gdn 10 S_passkeyref23_ParseOrigin :=
  sound_fn (E := E_passkeyref23_ParseOrigin) (A := A_passkeyref23_ParseOrigin) (done := [0]) (c := (Tryd.f10.body.getD .skip)) (S := S_passkeyref23_ParseOrigin) (fn := Tryd.f10) hmix passkeyref23_ParseOrigin_env Tryd.func10 rfl (by kernel_rfl) (by kernel_rfl) (done_cons rfl passkeyref23_ParseOrigin_L0_ok done_nil) (by kernel_rfl) (by kernel_rfl) passkeyref23_ParseOrigin_eq
def host_Registrable (a0 : (List (ApiSuffix))) (a1 : (List UInt8)) : Option ((Unit) × ((List UInt8) × Bool × Unit)) :=
 ((host_Labels a1).bind fun r1 => ((host_Public a0 a1).bind fun r2 => (bif (decide (((r1.2.1).length : Int) ≤ r2.2.1)) then (some ((), (([] : List UInt8), false, ())))
 else (let v3 : Int := (IntKind.wrap .i64 ((IntKind.wrap .i64 (((r1.2.1).length : Int) - r2.2.1)) - (1 : Int)))
 (bif (decide ((0 : Int) ≤ v3) && decide (v3 ≤ ((r1.2.1).length : Int))) then (bif decide (((r1.2.1).length - (v3).toNat) + (v3).toNat ≤ (r1.2.1).length) then ((strings_Join (List.take ((r1.2.1).length - (v3).toNat) (List.drop (v3).toNat r1.2.1)) ([46] : List UInt8)).bind fun r4 => (some ((), (r4.2.1, true, ()))))
 else none)
 else none)))))
def S_host_Registrable : FSpec T := ⟨[.f (.v (.rs 4)), .f (.v .str)], [(.v .str), (.v .bool)], fun x => host_Registrable x.1 x.2.1⟩
def E_host_Registrable : Env T := ⟨tab.find, cd, globs, flc, fun f ds => match f with
    | 31 => some S_host_Labels
    | 32 => some S_host_Public
    | 35 => some S_strings_Join
    | _ => none, fun f => match f with
    | 32 => true
    | 35 => true
    | _ => false⟩
def A_host_Registrable : Loc2 T := ⟨fun id => match id with
    | _ => none, fun r => match r with
    | _ => none, fun r => match r with
    | _ => false⟩
theorem host_Registrable_eq (x : tySs T S_host_Registrable.ps) : run E_host_Registrable A_host_Registrable (Tryd.f21.body.getD .skip) (enterT E_host_Registrable.C S_host_Registrable.ps x) (retK E_host_Registrable Tryd.f21.results.toList S_host_Registrable.ps S_host_Registrable.rs) = S_host_Registrable.fn x := by kernel_rfl
theorem host_Registrable_env : EnvOk Tryd.prog E_host_Registrable := envOk (E := E_host_Registrable) cd_ok tys fl_ok fun f ds S h => by
    dsimp only [E_host_Registrable] at h
    split at h
    · cases h; exact host_Labels_ok
    · cases h; exact host_Public_ok
    · cases h; exact strings_Join_ok
    · cases h
theorem host_Registrable_ok : SoundT Tryd.prog cd gdn 21 S_host_Registrable :=
  sound_fn (E := E_host_Registrable) (A := A_host_Registrable) (done := []) (c := (Tryd.f21.body.getD .skip)) (S := S_host_Registrable) (fn := Tryd.f21) hmix host_Registrable_env Tryd.func21 rfl (by kernel_rfl) (by kernel_rfl) done_nil (by kernel_rfl) (by kernel_rfl) host_Registrable_eq
def origin_Related_L0b (y0 : (List (ApiSuffix))) (y1 : (ApiOrigin × Unit)) (y2 : (List (List UInt8))) (y3 : (List (List UInt8))) (y4 : Int) (y5 : Int) : Option (((List (ApiSuffix)) × (ApiOrigin × Unit) × (List (List UInt8)) × (List (List UInt8)) × Int × Int × Unit) ⊕ ((Int × Unit) ⊕ (Unit))) :=
 (bif (decide (y5 < y4)) then ((getI y3 y5).bind fun x1 => ((origin_Parse x1).bind fun r2 => (bif (!decide (r2.2.2.1 = (0 : Int))) then (some (Sum.inl (y0, (y1.1, ()), y2, y3, y4, (IntKind.wrap .i64 (y5 + (1 : Int))), ())))
 else ((host_Registrable y0 r2.2.1.host).bind fun r3 => (bif (!r3.2.2.1) then (some (Sum.inl (y0, (y1.1, ()), y2, y3, y4, (IntKind.wrap .i64 (y5 + (1 : Int))), ())))
 else ((strings_Cut r3.2.1 ([46] : List UInt8)).bind fun r4 => (bif (!(List.any y2 (keq1 r4.2.1))) then (bif (decide ((5 : Int) ≤ ((y2).length : Int))) then (some (Sum.inl (y0, (y1.1, ()), y2, y3, y4, (IntKind.wrap .i64 (y5 + (1 : Int))), ())))
 else (let v5 : List (List UInt8) := (bif List.any y2 (keq1 r4.2.1) then y2 else y2 ++ [r4.2.1])
 (let v6 : Bool := ((r2.2.1.secure == y1.1.secure) && (decide (r2.2.1.host = y1.1.host) && (decide (r2.2.1.port = y1.1.port) && true)))
 (bif v6 then (some (Sum.inr (Sum.inl ((0 : Int), ()))))
 else (some (Sum.inl (y0, (y1.1, ()), v5, y3, y4, (IntKind.wrap .i64 (y5 + (1 : Int))), ())))))))
 else (let v7 : List (List UInt8) := (bif List.any y2 (keq1 r4.2.1) then y2 else y2 ++ [r4.2.1])
 (let v8 : Bool := ((r2.2.1.secure == y1.1.secure) && (decide (r2.2.1.host = y1.1.host) && (decide (r2.2.1.port = y1.1.port) && true)))
 (bif v8 then (some (Sum.inr (Sum.inl ((0 : Int), ()))))
 else (some (Sum.inl (y0, (y1.1, ()), v7, y3, y4, (IntKind.wrap .i64 (y5 + (1 : Int))), ())))))))))))))
 else (some (Sum.inr (Sum.inr ()))))
def origin_Related_L0 (y : ((List (ApiSuffix)) × (ApiOrigin × Unit) × (List (List UInt8)) × (List (List UInt8)) × Int × Int × Unit)) : Option ((Int × Unit) ⊕ (Unit)) := iter (fun (y : ((List (ApiSuffix)) × (ApiOrigin × Unit) × (List (List UInt8)) × (List (List UInt8)) × Int × Int × Unit)) => origin_Related_L0b y.1 y.2.1 y.2.2.1 y.2.2.2.1 y.2.2.2.2.1 y.2.2.2.2.2.1) rounds y
def origin_Related (a0 : (List (ApiSuffix))) (a1 : ApiOrigin) (a2 : (List (List UInt8))) : Option ((Unit) × (Int × Unit)) :=
 ((origin_Related_L0 (a0, (a1, ()), ([] : List (List UInt8)), a2, ((a2).length : Int), (0 : Int), ())).bind (Sum.elim (fun (z9 : (Int × Unit)) => (some ((), (z9.1, ())))) (fun (z10 : (Unit)) => (some ((), ((34 : Int), ()))))))
def S_origin_Related : FSpec T := ⟨[.f (.v (.rs 4)), .f (.v (.agg 3)), .f (.v (.rs 1))], [(.v (.int .i64))], fun x => origin_Related x.1 x.2.1 x.2.2.1⟩
def E_origin_Related : Env T := ⟨tab.find, cd, globs, flc, fun f ds => match f with
    | 14 => some S_origin_Parse
    | 21 => some S_host_Registrable
    | 22 => some S_strings_Cut
    | _ => none, fun f => match f with
    | 14 => true
    | 21 => true
    | 22 => true
    | _ => false⟩
def A_origin_Related : Loc2 T := ⟨fun id => match id with
    | 0 => some ⟨[(0, .f (.v (.rs 4))), (4, .ptr [(.v (.agg 3))]), (7, .mset false 1), (18, .f (.v (.rs 1))), (19, .f (.v (.int .i64))), (20, .f (.v (.int .i64)))], [(.ret, [(6, .f (.v (.int .i64)))]), (.exit 0, [])], origin_Related_L0, []⟩
    | _ => none, fun r => match r with
    | _ => none, fun r => match r with
    | _ => false⟩
theorem origin_Related_L0_eq (y0 : (List (ApiSuffix))) (y1 : (ApiOrigin × Unit)) (y2 : (List (List UInt8))) (y3 : (List (List UInt8))) (y4 : Int) (y5 : Int) : run E_origin_Related A_origin_Related (loopAt 0 (Tryd.f11.body.getD .skip)) (layC cd [(0, .f (.v (.rs 4))), (4, .ptr [(.v (.agg 3))]), (7, .mset false 1), (18, .f (.v (.rs 1))), (19, .f (.v (.int .i64))), (20, .f (.v (.int .i64)))] [] (y0, y1, y2, y3, y4, y5, ())) (roundK cd [(0, .f (.v (.rs 4))), (4, .ptr [(.v (.agg 3))]), (7, .mset false 1), (18, .f (.v (.rs 1))), (19, .f (.v (.int .i64))), (20, .f (.v (.int .i64)))] [] [(.ret, [(6, .f (.v (.int .i64)))]), (.exit 0, [])]) = origin_Related_L0b y0 y1 y2 y3 y4 y5 := by kernel_rfl
theorem origin_Related_eq (x : tySs T S_origin_Related.ps) : run E_origin_Related A_origin_Related (Tryd.f11.body.getD .skip) (enterT E_origin_Related.C S_origin_Related.ps x) (retK E_origin_Related Tryd.f11.results.toList S_origin_Related.ps S_origin_Related.rs) = S_origin_Related.fn x := by kernel_rfl
theorem origin_Related_env : EnvOk Tryd.prog E_origin_Related := envOk (E := E_origin_Related) cd_ok tys fl_ok fun f ds S h => by
    dsimp only [E_origin_Related] at h
    split at h
    · cases h; exact origin_Parse_ok
    · cases h; exact host_Registrable_ok
    · cases h; exact strings_Cut_ok
    · cases h
theorem origin_Related_L0_ok : LoopOk Tryd.prog E_origin_Related Tryd.f11.ntmps (kqOf S_origin_Related.ps 0) (loopAt 0 (Tryd.f11.body.getD .skip)) ⟨[(0, .f (.v (.rs 4))), (4, .ptr [(.v (.agg 3))]), (7, .mset false 1), (18, .f (.v (.rs 1))), (19, .f (.v (.int .i64))), (20, .f (.v (.int .i64)))], [(.ret, [(6, .f (.v (.int .i64)))]), (.exit 0, [])], origin_Related_L0, []⟩ :=
  loop_ok (A := A_origin_Related) (done := []) (c0 := (Tryd.f11.body.getD .skip)) hmix origin_Related_env done_nil rounds (by kernel_rfl) (by kernel_rfl) (fun x => origin_Related_L0_eq x.1 x.2.1 x.2.2.1 x.2.2.2.1 x.2.2.2.2.1 x.2.2.2.2.2.1) (fun _ => rfl)
theorem origin_Related_ok : SoundT Tryd.prog cd gdn 11 S_origin_Related :=
  sound_fn (E := E_origin_Related) (A := A_origin_Related) (done := [0]) (c := (Tryd.f11.body.getD .skip)) (S := S_origin_Related) (fn := Tryd.f11) hmix origin_Related_env Tryd.func11 rfl (by kernel_rfl) (by kernel_rfl) (done_cons rfl origin_Related_L0_ok done_nil) (by kernel_rfl) (by kernel_rfl) origin_Related_eq
def passkeyref23_Labels (a0 : (List UInt8)) : Option ((Unit) × ((List (List UInt8)) × Unit)) :=
 ((passkeyref23_Validate a0).bind fun r1 => (bif (!decide (r1.2.1 = (0 : Int))) then (some ((), ([], ())))
 else ((passkeyref23_split a0 (46 : UInt8)).bind fun r2 => (some ((), (r2.2.1, ()))))))
def S_passkeyref23_Labels : FSpec T := ⟨[.f (.v .str)], [(.own 1)], fun x => passkeyref23_Labels x.1⟩
def E_passkeyref23_Labels : Env T := ⟨tab.find, cd, globs, flc, fun f ds => match f with
    | 18 => some S_passkeyref23_Validate
    | 24 => some S_passkeyref23_split
    | _ => none, fun f => match f with
    | 18 => true
    | _ => false⟩
def A_passkeyref23_Labels : Loc2 T := ⟨fun id => match id with
    | _ => none, fun r => match r with
    | _ => none, fun r => match r with
    | _ => false⟩
theorem passkeyref23_Labels_eq (x : tySs T S_passkeyref23_Labels.ps) : run E_passkeyref23_Labels A_passkeyref23_Labels (Tryd.f37.body.getD .skip) (enterT E_passkeyref23_Labels.C S_passkeyref23_Labels.ps x) (retK E_passkeyref23_Labels Tryd.f37.results.toList S_passkeyref23_Labels.ps S_passkeyref23_Labels.rs) = S_passkeyref23_Labels.fn x := by kernel_rfl
theorem passkeyref23_Labels_env : EnvOk Tryd.prog E_passkeyref23_Labels := envOk (E := E_passkeyref23_Labels) cd_ok tys fl_ok fun f ds S h => by
    dsimp only [E_passkeyref23_Labels] at h
    split at h
    · cases h; exact passkeyref23_Validate_ok
    · cases h; exact passkeyref23_split_ok
    · cases h
theorem passkeyref23_Labels_ok : SoundT Tryd.prog cd gdn 37 S_passkeyref23_Labels :=
  sound_fn (E := E_passkeyref23_Labels) (A := A_passkeyref23_Labels) (done := []) (c := (Tryd.f37.body.getD .skip)) (S := S_passkeyref23_Labels) (fn := Tryd.f37) hmix passkeyref23_Labels_env Tryd.func37 rfl (by kernel_rfl) (by kernel_rfl) done_nil (by kernel_rfl) (by kernel_rfl) passkeyref23_Labels_eq
def passkeyref23_join_L0b (y0 : (List (List UInt8))) (y1 : (List UInt8)) (y2 : Int) : Option (((List (List UInt8)) × (List UInt8) × Int × Unit) ⊕ ((List UInt8) × Unit)) :=
 (bif (decide (y2 < ((y0).length : Int))) then (bif (decide ((0 : Int) < y2)) then (bif Nat.ble ((y1).length + (([46] : List UInt8)).length) 9223372036854775807 then ((getI y0 y2).bind fun x1 => (bif Nat.ble (((y1 ++ ([46] : List UInt8))).length + (x1).length) 9223372036854775807 then (some (Sum.inl (y0, ((y1 ++ ([46] : List UInt8)) ++ x1), (IntKind.wrap .i64 (y2 + (1 : Int))), ())))
 else none))
 else none)
 else ((getI y0 y2).bind fun x2 => (bif Nat.ble ((y1).length + (x2).length) 9223372036854775807 then (some (Sum.inl (y0, (y1 ++ x2), (IntKind.wrap .i64 (y2 + (1 : Int))), ())))
 else none)))
 else (some (Sum.inr (y1, ()))))
def passkeyref23_join_L0 (y : ((List (List UInt8)) × (List UInt8) × Int × Unit)) : Option ((List UInt8) × Unit) := iter (fun (y : ((List (List UInt8)) × (List UInt8) × Int × Unit)) => passkeyref23_join_L0b y.1 y.2.1 y.2.2.1) rounds y
def passkeyref23_join (a0 : (List (List UInt8))) : Option ((Unit) × ((List UInt8) × Unit)) :=
 ((passkeyref23_join_L0 (a0, ([] : List UInt8), (0 : Int), ())).bind (fun (z3 : ((List UInt8) × Unit)) => (some ((), (z3.1, ())))))
def S_passkeyref23_join : FSpec T := ⟨[.f (.v (.rs 1))], [(.v .str)], fun x => passkeyref23_join x.1⟩
def E_passkeyref23_join : Env T := ⟨tab.find, cd, globs, flc, fun f ds => match f with
    | _ => none, fun f => match f with
    | _ => false⟩
def A_passkeyref23_join : Loc2 T := ⟨fun id => match id with
    | 0 => some ⟨[(0, .f (.v (.rs 1))), (3, .f (.v .str)), (4, .f (.v (.int .i64)))], [(.exit 0, [(3, .f (.v .str))])], passkeyref23_join_L0, []⟩
    | _ => none, fun r => match r with
    | _ => none, fun r => match r with
    | _ => false⟩
theorem passkeyref23_join_L0_eq (y0 : (List (List UInt8))) (y1 : (List UInt8)) (y2 : Int) : run E_passkeyref23_join A_passkeyref23_join (loopAt 0 (Tryd.f39.body.getD .skip)) (layC cd [(0, .f (.v (.rs 1))), (3, .f (.v .str)), (4, .f (.v (.int .i64)))] [] (y0, y1, y2, ())) (roundK cd [(0, .f (.v (.rs 1))), (3, .f (.v .str)), (4, .f (.v (.int .i64)))] [] [(.exit 0, [(3, .f (.v .str))])]) = passkeyref23_join_L0b y0 y1 y2 := by kernel_rfl
theorem passkeyref23_join_eq (x : tySs T S_passkeyref23_join.ps) : run E_passkeyref23_join A_passkeyref23_join (Tryd.f39.body.getD .skip) (enterT E_passkeyref23_join.C S_passkeyref23_join.ps x) (retK E_passkeyref23_join Tryd.f39.results.toList S_passkeyref23_join.ps S_passkeyref23_join.rs) = S_passkeyref23_join.fn x := by kernel_rfl
theorem passkeyref23_join_env : EnvOk Tryd.prog E_passkeyref23_join := envOk (E := E_passkeyref23_join) cd_ok tys fl_ok fun f ds S h => by cases h
theorem passkeyref23_join_L0_ok : LoopOk Tryd.prog E_passkeyref23_join Tryd.f39.ntmps (kqOf S_passkeyref23_join.ps 0) (loopAt 0 (Tryd.f39.body.getD .skip)) ⟨[(0, .f (.v (.rs 1))), (3, .f (.v .str)), (4, .f (.v (.int .i64)))], [(.exit 0, [(3, .f (.v .str))])], passkeyref23_join_L0, []⟩ :=
  loop_ok (A := A_passkeyref23_join) (done := []) (c0 := (Tryd.f39.body.getD .skip)) hmix passkeyref23_join_env done_nil rounds (by kernel_rfl) (by kernel_rfl) (fun x => passkeyref23_join_L0_eq x.1 x.2.1 x.2.2.1) (fun _ => rfl)
theorem passkeyref23_join_ok : SoundT Tryd.prog cd gdn 39 S_passkeyref23_join :=
  sound_fn (E := E_passkeyref23_join) (A := A_passkeyref23_join) (done := [0]) (c := (Tryd.f39.body.getD .skip)) (S := S_passkeyref23_join) (fn := Tryd.f39) hmix passkeyref23_join_env Tryd.func39 rfl (by kernel_rfl) (by kernel_rfl) (done_cons rfl passkeyref23_join_L0_ok done_nil) (by kernel_rfl) (by kernel_rfl) passkeyref23_join_eq
def passkeyref23_FormatRule_L0b (y0 : (ApiSuffix × Unit)) (y1 : Int) : Option (((ApiSuffix × Unit) × Int × Unit) ⊕ (((List UInt8) × Int × Unit) ⊕ ((ApiSuffix × Unit) × Unit))) :=
 (bif (decide (y1 < ((y0.1.labels).length : Int))) then ((getI y0.1.labels y1).bind fun x1 => ((passkeyref23_label x1).bind fun r2 => (bif (!r2.2.1) then (some (Sum.inr (Sum.inl (([] : List UInt8), (4 : Int), ()))))
 else (some (Sum.inl ((y0.1, ()), (IntKind.wrap .i64 (y1 + (1 : Int))), ()))))))
 else (some (Sum.inr (Sum.inr ((y0.1, ()), ())))))
def passkeyref23_FormatRule_L0 (y : ((ApiSuffix × Unit) × Int × Unit)) : Option (((List UInt8) × Int × Unit) ⊕ ((ApiSuffix × Unit) × Unit)) := iter (fun (y : ((ApiSuffix × Unit) × Int × Unit)) => passkeyref23_FormatRule_L0b y.1 y.2.1) rounds y
def passkeyref23_FormatRule (a0 : ApiSuffix) : Option ((Unit) × ((List UInt8) × Int × Unit)) :=
 ((passkeyref23_FormatRule_L0 ((a0, ()), (0 : Int), ())).bind (Sum.elim (fun (z3 : ((List UInt8) × Int × Unit)) => (some ((), (z3.1, z3.2.1, ())))) (fun (z4 : ((ApiSuffix × Unit) × Unit)) => ((passkeyref23_join z4.1.1.labels).bind fun r5 => ((passkeyref23_Validate r5.2.1).bind fun r6 => (bif (!decide (r6.2.1 = (0 : Int))) then (some ((), (([] : List UInt8), (4 : Int), ())))
 else (bif z4.1.1.wild then (bif z4.1.1.except then (some ((), (([] : List UInt8), (4 : Int), ())))
 else (bif z4.1.1.except then (bif (decide (((z4.1.1.labels).length : Int) < (2 : Int))) then (some ((), (([] : List UInt8), (4 : Int), ())))
 else (bif z4.1.1.wild then (bif Nat.ble ((([42, 46] : List UInt8)).length + (r5.2.1).length) 9223372036854775807 then (some ((), ((([42, 46] : List UInt8) ++ r5.2.1), (0 : Int), ())))
 else none)
 else (bif z4.1.1.except then (bif Nat.ble ((([33] : List UInt8)).length + (r5.2.1).length) 9223372036854775807 then (some ((), ((([33] : List UInt8) ++ r5.2.1), (0 : Int), ())))
 else none)
 else (some ((), (r5.2.1, (0 : Int), ()))))))
 else (bif z4.1.1.wild then (bif Nat.ble ((([42, 46] : List UInt8)).length + (r5.2.1).length) 9223372036854775807 then (some ((), ((([42, 46] : List UInt8) ++ r5.2.1), (0 : Int), ())))
 else none)
 else (bif z4.1.1.except then (bif Nat.ble ((([33] : List UInt8)).length + (r5.2.1).length) 9223372036854775807 then (some ((), ((([33] : List UInt8) ++ r5.2.1), (0 : Int), ())))
 else none)
 else (some ((), (r5.2.1, (0 : Int), ())))))))
 else (bif z4.1.1.except then (bif (decide (((z4.1.1.labels).length : Int) < (2 : Int))) then (some ((), (([] : List UInt8), (4 : Int), ())))
 else (bif z4.1.1.wild then (bif Nat.ble ((([42, 46] : List UInt8)).length + (r5.2.1).length) 9223372036854775807 then (some ((), ((([42, 46] : List UInt8) ++ r5.2.1), (0 : Int), ())))
 else none)
 else (bif z4.1.1.except then (bif Nat.ble ((([33] : List UInt8)).length + (r5.2.1).length) 9223372036854775807 then (some ((), ((([33] : List UInt8) ++ r5.2.1), (0 : Int), ())))
 else none)
 else (some ((), (r5.2.1, (0 : Int), ()))))))
 else (bif z4.1.1.wild then (bif Nat.ble ((([42, 46] : List UInt8)).length + (r5.2.1).length) 9223372036854775807 then (some ((), ((([42, 46] : List UInt8) ++ r5.2.1), (0 : Int), ())))
 else none)
 else (bif z4.1.1.except then (bif Nat.ble ((([33] : List UInt8)).length + (r5.2.1).length) 9223372036854775807 then (some ((), ((([33] : List UInt8) ++ r5.2.1), (0 : Int), ())))
 else none)
 else (some ((), (r5.2.1, (0 : Int), ())))))))))))))
def S_passkeyref23_FormatRule : FSpec T := ⟨[.f (.v (.agg 4))], [(.v .str), (.v (.int .i64))], fun x => passkeyref23_FormatRule x.1⟩
def E_passkeyref23_FormatRule : Env T := ⟨tab.find, cd, globs, flc, fun f ds => match f with
    | 18 => some S_passkeyref23_Validate
    | 33 => some S_passkeyref23_label
    | 39 => some S_passkeyref23_join
    | _ => none, fun f => match f with
    | 18 => true
    | 33 => true
    | 39 => true
    | _ => false⟩
def A_passkeyref23_FormatRule : Loc2 T := ⟨fun id => match id with
    | 0 => some ⟨[(1, .ptr [(.v (.agg 4))]), (4, .f (.v (.int .i64)))], [(.ret, [(2, .f (.v .str)), (3, .f (.v (.int .i64)))]), (.exit 0, [(1, .ptr [(.v (.agg 4))])])], passkeyref23_FormatRule_L0, []⟩
    | _ => none, fun r => match r with
    | _ => none, fun r => match r with
    | _ => false⟩
theorem passkeyref23_FormatRule_L0_eq (y0 : (ApiSuffix × Unit)) (y1 : Int) : run E_passkeyref23_FormatRule A_passkeyref23_FormatRule (loopAt 0 (Tryd.f51.body.getD .skip)) (layC cd [(1, .ptr [(.v (.agg 4))]), (4, .f (.v (.int .i64)))] [] (y0, y1, ())) (roundK cd [(1, .ptr [(.v (.agg 4))]), (4, .f (.v (.int .i64)))] [] [(.ret, [(2, .f (.v .str)), (3, .f (.v (.int .i64)))]), (.exit 0, [(1, .ptr [(.v (.agg 4))])])]) = passkeyref23_FormatRule_L0b y0 y1 := by kernel_rfl
theorem passkeyref23_FormatRule_eq (x : tySs T S_passkeyref23_FormatRule.ps) : run E_passkeyref23_FormatRule A_passkeyref23_FormatRule (Tryd.f51.body.getD .skip) (enterT E_passkeyref23_FormatRule.C S_passkeyref23_FormatRule.ps x) (retK E_passkeyref23_FormatRule Tryd.f51.results.toList S_passkeyref23_FormatRule.ps S_passkeyref23_FormatRule.rs) = S_passkeyref23_FormatRule.fn x := by kernel_rfl
theorem passkeyref23_FormatRule_env : EnvOk Tryd.prog E_passkeyref23_FormatRule := envOk (E := E_passkeyref23_FormatRule) cd_ok tys fl_ok fun f ds S h => by
    dsimp only [E_passkeyref23_FormatRule] at h
    split at h
    · cases h; exact passkeyref23_Validate_ok
    · cases h; exact passkeyref23_label_ok
    · cases h; exact passkeyref23_join_ok
    · cases h
theorem passkeyref23_FormatRule_L0_ok : LoopOk Tryd.prog E_passkeyref23_FormatRule Tryd.f51.ntmps (kqOf S_passkeyref23_FormatRule.ps 0) (loopAt 0 (Tryd.f51.body.getD .skip)) ⟨[(1, .ptr [(.v (.agg 4))]), (4, .f (.v (.int .i64)))], [(.ret, [(2, .f (.v .str)), (3, .f (.v (.int .i64)))]), (.exit 0, [(1, .ptr [(.v (.agg 4))])])], passkeyref23_FormatRule_L0, []⟩ :=
  loop_ok (A := A_passkeyref23_FormatRule) (done := []) (c0 := (Tryd.f51.body.getD .skip)) hmix passkeyref23_FormatRule_env done_nil rounds (by kernel_rfl) (by kernel_rfl) (fun x => passkeyref23_FormatRule_L0_eq x.1 x.2.1) (fun _ => rfl)
theorem passkeyref23_FormatRule_ok : SoundT Tryd.prog cd gdn 51 S_passkeyref23_FormatRule :=
  sound_fn (E := E_passkeyref23_FormatRule) (A := A_passkeyref23_FormatRule) (done := [0]) (c := (Tryd.f51.body.getD .skip)) (S := S_passkeyref23_FormatRule) (fn := Tryd.f51) hmix passkeyref23_FormatRule_env Tryd.func51 rfl (by kernel_rfl) (by kernel_rfl) (done_cons rfl passkeyref23_FormatRule_L0_ok done_nil) (by kernel_rfl) (by kernel_rfl) passkeyref23_FormatRule_eq
def passkeyref23_ends_L0b (y0 : (List (List UInt8))) (y1 : (List (List UInt8))) (y2 : Int) : Option (((List (List UInt8)) × (List (List UInt8)) × Int × Unit) ⊕ ((Bool × Unit) ⊕ (Unit))) :=
 (bif (decide (y2 < ((y1).length : Int))) then (let v1 : Int := (IntKind.wrap .i64 (((y0).length : Int) - ((y1).length : Int)))
 ((getI y0 (IntKind.wrap .i64 (v1 + y2))).bind fun x2 => ((getI y1 y2).bind fun x3 => (bif (!decide (x2 = x3)) then (some (Sum.inr (Sum.inl (false, ()))))
 else (some (Sum.inl (y0, y1, (IntKind.wrap .i64 (y2 + (1 : Int))), ())))))))
 else (some (Sum.inr (Sum.inr ()))))
def passkeyref23_ends_L0 (y : ((List (List UInt8)) × (List (List UInt8)) × Int × Unit)) : Option ((Bool × Unit) ⊕ (Unit)) := iter (fun (y : ((List (List UInt8)) × (List (List UInt8)) × Int × Unit)) => passkeyref23_ends_L0b y.1 y.2.1 y.2.2.1) rounds y
def passkeyref23_ends (a0 : (List (List UInt8))) (a1 : (List (List UInt8))) : Option ((Unit) × (Bool × Unit)) :=
 (bif (decide (((a0).length : Int) < ((a1).length : Int))) then (some ((), (false, ())))
 else ((passkeyref23_ends_L0 (a0, a1, (0 : Int), ())).bind (Sum.elim (fun (z4 : (Bool × Unit)) => (some ((), (z4.1, ())))) (fun (z5 : (Unit)) => (some ((), (true, ())))))))
def S_passkeyref23_ends : FSpec T := ⟨[.f (.v (.rs 1)), .f (.v (.rs 1))], [(.v .bool)], fun x => passkeyref23_ends x.1 x.2.1⟩
def E_passkeyref23_ends : Env T := ⟨tab.find, cd, globs, flc, fun f ds => match f with
    | _ => none, fun f => match f with
    | _ => false⟩
def A_passkeyref23_ends : Loc2 T := ⟨fun id => match id with
    | 0 => some ⟨[(0, .f (.v (.rs 1))), (1, .f (.v (.rs 1))), (5, .f (.v (.int .i64)))], [(.ret, [(4, .f (.v .bool))]), (.exit 0, [])], passkeyref23_ends_L0, []⟩
    | _ => none, fun r => match r with
    | _ => none, fun r => match r with
    | _ => false⟩
theorem passkeyref23_ends_L0_eq (y0 : (List (List UInt8))) (y1 : (List (List UInt8))) (y2 : Int) : run E_passkeyref23_ends A_passkeyref23_ends (loopAt 0 (Tryd.f52.body.getD .skip)) (layC cd [(0, .f (.v (.rs 1))), (1, .f (.v (.rs 1))), (5, .f (.v (.int .i64)))] [] (y0, y1, y2, ())) (roundK cd [(0, .f (.v (.rs 1))), (1, .f (.v (.rs 1))), (5, .f (.v (.int .i64)))] [] [(.ret, [(4, .f (.v .bool))]), (.exit 0, [])]) = passkeyref23_ends_L0b y0 y1 y2 := by kernel_rfl
theorem passkeyref23_ends_eq (x : tySs T S_passkeyref23_ends.ps) : run E_passkeyref23_ends A_passkeyref23_ends (Tryd.f52.body.getD .skip) (enterT E_passkeyref23_ends.C S_passkeyref23_ends.ps x) (retK E_passkeyref23_ends Tryd.f52.results.toList S_passkeyref23_ends.ps S_passkeyref23_ends.rs) = S_passkeyref23_ends.fn x := by kernel_rfl
theorem passkeyref23_ends_env : EnvOk Tryd.prog E_passkeyref23_ends := envOk (E := E_passkeyref23_ends) cd_ok tys fl_ok fun f ds S h => by cases h
theorem passkeyref23_ends_L0_ok : LoopOk Tryd.prog E_passkeyref23_ends Tryd.f52.ntmps (kqOf S_passkeyref23_ends.ps 0) (loopAt 0 (Tryd.f52.body.getD .skip)) ⟨[(0, .f (.v (.rs 1))), (1, .f (.v (.rs 1))), (5, .f (.v (.int .i64)))], [(.ret, [(4, .f (.v .bool))]), (.exit 0, [])], passkeyref23_ends_L0, []⟩ :=
  loop_ok (A := A_passkeyref23_ends) (done := []) (c0 := (Tryd.f52.body.getD .skip)) hmix passkeyref23_ends_env done_nil rounds (by kernel_rfl) (by kernel_rfl) (fun x => passkeyref23_ends_L0_eq x.1 x.2.1 x.2.2.1) (fun _ => rfl)
theorem passkeyref23_ends_ok : SoundT Tryd.prog cd gdn 52 S_passkeyref23_ends :=
  sound_fn (E := E_passkeyref23_ends) (A := A_passkeyref23_ends) (done := [0]) (c := (Tryd.f52.body.getD .skip)) (S := S_passkeyref23_ends) (fn := Tryd.f52) hmix passkeyref23_ends_env Tryd.func52 rfl (by kernel_rfl) (by kernel_rfl) (done_cons rfl passkeyref23_ends_L0_ok done_nil) (by kernel_rfl) (by kernel_rfl) passkeyref23_ends_eq
def passkeyref23_Public_L0b (y0 : (List (ApiSuffix))) (y1 : (List (List UInt8))) (y2 : Int) (y3 : Int) (y4 : Int) : Option (((List (ApiSuffix)) × (List (List UInt8)) × Int × Int × Int × Unit) ⊕ (Int × Int × Unit)) :=
 (bif (decide (y4 < ((y0).length : Int))) then (bif (decide (y4 < (64 : Int))) then ((getI y0 y4).bind fun x2 => ((passkeyref23_FormatRule x2).bind fun r3 => (bif (!decide (r3.2.2.1 = (0 : Int))) then (some (Sum.inl (y0, y1, y2, y3, (IntKind.wrap .i64 (y4 + (1 : Int))), ())))
 else ((passkeyref23_ends y1 x2.labels).bind fun r4 => (bif (!r4.2.1) then (some (Sum.inl (y0, y1, y2, y3, (IntKind.wrap .i64 (y4 + (1 : Int))), ())))
 else (bif x2.wild then (bif (decide (((y1).length : Int) = ((x2.labels).length : Int))) then (some (Sum.inl (y0, y1, y2, y3, (IntKind.wrap .i64 (y4 + (1 : Int))), ())))
 else ((bif x2.wild then (some (y0, y1, y2, y3, y4, (x2, ()), (IntKind.wrap .i64 (((x2.labels).length : Int) + (1 : Int))), ()))
 else (some (y0, y1, y2, y3, y4, (x2, ()), ((x2.labels).length : Int), ()))).bind (fun (j5 : ((List (ApiSuffix)) × (List (List UInt8)) × Int × Int × Int × (ApiSuffix × Unit) × Int × Unit)) => (bif j5.2.2.2.2.2.1.1.except then (let v6 : Int := (bif decide (j5.2.2.2.1 < j5.2.2.2.2.2.2.1) then j5.2.2.2.2.2.2.1 else j5.2.2.2.1)
 (some (Sum.inl (j5.1, j5.2.1, j5.2.2.1, v6, (IntKind.wrap .i64 (j5.2.2.2.2.1 + (1 : Int))), ()))))
 else (let v7 : Int := (bif decide (j5.2.2.1 < j5.2.2.2.2.2.2.1) then j5.2.2.2.2.2.2.1 else j5.2.2.1)
 (some (Sum.inl (j5.1, j5.2.1, v7, j5.2.2.2.1, (IntKind.wrap .i64 (j5.2.2.2.2.1 + (1 : Int))), ()))))))))
 else ((bif x2.wild then (some (y0, y1, y2, y3, y4, (x2, ()), (IntKind.wrap .i64 (((x2.labels).length : Int) + (1 : Int))), ()))
 else (some (y0, y1, y2, y3, y4, (x2, ()), ((x2.labels).length : Int), ()))).bind (fun (j8 : ((List (ApiSuffix)) × (List (List UInt8)) × Int × Int × Int × (ApiSuffix × Unit) × Int × Unit)) => (bif j8.2.2.2.2.2.1.1.except then (let v9 : Int := (bif decide (j8.2.2.2.1 < j8.2.2.2.2.2.2.1) then j8.2.2.2.2.2.2.1 else j8.2.2.2.1)
 (some (Sum.inl (j8.1, j8.2.1, j8.2.2.1, v9, (IntKind.wrap .i64 (j8.2.2.2.2.1 + (1 : Int))), ()))))
 else (let v10 : Int := (bif decide (j8.2.2.1 < j8.2.2.2.2.2.2.1) then j8.2.2.2.2.2.2.1 else j8.2.2.1)
 (some (Sum.inl (j8.1, j8.2.1, v10, j8.2.2.2.1, (IntKind.wrap .i64 (j8.2.2.2.2.1 + (1 : Int))), ())))))))))))))
 else (some (Sum.inr (y2, y3, ()))))
 else (some (Sum.inr (y2, y3, ()))))
def passkeyref23_Public_L0 (y : ((List (ApiSuffix)) × (List (List UInt8)) × Int × Int × Int × Unit)) : Option (Int × Int × Unit) := iter (fun (y : ((List (ApiSuffix)) × (List (List UInt8)) × Int × Int × Int × Unit)) => passkeyref23_Public_L0b y.1 y.2.1 y.2.2.1 y.2.2.2.1 y.2.2.2.2.1) rounds y
def passkeyref23_Public (a0 : (List (ApiSuffix))) (a1 : (List UInt8)) : Option ((Unit) × (Int × Unit)) :=
 ((passkeyref23_Labels a1).bind fun r1 => (bif (decide (((r1.2.1).length : Int) = (0 : Int))) then (some ((), ((0 : Int), ())))
 else ((passkeyref23_Public_L0 (a0, r1.2.1, (1 : Int), (0 : Int), (0 : Int), ())).bind (fun (z11 : (Int × Int × Unit)) => (bif (decide ((0 : Int) < z11.2.1)) then (some ((), ((IntKind.wrap .i64 (z11.2.1 - (1 : Int))), ())))
 else (some ((), (z11.1, ()))))))))
def S_passkeyref23_Public : FSpec T := ⟨[.f (.v (.rs 4)), .f (.v .str)], [(.v (.int .i64))], fun x => passkeyref23_Public x.1 x.2.1⟩
def E_passkeyref23_Public : Env T := ⟨tab.find, cd, globs, flc, fun f ds => match f with
    | 37 => some S_passkeyref23_Labels
    | 51 => some S_passkeyref23_FormatRule
    | 52 => some S_passkeyref23_ends
    | _ => none, fun f => match f with
    | 51 => true
    | 52 => true
    | _ => false⟩
def A_passkeyref23_Public : Loc2 T := ⟨fun id => match id with
    | 0 => some ⟨[(0, .f (.v (.rs 4))), (5, .f (.own 1)), (6, .f (.v (.int .i64))), (7, .f (.v (.int .i64))), (8, .f (.v (.int .i64)))], [(.exit 0, [(6, .f (.v (.int .i64))), (7, .f (.v (.int .i64)))])], passkeyref23_Public_L0, []⟩
    | _ => none, fun r => match r with
    | 14 => some ([(0, .f (.v (.rs 4))), (5, .f (.own 1)), (6, .f (.v (.int .i64))), (7, .f (.v (.int .i64))), (8, .f (.v (.int .i64))), (9, .ptr [(.v (.agg 4))]), (12, .f (.v (.int .i64)))], true)
    | _ => none, fun r => match r with
    | _ => false⟩
theorem passkeyref23_Public_L0_eq (y0 : (List (ApiSuffix))) (y1 : (List (List UInt8))) (y2 : Int) (y3 : Int) (y4 : Int) : run E_passkeyref23_Public A_passkeyref23_Public (loopAt 0 (Tryd.f38.body.getD .skip)) (layC cd [(0, .f (.v (.rs 4))), (5, .f (.own 1)), (6, .f (.v (.int .i64))), (7, .f (.v (.int .i64))), (8, .f (.v (.int .i64)))] [] (y0, y1, y2, y3, y4, ())) (roundK cd [(0, .f (.v (.rs 4))), (5, .f (.own 1)), (6, .f (.v (.int .i64))), (7, .f (.v (.int .i64))), (8, .f (.v (.int .i64)))] [] [(.exit 0, [(6, .f (.v (.int .i64))), (7, .f (.v (.int .i64)))])]) = passkeyref23_Public_L0b y0 y1 y2 y3 y4 := by kernel_rfl
theorem passkeyref23_Public_eq (x : tySs T S_passkeyref23_Public.ps) : run E_passkeyref23_Public A_passkeyref23_Public (Tryd.f38.body.getD .skip) (enterT E_passkeyref23_Public.C S_passkeyref23_Public.ps x) (retK E_passkeyref23_Public Tryd.f38.results.toList S_passkeyref23_Public.ps S_passkeyref23_Public.rs) = S_passkeyref23_Public.fn x := by kernel_rfl
theorem passkeyref23_Public_env : EnvOk Tryd.prog E_passkeyref23_Public := envOk (E := E_passkeyref23_Public) cd_ok tys fl_ok fun f ds S h => by
    dsimp only [E_passkeyref23_Public] at h
    split at h
    · cases h; exact passkeyref23_Labels_ok
    · cases h; exact passkeyref23_FormatRule_ok
    · cases h; exact passkeyref23_ends_ok
    · cases h
theorem passkeyref23_Public_L0_ok : LoopOk Tryd.prog E_passkeyref23_Public Tryd.f38.ntmps (kqOf S_passkeyref23_Public.ps 0) (loopAt 0 (Tryd.f38.body.getD .skip)) ⟨[(0, .f (.v (.rs 4))), (5, .f (.own 1)), (6, .f (.v (.int .i64))), (7, .f (.v (.int .i64))), (8, .f (.v (.int .i64)))], [(.exit 0, [(6, .f (.v (.int .i64))), (7, .f (.v (.int .i64)))])], passkeyref23_Public_L0, []⟩ :=
  loop_ok (A := A_passkeyref23_Public) (done := []) (c0 := (Tryd.f38.body.getD .skip)) hmix passkeyref23_Public_env done_nil rounds (by kernel_rfl) (by kernel_rfl) (fun x => passkeyref23_Public_L0_eq x.1 x.2.1 x.2.2.1 x.2.2.2.1 x.2.2.2.2.1) (fun _ => rfl)
theorem passkeyref23_Public_ok : SoundT Tryd.prog cd gdn 38 S_passkeyref23_Public :=
  sound_fn (E := E_passkeyref23_Public) (A := A_passkeyref23_Public) (done := [0]) (c := (Tryd.f38.body.getD .skip)) (S := S_passkeyref23_Public) (fn := Tryd.f38) hmix passkeyref23_Public_env Tryd.func38 rfl (by kernel_rfl) (by kernel_rfl) (done_cons rfl passkeyref23_Public_L0_ok done_nil) (by kernel_rfl) (by kernel_rfl) passkeyref23_Public_eq
def passkeyref23_Registrable (a0 : (List (ApiSuffix))) (a1 : (List UInt8)) : Option ((Unit) × ((List UInt8) × Bool × Unit)) :=
 ((passkeyref23_Labels a1).bind fun r1 => ((passkeyref23_Public a0 a1).bind fun r2 => (bif (decide (((r1.2.1).length : Int) ≤ r2.2.1)) then (some ((), (([] : List UInt8), false, ())))
 else (let v3 : Int := (IntKind.wrap .i64 ((IntKind.wrap .i64 (((r1.2.1).length : Int) - r2.2.1)) - (1 : Int)))
 (bif (decide ((0 : Int) ≤ v3) && decide (v3 ≤ ((r1.2.1).length : Int))) then (bif decide (((r1.2.1).length - (v3).toNat) + (v3).toNat ≤ (r1.2.1).length) then ((passkeyref23_join (List.take ((r1.2.1).length - (v3).toNat) (List.drop (v3).toNat r1.2.1))).bind fun r4 => (some ((), (r4.2.1, true, ()))))
 else none)
 else none)))))
def S_passkeyref23_Registrable : FSpec T := ⟨[.f (.v (.rs 4)), .f (.v .str)], [(.v .str), (.v .bool)], fun x => passkeyref23_Registrable x.1 x.2.1⟩
def E_passkeyref23_Registrable : Env T := ⟨tab.find, cd, globs, flc, fun f ds => match f with
    | 37 => some S_passkeyref23_Labels
    | 38 => some S_passkeyref23_Public
    | 39 => some S_passkeyref23_join
    | _ => none, fun f => match f with
    | 38 => true
    | 39 => true
    | _ => false⟩
def A_passkeyref23_Registrable : Loc2 T := ⟨fun id => match id with
    | _ => none, fun r => match r with
    | _ => none, fun r => match r with
    | _ => false⟩
theorem passkeyref23_Registrable_eq (x : tySs T S_passkeyref23_Registrable.ps) : run E_passkeyref23_Registrable A_passkeyref23_Registrable (Tryd.f23.body.getD .skip) (enterT E_passkeyref23_Registrable.C S_passkeyref23_Registrable.ps x) (retK E_passkeyref23_Registrable Tryd.f23.results.toList S_passkeyref23_Registrable.ps S_passkeyref23_Registrable.rs) = S_passkeyref23_Registrable.fn x := by kernel_rfl
theorem passkeyref23_Registrable_env : EnvOk Tryd.prog E_passkeyref23_Registrable := envOk (E := E_passkeyref23_Registrable) cd_ok tys fl_ok fun f ds S h => by
    dsimp only [E_passkeyref23_Registrable] at h
    split at h
    · cases h; exact passkeyref23_Labels_ok
    · cases h; exact passkeyref23_Public_ok
    · cases h; exact passkeyref23_join_ok
    · cases h
theorem passkeyref23_Registrable_ok : SoundT Tryd.prog cd gdn 23 S_passkeyref23_Registrable :=
  sound_fn (E := E_passkeyref23_Registrable) (A := A_passkeyref23_Registrable) (done := []) (c := (Tryd.f23.body.getD .skip)) (S := S_passkeyref23_Registrable) (fn := Tryd.f23) hmix passkeyref23_Registrable_env Tryd.func23 rfl (by kernel_rfl) (by kernel_rfl) done_nil (by kernel_rfl) (by kernel_rfl) passkeyref23_Registrable_eq
def passkeyref23_Related_L2b (y0 : (List (ApiSuffix))) (y1 : (List (List UInt8))) (y2 : (ApiOrigin × Unit)) (y3 : (List (List UInt8))) (y4 : Int) (y5 : (ApiOrigin × Unit)) (y6 : (List UInt8)) (y7 : Bool) (y8 : Int) : Option (((List (ApiSuffix)) × (List (List UInt8)) × (ApiOrigin × Unit) × (List (List UInt8)) × Int × (ApiOrigin × Unit) × (List UInt8) × Bool × Int × Unit) ⊕ ((List (ApiSuffix)) × (List (List UInt8)) × (ApiOrigin × Unit) × (List (List UInt8)) × Int × (ApiOrigin × Unit) × (List UInt8) × Bool × Unit)) :=
 (bif (decide (y8 < ((y3).length : Int))) then (bif y7 then (some (Sum.inl (y0, y1, (y2.1, ()), y3, y4, (y5.1, ()), y6, true, (IntKind.wrap .i64 (y8 + (1 : Int))), ())))
 else (bif (decide ((0 : Int) ≤ y8) && decide (y8 < ((y3).length : Int))) then (((y3)[(y8).toNat]?).bind fun x6 => (some (Sum.inl (y0, y1, (y2.1, ()), y3, y4, (y5.1, ()), y6, (decide (x6 = y6)), (IntKind.wrap .i64 (y8 + (1 : Int))), ()))))
 else none))
 else (some (Sum.inr (y0, y1, (y2.1, ()), y3, y4, (y5.1, ()), y6, y7, ()))))
def passkeyref23_Related_L2 (y : ((List (ApiSuffix)) × (List (List UInt8)) × (ApiOrigin × Unit) × (List (List UInt8)) × Int × (ApiOrigin × Unit) × (List UInt8) × Bool × Int × Unit)) : Option ((List (ApiSuffix)) × (List (List UInt8)) × (ApiOrigin × Unit) × (List (List UInt8)) × Int × (ApiOrigin × Unit) × (List UInt8) × Bool × Unit) := iter (fun (y : ((List (ApiSuffix)) × (List (List UInt8)) × (ApiOrigin × Unit) × (List (List UInt8)) × Int × (ApiOrigin × Unit) × (List UInt8) × Bool × Int × Unit)) => passkeyref23_Related_L2b y.1 y.2.1 y.2.2.1 y.2.2.2.1 y.2.2.2.2.1 y.2.2.2.2.2.1 y.2.2.2.2.2.2.1 y.2.2.2.2.2.2.2.1 y.2.2.2.2.2.2.2.2.1) rounds y
def passkeyref23_Related_L0b (y0 : (List (ApiSuffix))) (y1 : (List (List UInt8))) (y2 : (ApiOrigin × Unit)) (y3 : (List (List UInt8))) (y4 : Int) : Option (((List (ApiSuffix)) × (List (List UInt8)) × (ApiOrigin × Unit) × (List (List UInt8)) × Int × Unit) ⊕ ((Int × Unit) ⊕ (Unit))) :=
 (bif (decide (y4 < ((y1).length : Int))) then ((getI y1 y4).bind fun x1 => ((passkeyref23_ParseOrigin x1).bind fun r2 => ((passkeyref23_Registrable y0 r2.2.1.host).bind fun r3 => (bif (!decide (r2.2.2.1 = (0 : Int))) then (some (Sum.inl (y0, y1, (y2.1, ()), y3, (IntKind.wrap .i64 (y4 + (1 : Int))), ())))
 else (bif (!r3.2.2.1) then (some (Sum.inl (y0, y1, (y2.1, ()), y3, (IntKind.wrap .i64 (y4 + (1 : Int))), ())))
 else ((passkeyref23_split r3.2.1 (46 : UInt8)).bind fun r4 => (bif decide ((0 : Int) < ((r4.2.1).length : Int)) then (((r4.2.1)[0]?).bind fun x5 => ((passkeyref23_Related_L2 (y0, y1, (y2.1, ()), y3, y4, (r2.2.1, ()), x5, false, (0 : Int), ())).bind (fun (z6 : ((List (ApiSuffix)) × (List (List UInt8)) × (ApiOrigin × Unit) × (List (List UInt8)) × Int × (ApiOrigin × Unit) × (List UInt8) × Bool × Unit)) => (bif (!z6.2.2.2.2.2.2.2.1) then (bif (decide ((5 : Int) ≤ ((z6.2.2.2.1).length : Int))) then (some (Sum.inl (z6.1, z6.2.1, (z6.2.2.1.1, ()), z6.2.2.2.1, (IntKind.wrap .i64 (z6.2.2.2.2.1 + (1 : Int))), ())))
 else (bif small ((z6.2.2.2.1).length + (([z6.2.2.2.2.2.2.1] : List (List UInt8)) : List (List UInt8)).length) 16 then (let v7 : List (List UInt8) := (z6.2.2.2.1 ++ ([z6.2.2.2.2.2.2.1] : List (List UInt8)))
 (let v8 : Bool := ((z6.2.2.2.2.2.1.1.secure == z6.2.2.1.1.secure) && (decide (z6.2.2.2.2.2.1.1.host = z6.2.2.1.1.host) && (decide (z6.2.2.2.2.2.1.1.port = z6.2.2.1.1.port) && true)))
 (bif v8 then (some (Sum.inr (Sum.inl ((0 : Int), ()))))
 else (some (Sum.inl (z6.1, z6.2.1, (z6.2.2.1.1, ()), v7, (IntKind.wrap .i64 (z6.2.2.2.2.1 + (1 : Int))), ()))))))
 else none))
 else (let v9 : Bool := ((z6.2.2.2.2.2.1.1.secure == z6.2.2.1.1.secure) && (decide (z6.2.2.2.2.2.1.1.host = z6.2.2.1.1.host) && (decide (z6.2.2.2.2.2.1.1.port = z6.2.2.1.1.port) && true)))
 (bif v9 then (some (Sum.inr (Sum.inl ((0 : Int), ()))))
 else (some (Sum.inl (z6.1, z6.2.1, (z6.2.2.1.1, ()), z6.2.2.2.1, (IntKind.wrap .i64 (z6.2.2.2.2.1 + (1 : Int))), ())))))))))
 else none)))))))
 else (some (Sum.inr (Sum.inr ()))))
def passkeyref23_Related_L0 (y : ((List (ApiSuffix)) × (List (List UInt8)) × (ApiOrigin × Unit) × (List (List UInt8)) × Int × Unit)) : Option ((Int × Unit) ⊕ (Unit)) := iter (fun (y : ((List (ApiSuffix)) × (List (List UInt8)) × (ApiOrigin × Unit) × (List (List UInt8)) × Int × Unit)) => passkeyref23_Related_L0b y.1 y.2.1 y.2.2.1 y.2.2.2.1 y.2.2.2.2.1) rounds y
def passkeyref23_Related (a0 : (List (ApiSuffix))) (a1 : ApiOrigin) (a2 : (List (List UInt8))) : Option ((Unit) × (Int × Unit)) :=
 ((passkeyref23_Related_L0 (a0, a2, (a1, ()), [], (0 : Int), ())).bind (Sum.elim (fun (z10 : (Int × Unit)) => (some ((), (z10.1, ())))) (fun (z11 : (Unit)) => (some ((), ((34 : Int), ()))))))
def S_passkeyref23_Related : FSpec T := ⟨[.f (.v (.rs 4)), .f (.v (.agg 3)), .f (.v (.rs 1))], [(.v (.int .i64))], fun x => passkeyref23_Related x.1 x.2.1 x.2.2.1⟩
def E_passkeyref23_Related : Env T := ⟨tab.find, cd, globs, flc, fun f ds => match f with
    | 10 => some S_passkeyref23_ParseOrigin
    | 23 => some S_passkeyref23_Registrable
    | 24 => some S_passkeyref23_split
    | _ => none, fun f => match f with
    | 10 => true
    | 23 => true
    | _ => false⟩
def A_passkeyref23_Related : Loc2 T := ⟨fun id => match id with
    | 2 => some ⟨[(0, .f (.v (.rs 4))), (2, .f (.v (.rs 1))), (4, .ptr [(.v (.agg 3))]), (7, .f (.own 1)), (8, .f (.v (.int .i64))), (9, .ptr [(.v (.agg 3))]), (13, .f (.v .str)), (14, .f (.v .bool)), (15, .f (.v (.int .i64)))], [(.exit 2, [(0, .f (.v (.rs 4))), (2, .f (.v (.rs 1))), (4, .ptr [(.v (.agg 3))]), (7, .f (.own 1)), (8, .f (.v (.int .i64))), (9, .ptr [(.v (.agg 3))]), (13, .f (.v .str)), (14, .f (.v .bool))])], passkeyref23_Related_L2, []⟩
    | 0 => some ⟨[(0, .f (.v (.rs 4))), (2, .f (.v (.rs 1))), (4, .ptr [(.v (.agg 3))]), (7, .f (.own 1)), (8, .f (.v (.int .i64)))], [(.ret, [(6, .f (.v (.int .i64)))]), (.exit 0, [])], passkeyref23_Related_L0, []⟩
    | _ => none, fun r => match r with
    | _ => none, fun r => match r with
    | _ => false⟩
theorem passkeyref23_Related_L2_eq (y0 : (List (ApiSuffix))) (y1 : (List (List UInt8))) (y2 : (ApiOrigin × Unit)) (y3 : (List (List UInt8))) (y4 : Int) (y5 : (ApiOrigin × Unit)) (y6 : (List UInt8)) (y7 : Bool) (y8 : Int) : run E_passkeyref23_Related A_passkeyref23_Related (loopAt 2 (Tryd.f12.body.getD .skip)) (layC cd [(0, .f (.v (.rs 4))), (2, .f (.v (.rs 1))), (4, .ptr [(.v (.agg 3))]), (7, .f (.own 1)), (8, .f (.v (.int .i64))), (9, .ptr [(.v (.agg 3))]), (13, .f (.v .str)), (14, .f (.v .bool)), (15, .f (.v (.int .i64)))] [] (y0, y1, y2, y3, y4, y5, y6, y7, y8, ())) (roundK cd [(0, .f (.v (.rs 4))), (2, .f (.v (.rs 1))), (4, .ptr [(.v (.agg 3))]), (7, .f (.own 1)), (8, .f (.v (.int .i64))), (9, .ptr [(.v (.agg 3))]), (13, .f (.v .str)), (14, .f (.v .bool)), (15, .f (.v (.int .i64)))] [] [(.exit 2, [(0, .f (.v (.rs 4))), (2, .f (.v (.rs 1))), (4, .ptr [(.v (.agg 3))]), (7, .f (.own 1)), (8, .f (.v (.int .i64))), (9, .ptr [(.v (.agg 3))]), (13, .f (.v .str)), (14, .f (.v .bool))])]) = passkeyref23_Related_L2b y0 y1 y2 y3 y4 y5 y6 y7 y8 := by kernel_rfl
theorem passkeyref23_Related_L0_eq (y0 : (List (ApiSuffix))) (y1 : (List (List UInt8))) (y2 : (ApiOrigin × Unit)) (y3 : (List (List UInt8))) (y4 : Int) : run E_passkeyref23_Related A_passkeyref23_Related (loopAt 0 (Tryd.f12.body.getD .skip)) (layC cd [(0, .f (.v (.rs 4))), (2, .f (.v (.rs 1))), (4, .ptr [(.v (.agg 3))]), (7, .f (.own 1)), (8, .f (.v (.int .i64)))] [] (y0, y1, y2, y3, y4, ())) (roundK cd [(0, .f (.v (.rs 4))), (2, .f (.v (.rs 1))), (4, .ptr [(.v (.agg 3))]), (7, .f (.own 1)), (8, .f (.v (.int .i64)))] [] [(.ret, [(6, .f (.v (.int .i64)))]), (.exit 0, [])]) = passkeyref23_Related_L0b y0 y1 y2 y3 y4 := by kernel_rfl
theorem passkeyref23_Related_eq (x : tySs T S_passkeyref23_Related.ps) : run E_passkeyref23_Related A_passkeyref23_Related (Tryd.f12.body.getD .skip) (enterT E_passkeyref23_Related.C S_passkeyref23_Related.ps x) (retK E_passkeyref23_Related Tryd.f12.results.toList S_passkeyref23_Related.ps S_passkeyref23_Related.rs) = S_passkeyref23_Related.fn x := by kernel_rfl
theorem passkeyref23_Related_env : EnvOk Tryd.prog E_passkeyref23_Related := envOk (E := E_passkeyref23_Related) cd_ok tys fl_ok fun f ds S h => by
    dsimp only [E_passkeyref23_Related] at h
    split at h
    · cases h; exact passkeyref23_ParseOrigin_ok
    · cases h; exact passkeyref23_Registrable_ok
    · cases h; exact passkeyref23_split_ok
    · cases h
theorem passkeyref23_Related_L2_ok : LoopOk Tryd.prog E_passkeyref23_Related Tryd.f12.ntmps (kqOf S_passkeyref23_Related.ps 0) (loopAt 2 (Tryd.f12.body.getD .skip)) ⟨[(0, .f (.v (.rs 4))), (2, .f (.v (.rs 1))), (4, .ptr [(.v (.agg 3))]), (7, .f (.own 1)), (8, .f (.v (.int .i64))), (9, .ptr [(.v (.agg 3))]), (13, .f (.v .str)), (14, .f (.v .bool)), (15, .f (.v (.int .i64)))], [(.exit 2, [(0, .f (.v (.rs 4))), (2, .f (.v (.rs 1))), (4, .ptr [(.v (.agg 3))]), (7, .f (.own 1)), (8, .f (.v (.int .i64))), (9, .ptr [(.v (.agg 3))]), (13, .f (.v .str)), (14, .f (.v .bool))])], passkeyref23_Related_L2, []⟩ :=
  loop_ok (A := A_passkeyref23_Related) (done := []) (c0 := (Tryd.f12.body.getD .skip)) hmix passkeyref23_Related_env done_nil rounds (by kernel_rfl) (by kernel_rfl) (fun x => passkeyref23_Related_L2_eq x.1 x.2.1 x.2.2.1 x.2.2.2.1 x.2.2.2.2.1 x.2.2.2.2.2.1 x.2.2.2.2.2.2.1 x.2.2.2.2.2.2.2.1 x.2.2.2.2.2.2.2.2.1) (fun _ => rfl)
theorem passkeyref23_Related_L0_ok : LoopOk Tryd.prog E_passkeyref23_Related Tryd.f12.ntmps (kqOf S_passkeyref23_Related.ps 0) (loopAt 0 (Tryd.f12.body.getD .skip)) ⟨[(0, .f (.v (.rs 4))), (2, .f (.v (.rs 1))), (4, .ptr [(.v (.agg 3))]), (7, .f (.own 1)), (8, .f (.v (.int .i64)))], [(.ret, [(6, .f (.v (.int .i64)))]), (.exit 0, [])], passkeyref23_Related_L0, []⟩ :=
  loop_ok (A := A_passkeyref23_Related) (done := [2]) (c0 := (Tryd.f12.body.getD .skip)) hmix passkeyref23_Related_env (done_cons rfl passkeyref23_Related_L2_ok done_nil) rounds (by kernel_rfl) (by kernel_rfl) (fun x => passkeyref23_Related_L0_eq x.1 x.2.1 x.2.2.1 x.2.2.2.1 x.2.2.2.2.1) (fun _ => rfl)
theorem passkeyref23_Related_ok : SoundT Tryd.prog cd gdn 12 S_passkeyref23_Related :=
  sound_fn (E := E_passkeyref23_Related) (A := A_passkeyref23_Related) (done := [2, 0]) (c := (Tryd.f12.body.getD .skip)) (S := S_passkeyref23_Related) (fn := Tryd.f12) hmix passkeyref23_Related_env Tryd.func12 rfl (by kernel_rfl) (by kernel_rfl) (done_cons rfl passkeyref23_Related_L2_ok (done_cons rfl passkeyref23_Related_L0_ok done_nil)) (by kernel_rfl) (by kernel_rfl) passkeyref23_Related_eq
def passkeylaw24_OriginRelated_L0b (y0 : Int) (y1 : Int) (y2 : (List (List UInt8))) (y3 : (List (Int))) (y4 : Int) : Option ((Int × Int × (List (List UInt8)) × (List (Int)) × Int × Unit) ⊕ ((Bool × Unit) ⊕ (Int × Int × (List (List UInt8)) × (List (Int)) × Unit))) :=
 (bif (decide (y4 < ((y2).length : Int))) then ((getI y2 y4).bind fun x3 => (bif (decide ((150 : Int) < ((x3).length : Int))) then ((passkeylaw24_awake).bind fun r4 => (some (Sum.inr (Sum.inl (r4.2.1, ())))))
 else (some (Sum.inl (y0, y1, y2, y3, (IntKind.wrap .i64 (y4 + (1 : Int))), ())))))
 else (some (Sum.inr (Sum.inr (y0, y1, y2, y3, ())))))
def passkeylaw24_OriginRelated_L0 (y : (Int × Int × (List (List UInt8)) × (List (Int)) × Int × Unit)) : Option ((Bool × Unit) ⊕ (Int × Int × (List (List UInt8)) × (List (Int)) × Unit)) := iter (fun (y : (Int × Int × (List (List UInt8)) × (List (Int)) × Int × Unit)) => passkeylaw24_OriginRelated_L0b y.1 y.2.1 y.2.2.1 y.2.2.2.1 y.2.2.2.2.1) rounds y
def passkeylaw24_OriginRelated_L2b (y0 : Int) (y1 : (List (Int))) (y2 : (List (ApiSuffix))) (y3 : (List (List UInt8))) (y4 : Int) : Option ((Int × (List (Int)) × (List (ApiSuffix)) × (List (List UInt8)) × Int × Unit) ⊕ (Int × (List (ApiSuffix)) × (List (List UInt8)) × Unit)) :=
 (bif (decide (y4 < ((y1).length : Int))) then ((getI y1 y4).bind fun x8 => ((getI y1 y4).bind fun x9 => ((passkeylaw24_text x8 (IntKind.wrap .i64 (Int.tdiv x9 (30 : Int)))).bind fun r10 => (bif small ((y3).length + (([r10.2.1] : List (List UInt8)) : List (List UInt8)).length) 16 then (some (Sum.inl (y0, y1, y2, (y3 ++ ([r10.2.1] : List (List UInt8))), (IntKind.wrap .i64 (y4 + (1 : Int))), ())))
 else none))))
 else (some (Sum.inr (y0, y2, y3, ()))))
def passkeylaw24_OriginRelated_L2 (y : (Int × (List (Int)) × (List (ApiSuffix)) × (List (List UInt8)) × Int × Unit)) : Option (Int × (List (ApiSuffix)) × (List (List UInt8)) × Unit) := iter (fun (y : (Int × (List (Int)) × (List (ApiSuffix)) × (List (List UInt8)) × Int × Unit)) => passkeylaw24_OriginRelated_L2b y.1 y.2.1 y.2.2.1 y.2.2.2.1 y.2.2.2.2.1) rounds y
def passkeylaw24_OriginRelated (a0 : Int) (a1 : Int) (a2 : (List (List UInt8))) (a3 : (List (Int))) : Option ((Unit) × (Bool × Unit)) :=
 (bif (decide ((10 : Int) < ((a2).length : Int))) then ((passkeylaw24_awake).bind fun r1 => (some ((), (r1.2.1, ()))))
 else (bif (decide ((12 : Int) < ((a3).length : Int))) then ((passkeylaw24_awake).bind fun r2 => (some ((), (r2.2.1, ()))))
 else ((passkeylaw24_OriginRelated_L0 (a0, a1, a2, a3, (0 : Int), ())).bind (Sum.elim (fun (z5 : (Bool × Unit)) => (some ((), (z5.1, ())))) (fun (z6 : (Int × Int × (List (List UInt8)) × (List (Int)) × Unit)) => ((passkeycast_Rules z6.1).bind fun r7 => (bif small ((z6.2.2.1).length) 16 then ((passkeylaw24_OriginRelated_L2 (z6.2.1, z6.2.2.2.1, r7.2.1, z6.2.2.1, (0 : Int), ())).bind (fun (z11 : (Int × (List (ApiSuffix)) × (List (List UInt8)) × Unit)) => ((passkeycast_Mod z11.1 (8192 : Int)).bind fun r12 => ((passkeycast_Origin r12.2.1).bind fun r13 => ((bif (decide ((0 : Int) < ((z11.2.2.1).length : Int))) then ((passkeycast_Mod z11.1 ((z11.2.2.1).length : Int)).bind fun r14 => (bif (decide ((0 : Int) ≤ r14.2.1) && decide (r14.2.1 < ((z11.2.2.1).length : Int))) then (((z11.2.2.1)[(r14.2.1).toNat]?).bind fun x15 => ((passkeyref23_ParseOrigin x15).bind fun r16 => ((origin_Related z11.2.1 r16.2.1 z11.2.2.1).bind fun r17 => ((passkeyref23_Related z11.2.1 r16.2.1 z11.2.2.1).bind fun r18 => (bif (!decide (r17.2.1 = r18.2.1)) then (((some ((), (false, ())))).bind fun q => some (Sum.inr q))
 else (some (Sum.inl (z11.2.1, z11.2.2.1, (r13.2.1, ()), ()))))))))
 else none))
 else (some (Sum.inl (z11.2.1, z11.2.2.1, (r13.2.1, ()), ())))).bind (Sum.elim (fun (j19 : ((List (ApiSuffix)) × (List (List UInt8)) × (ApiOrigin × Unit) × Unit)) => ((origin_Related j19.1 j19.2.2.1.1 j19.2.1).bind fun r20 => ((passkeyref23_Related j19.1 j19.2.2.1.1 j19.2.1).bind fun r21 => (bif (decide (r20.2.1 = r21.2.1)) then ((passkeylaw24_awake).bind fun r22 => (some ((), (r22.2.1, ()))))
 else (some ((), (false, ()))))))) some))))))
 else none)))))))
def S_passkeylaw24_OriginRelated : FSpec T := ⟨[.f (.v (.int .i64)), .f (.v (.int .i64)), .f (.v (.rs 1)), .f (.v (.rs 2))], [(.v .bool)], fun x => passkeylaw24_OriginRelated x.1 x.2.1 x.2.2.1 x.2.2.2.1⟩
def E_passkeylaw24_OriginRelated : Env T := ⟨tab.find, cd, globs, flc, fun f ds => match f with
    | 5 => some S_passkeylaw24_awake
    | 6 => some S_passkeycast_Rules
    | 7 => some S_passkeylaw24_text
    | 8 => some S_passkeycast_Origin
    | 9 => some S_passkeycast_Mod
    | 10 => some S_passkeyref23_ParseOrigin
    | 11 => some S_origin_Related
    | 12 => some S_passkeyref23_Related
    | _ => none, fun f => match f with
    | 5 => true
    | 7 => true
    | 8 => true
    | 9 => true
    | 10 => true
    | 11 => true
    | 12 => true
    | _ => false⟩
def A_passkeylaw24_OriginRelated : Loc2 T := ⟨fun id => match id with
    | 0 => some ⟨[(0, .f (.v (.int .i64))), (1, .f (.v (.int .i64))), (2, .f (.v (.rs 1))), (3, .f (.v (.rs 2))), (9, .f (.v (.int .i64)))], [(.ret, [(8, .f (.v .bool))]), (.exit 0, [(0, .f (.v (.int .i64))), (1, .f (.v (.int .i64))), (2, .f (.v (.rs 1))), (3, .f (.v (.rs 2)))])], passkeylaw24_OriginRelated_L0, []⟩
    | 2 => some ⟨[(1, .f (.v (.int .i64))), (3, .f (.v (.rs 2))), (10, .f (.own 4)), (11, .f (.own 1)), (12, .f (.v (.int .i64)))], [(.exit 2, [(1, .f (.v (.int .i64))), (10, .f (.own 4)), (11, .f (.own 1))])], passkeylaw24_OriginRelated_L2, []⟩
    | _ => none, fun r => match r with
    | 19 => some ([(10, .f (.own 4)), (11, .f (.own 1)), (13, .ptr [(.v (.agg 3))])], false)
    | _ => none, fun r => match r with
    | _ => false⟩
theorem passkeylaw24_OriginRelated_L0_eq (y0 : Int) (y1 : Int) (y2 : (List (List UInt8))) (y3 : (List (Int))) (y4 : Int) : run E_passkeylaw24_OriginRelated A_passkeylaw24_OriginRelated (loopAt 0 (Tryd.f3.body.getD .skip)) (layC cd [(0, .f (.v (.int .i64))), (1, .f (.v (.int .i64))), (2, .f (.v (.rs 1))), (3, .f (.v (.rs 2))), (9, .f (.v (.int .i64)))] [] (y0, y1, y2, y3, y4, ())) (roundK cd [(0, .f (.v (.int .i64))), (1, .f (.v (.int .i64))), (2, .f (.v (.rs 1))), (3, .f (.v (.rs 2))), (9, .f (.v (.int .i64)))] [] [(.ret, [(8, .f (.v .bool))]), (.exit 0, [(0, .f (.v (.int .i64))), (1, .f (.v (.int .i64))), (2, .f (.v (.rs 1))), (3, .f (.v (.rs 2)))])]) = passkeylaw24_OriginRelated_L0b y0 y1 y2 y3 y4 := by kernel_rfl
theorem passkeylaw24_OriginRelated_L2_eq (y0 : Int) (y1 : (List (Int))) (y2 : (List (ApiSuffix))) (y3 : (List (List UInt8))) (y4 : Int) : run E_passkeylaw24_OriginRelated A_passkeylaw24_OriginRelated (loopAt 2 (Tryd.f3.body.getD .skip)) (layC cd [(1, .f (.v (.int .i64))), (3, .f (.v (.rs 2))), (10, .f (.own 4)), (11, .f (.own 1)), (12, .f (.v (.int .i64)))] [] (y0, y1, y2, y3, y4, ())) (roundK cd [(1, .f (.v (.int .i64))), (3, .f (.v (.rs 2))), (10, .f (.own 4)), (11, .f (.own 1)), (12, .f (.v (.int .i64)))] [] [(.exit 2, [(1, .f (.v (.int .i64))), (10, .f (.own 4)), (11, .f (.own 1))])]) = passkeylaw24_OriginRelated_L2b y0 y1 y2 y3 y4 := by kernel_rfl
theorem passkeylaw24_OriginRelated_eq (x : tySs T S_passkeylaw24_OriginRelated.ps) : run E_passkeylaw24_OriginRelated A_passkeylaw24_OriginRelated (Tryd.f3.body.getD .skip) (enterT E_passkeylaw24_OriginRelated.C S_passkeylaw24_OriginRelated.ps x) (retK E_passkeylaw24_OriginRelated Tryd.f3.results.toList S_passkeylaw24_OriginRelated.ps S_passkeylaw24_OriginRelated.rs) = S_passkeylaw24_OriginRelated.fn x := by kernel_rfl
theorem passkeylaw24_OriginRelated_env : EnvOk Tryd.prog E_passkeylaw24_OriginRelated := envOk (E := E_passkeylaw24_OriginRelated) cd_ok tys fl_ok fun f ds S h => by
    dsimp only [E_passkeylaw24_OriginRelated] at h
    split at h
    · cases h; exact passkeylaw24_awake_ok
    · cases h; exact passkeycast_Rules_ok
    · cases h; exact passkeylaw24_text_ok
    · cases h; exact passkeycast_Origin_ok
    · cases h; exact passkeycast_Mod_ok
    · cases h; exact passkeyref23_ParseOrigin_ok
    · cases h; exact origin_Related_ok
    · cases h; exact passkeyref23_Related_ok
    · cases h
theorem passkeylaw24_OriginRelated_L0_ok : LoopOk Tryd.prog E_passkeylaw24_OriginRelated Tryd.f3.ntmps (kqOf S_passkeylaw24_OriginRelated.ps 0) (loopAt 0 (Tryd.f3.body.getD .skip)) ⟨[(0, .f (.v (.int .i64))), (1, .f (.v (.int .i64))), (2, .f (.v (.rs 1))), (3, .f (.v (.rs 2))), (9, .f (.v (.int .i64)))], [(.ret, [(8, .f (.v .bool))]), (.exit 0, [(0, .f (.v (.int .i64))), (1, .f (.v (.int .i64))), (2, .f (.v (.rs 1))), (3, .f (.v (.rs 2)))])], passkeylaw24_OriginRelated_L0, []⟩ :=
  loop_ok (A := A_passkeylaw24_OriginRelated) (done := []) (c0 := (Tryd.f3.body.getD .skip)) hmix passkeylaw24_OriginRelated_env done_nil rounds (by kernel_rfl) (by kernel_rfl) (fun x => passkeylaw24_OriginRelated_L0_eq x.1 x.2.1 x.2.2.1 x.2.2.2.1 x.2.2.2.2.1) (fun _ => rfl)
theorem passkeylaw24_OriginRelated_L2_ok : LoopOk Tryd.prog E_passkeylaw24_OriginRelated Tryd.f3.ntmps (kqOf S_passkeylaw24_OriginRelated.ps 0) (loopAt 2 (Tryd.f3.body.getD .skip)) ⟨[(1, .f (.v (.int .i64))), (3, .f (.v (.rs 2))), (10, .f (.own 4)), (11, .f (.own 1)), (12, .f (.v (.int .i64)))], [(.exit 2, [(1, .f (.v (.int .i64))), (10, .f (.own 4)), (11, .f (.own 1))])], passkeylaw24_OriginRelated_L2, []⟩ :=
  loop_ok (A := A_passkeylaw24_OriginRelated) (done := [0]) (c0 := (Tryd.f3.body.getD .skip)) hmix passkeylaw24_OriginRelated_env (done_cons rfl passkeylaw24_OriginRelated_L0_ok done_nil) rounds (by kernel_rfl) (by kernel_rfl) (fun x => passkeylaw24_OriginRelated_L2_eq x.1 x.2.1 x.2.2.1 x.2.2.2.1 x.2.2.2.2.1) (fun _ => rfl)
theorem passkeylaw24_OriginRelated_ok : SoundT Tryd.prog cd gdn 3 S_passkeylaw24_OriginRelated :=
  sound_fn (E := E_passkeylaw24_OriginRelated) (A := A_passkeylaw24_OriginRelated) (done := [0, 2]) (c := (Tryd.f3.body.getD .skip)) (S := S_passkeylaw24_OriginRelated) (fn := Tryd.f3) hmix passkeylaw24_OriginRelated_env Tryd.func3 rfl (by kernel_rfl) (by kernel_rfl) (done_cons rfl passkeylaw24_OriginRelated_L0_ok (done_cons rfl passkeylaw24_OriginRelated_L2_ok done_nil)) (by kernel_rfl) (by kernel_rfl) passkeylaw24_OriginRelated_eq
def passkeylaw24_OriginFew_L0b (y0 : Int) (y1 : Int) (y2 : (List (List UInt8))) (y3 : (List (ApiOrigin))) (y4 : Int) : Option ((Int × Int × (List (List UInt8)) × (List (ApiOrigin)) × Int × Unit) ⊕ ((Bool × Unit) ⊕ ((List (List UInt8)) × (List (ApiOrigin)) × Unit))) :=
 (bif (decide (y4 < y0)) then (let v3 : UInt8 := (UInt8.ofBitVec (BitVec.ofInt 8 (IntKind.wrap .i64 ((97 : Int) + y4))))
 (bif Nat.ble ((([115] : List UInt8)).length + (([v3] : List (UInt8))).length) 9223372036854775807 then (bif Nat.ble (((([115] : List UInt8) ++ ([v3] : List (UInt8)))).length + (([46, 99, 111, 109] : List UInt8)).length) 9223372036854775807 then (let v4 : List UInt8 := ((([115] : List UInt8) ++ ([v3] : List (UInt8))) ++ ([46, 99, 111, 109] : List UInt8))
 (bif Nat.ble ((([119, 119, 119, 46] : List UInt8)).length + (v4).length) 9223372036854775807 then ((origin_Format (⟨true, v4, y1⟩ : ApiOrigin)).bind fun r5 => ((origin_Format (⟨true, (([119, 119, 119, 46] : List UInt8) ++ v4), y1⟩ : ApiOrigin)).bind fun r6 => (bif (!decide (r5.2.2.1 = (0 : Int))) then (some (Sum.inr (Sum.inl (false, ()))))
 else (bif (!decide (r6.2.2.1 = (0 : Int))) then (some (Sum.inr (Sum.inl (false, ()))))
 else (bif small ((y2).length + (([r5.2.1, r6.2.1] : List (List UInt8)) : List (List UInt8)).length) 16 then (let v7 : List (List UInt8) := (y2 ++ ([r5.2.1, r6.2.1] : List (List UInt8)))
 (let v8 : List (ApiOrigin) := ([(⟨true, v4, y1⟩ : ApiOrigin), (⟨true, (([119, 119, 119, 46] : List UInt8) ++ v4), y1⟩ : ApiOrigin)] : List (ApiOrigin))
 (bif small ((y3).length + (v8 : List (ApiOrigin)).length) 32 then (some (Sum.inl (y0, y1, v7, (y3 ++ v8), (IntKind.wrap .i64 (y4 + (1 : Int))), ())))
 else none)))
 else none)))))
 else none))
 else none)
 else none))
 else (some (Sum.inr (Sum.inr (y2, y3, ())))))
def passkeylaw24_OriginFew_L0 (y : (Int × Int × (List (List UInt8)) × (List (ApiOrigin)) × Int × Unit)) : Option ((Bool × Unit) ⊕ ((List (List UInt8)) × (List (ApiOrigin)) × Unit)) := iter (fun (y : (Int × Int × (List (List UInt8)) × (List (ApiOrigin)) × Int × Unit)) => passkeylaw24_OriginFew_L0b y.1 y.2.1 y.2.2.1 y.2.2.2.1 y.2.2.2.2.1) rounds y
def passkeylaw24_OriginFew_L2b (y0 : (List (List UInt8))) (y1 : (List (ApiOrigin))) (y2 : Int) : Option (((List (List UInt8)) × (List (ApiOrigin)) × Int × Unit) ⊕ ((Bool × Unit) ⊕ (Unit))) :=
 (bif (decide (y2 < ((y1).length : Int))) then (bif (decide ((0 : Int) ≤ y2) && decide (y2 < ((y1).length : Int))) then (((y1)[(y2).toNat]?).bind fun x11 => ((origin_Related [] x11 y0).bind fun r12 => (bif (!((decide (r12.2.1 = (0 : Int))) == (decide (y2 < (10 : Int))))) then (some (Sum.inr (Sum.inl (false, ()))))
 else (some (Sum.inl (y0, y1, (IntKind.wrap .i64 (y2 + (1 : Int))), ()))))))
 else none)
 else (some (Sum.inr (Sum.inr ()))))
def passkeylaw24_OriginFew_L2 (y : ((List (List UInt8)) × (List (ApiOrigin)) × Int × Unit)) : Option ((Bool × Unit) ⊕ (Unit)) := iter (fun (y : ((List (List UInt8)) × (List (ApiOrigin)) × Int × Unit)) => passkeylaw24_OriginFew_L2b y.1 y.2.1 y.2.2.1) rounds y
def passkeylaw24_OriginFew (a0 : UInt8) (a1 : UInt8) : Option ((Unit) × (Bool × Unit)) :=
 (bif decide ((9 : UInt8).toBitVec = 0) then none
 else (let v1 : Int := ((UInt8.ofBitVec (a0.toBitVec % (9 : UInt8).toBitVec)).toBitVec.toNat : Int)
 (let v2 : Int := (IntKind.wrap .i64 ((1000 : Int) + (a1.toBitVec.toNat : Int)))
 ((passkeylaw24_OriginFew_L0 ((IntKind.wrap .i64 ((1 : Int) + v1)), v2, [], [], (0 : Int), ())).bind (Sum.elim (fun (z9 : (Bool × Unit)) => (some ((), (z9.1, ())))) (fun (z10 : ((List (List UInt8)) × (List (ApiOrigin)) × Unit)) => ((passkeylaw24_OriginFew_L2 (z10.1, z10.2.1, (0 : Int), ())).bind (Sum.elim (fun (z13 : (Bool × Unit)) => (some ((), (z13.1, ())))) (fun (z14 : (Unit)) => ((passkeylaw24_awake).bind fun r15 => (some ((), (r15.2.1, ())))))))))))))
def S_passkeylaw24_OriginFew : FSpec T := ⟨[.f (.v .u8), .f (.v .u8)], [(.v .bool)], fun x => passkeylaw24_OriginFew x.1 x.2.1⟩
def E_passkeylaw24_OriginFew : Env T := ⟨tab.find, cd, globs, flc, fun f ds => match f with
    | 5 => some S_passkeylaw24_awake
    | 11 => some S_origin_Related
    | 13 => some S_origin_Format
    | _ => none, fun f => match f with
    | 5 => true
    | 11 => true
    | 13 => true
    | _ => false⟩
def A_passkeylaw24_OriginFew : Loc2 T := ⟨fun id => match id with
    | 0 => some ⟨[(5, .f (.v (.int .i64))), (6, .f (.v (.int .i64))), (7, .f (.own 1)), (8, .f (.own 3)), (9, .f (.v (.int .i64)))], [(.ret, [(4, .f (.v .bool))]), (.exit 0, [(7, .f (.own 1)), (8, .f (.own 3))])], passkeylaw24_OriginFew_L0, []⟩
    | 2 => some ⟨[(7, .f (.own 1)), (8, .f (.own 3)), (16, .f (.v (.int .i64)))], [(.ret, [(4, .f (.v .bool))]), (.exit 2, [])], passkeylaw24_OriginFew_L2, []⟩
    | _ => none, fun r => match r with
    | _ => none, fun r => match r with
    | _ => false⟩
theorem passkeylaw24_OriginFew_L0_eq (y0 : Int) (y1 : Int) (y2 : (List (List UInt8))) (y3 : (List (ApiOrigin))) (y4 : Int) : run E_passkeylaw24_OriginFew A_passkeylaw24_OriginFew (loopAt 0 (Tryd.f4.body.getD .skip)) (layC cd [(5, .f (.v (.int .i64))), (6, .f (.v (.int .i64))), (7, .f (.own 1)), (8, .f (.own 3)), (9, .f (.v (.int .i64)))] [] (y0, y1, y2, y3, y4, ())) (roundK cd [(5, .f (.v (.int .i64))), (6, .f (.v (.int .i64))), (7, .f (.own 1)), (8, .f (.own 3)), (9, .f (.v (.int .i64)))] [] [(.ret, [(4, .f (.v .bool))]), (.exit 0, [(7, .f (.own 1)), (8, .f (.own 3))])]) = passkeylaw24_OriginFew_L0b y0 y1 y2 y3 y4 := by kernel_rfl
theorem passkeylaw24_OriginFew_L2_eq (y0 : (List (List UInt8))) (y1 : (List (ApiOrigin))) (y2 : Int) : run E_passkeylaw24_OriginFew A_passkeylaw24_OriginFew (loopAt 2 (Tryd.f4.body.getD .skip)) (layC cd [(7, .f (.own 1)), (8, .f (.own 3)), (16, .f (.v (.int .i64)))] [] (y0, y1, y2, ())) (roundK cd [(7, .f (.own 1)), (8, .f (.own 3)), (16, .f (.v (.int .i64)))] [] [(.ret, [(4, .f (.v .bool))]), (.exit 2, [])]) = passkeylaw24_OriginFew_L2b y0 y1 y2 := by kernel_rfl
theorem passkeylaw24_OriginFew_eq (x : tySs T S_passkeylaw24_OriginFew.ps) : run E_passkeylaw24_OriginFew A_passkeylaw24_OriginFew (Tryd.f4.body.getD .skip) (enterT E_passkeylaw24_OriginFew.C S_passkeylaw24_OriginFew.ps x) (retK E_passkeylaw24_OriginFew Tryd.f4.results.toList S_passkeylaw24_OriginFew.ps S_passkeylaw24_OriginFew.rs) = S_passkeylaw24_OriginFew.fn x := by kernel_rfl
theorem passkeylaw24_OriginFew_env : EnvOk Tryd.prog E_passkeylaw24_OriginFew := envOk (E := E_passkeylaw24_OriginFew) cd_ok tys fl_ok fun f ds S h => by
    dsimp only [E_passkeylaw24_OriginFew] at h
    split at h
    · cases h; exact passkeylaw24_awake_ok
    · cases h; exact origin_Related_ok
    · cases h; exact origin_Format_ok
    · cases h
theorem passkeylaw24_OriginFew_L0_ok : LoopOk Tryd.prog E_passkeylaw24_OriginFew Tryd.f4.ntmps (kqOf S_passkeylaw24_OriginFew.ps 0) (loopAt 0 (Tryd.f4.body.getD .skip)) ⟨[(5, .f (.v (.int .i64))), (6, .f (.v (.int .i64))), (7, .f (.own 1)), (8, .f (.own 3)), (9, .f (.v (.int .i64)))], [(.ret, [(4, .f (.v .bool))]), (.exit 0, [(7, .f (.own 1)), (8, .f (.own 3))])], passkeylaw24_OriginFew_L0, []⟩ :=
  loop_ok (A := A_passkeylaw24_OriginFew) (done := []) (c0 := (Tryd.f4.body.getD .skip)) hmix passkeylaw24_OriginFew_env done_nil rounds (by kernel_rfl) (by kernel_rfl) (fun x => passkeylaw24_OriginFew_L0_eq x.1 x.2.1 x.2.2.1 x.2.2.2.1 x.2.2.2.2.1) (fun _ => rfl)
theorem passkeylaw24_OriginFew_L2_ok : LoopOk Tryd.prog E_passkeylaw24_OriginFew Tryd.f4.ntmps (kqOf S_passkeylaw24_OriginFew.ps 0) (loopAt 2 (Tryd.f4.body.getD .skip)) ⟨[(7, .f (.own 1)), (8, .f (.own 3)), (16, .f (.v (.int .i64)))], [(.ret, [(4, .f (.v .bool))]), (.exit 2, [])], passkeylaw24_OriginFew_L2, []⟩ :=
  loop_ok (A := A_passkeylaw24_OriginFew) (done := [0]) (c0 := (Tryd.f4.body.getD .skip)) hmix passkeylaw24_OriginFew_env (done_cons rfl passkeylaw24_OriginFew_L0_ok done_nil) rounds (by kernel_rfl) (by kernel_rfl) (fun x => passkeylaw24_OriginFew_L2_eq x.1 x.2.1 x.2.2.1) (fun _ => rfl)
theorem passkeylaw24_OriginFew_ok : SoundT Tryd.prog cd gdn 4 S_passkeylaw24_OriginFew :=
  sound_fn (E := E_passkeylaw24_OriginFew) (A := A_passkeylaw24_OriginFew) (done := [0, 2]) (c := (Tryd.f4.body.getD .skip)) (S := S_passkeylaw24_OriginFew) (fn := Tryd.f4) hmix passkeylaw24_OriginFew_env Tryd.func4 rfl (by kernel_rfl) (by kernel_rfl) (done_cons rfl passkeylaw24_OriginFew_L0_ok (done_cons rfl passkeylaw24_OriginFew_L2_ok done_nil)) (by kernel_rfl) (by kernel_rfl) passkeylaw24_OriginFew_eq
def OriginRelated_dom (a0 : Int) (a1 : Int) (a2 : (List (List UInt8))) (a3 : (List (Int))) : Prop := ArgD cd [(.int .i64), (.int .i64), (.rs 1), (.rs 2)] (a0, a1, a2, a3, ())
def OriginFew_dom (a0 : UInt8) (a1 : UInt8) : Prop := ArgD cd [.u8, .u8] (a0, a1, ())
end Go.Proofs.YtjmaldfcmggblaaDoor

/- The functions of the program, as plain functions, and that the program computes them. Written by a program. -/
import Derived.Test.YtlbafgkhnhkanaaDoorTyZb
import Derived.Test.YtlbafgkhnhkanaaDoorTyZd
import Derived.Test.YtlbafgkhnhkanaaDoorLay
import Derived.Test.YtlbafgkhnhkanaaDoorProg
import Derived.WalkKit
set_option linter.unusedVariables false
set_option maxRecDepth 100000
namespace Go.Proofs.YtlbafgkhnhkanaaDoor
open Go Go.Abs
structure ApiPin where
  set : Bool
  check : BitVec 64
  retries : Int
  wrong : Int
  deriving DecidableEq, Inhabited

structure DigestState where
  v0 : BitVec 64
  v1 : BitVec 64
  v2 : BitVec 64
  v3 : BitVec 64
  deriving DecidableEq, Inhabited

structure Arr4_BitVec64 where
  a0 : BitVec 64
  a1 : BitVec 64
  a2 : BitVec 64
  a3 : BitVec 64
  deriving DecidableEq, Inhabited

abbrev T : Nat → Type
  | 0 => UInt8
  | 1 => ApiPin
  | 2 => DigestState
  | 3 => Arr4_BitVec64
  | 4 => BitVec 64
  | _ => Unit

def lfs : Nat → List Lf
  | 0 => [.u8]
  | 1 => [.bool, .u64, .int .i64, .int .i64]
  | 2 => [.u64, .u64, .u64, .u64]
  | 3 => [.u64, .u64, .u64, .u64]
  | 4 => [.u64]
  | _ => []

def to0 (x : UInt8) : tyLs T (lfs 0) := (x, ())
def of0 (y : tyLs T (lfs 0)) : UInt8 := y.1
def eD0 (x : UInt8) : List D := [.int .u8 x.toNat]
def to1 (x : ApiPin) : tyLs T (lfs 1) := (x.set, x.check, x.retries, x.wrong, ())
def of1 (y : tyLs T (lfs 1)) : ApiPin := ⟨y.1, y.2.1, y.2.2.1, y.2.2.2.1⟩
def eD1 (x : ApiPin) : List D := [.bool x.set, .int .u64 x.check.toNat, .int .i64 x.retries, .int .i64 x.wrong]
def to2 (x : DigestState) : tyLs T (lfs 2) := (x.v0, x.v1, x.v2, x.v3, ())
def of2 (y : tyLs T (lfs 2)) : DigestState := ⟨y.1, y.2.1, y.2.2.1, y.2.2.2.1⟩
def eD2 (x : DigestState) : List D := [.int .u64 x.v0.toNat, .int .u64 x.v1.toNat, .int .u64 x.v2.toNat, .int .u64 x.v3.toNat]
def to3 (x : Arr4_BitVec64) : tyLs T (lfs 3) := (x.a0, x.a1, x.a2, x.a3, ())
def of3 (y : tyLs T (lfs 3)) : Arr4_BitVec64 := ⟨y.1, y.2.1, y.2.2.1, y.2.2.2.1⟩
def eD3 (x : Arr4_BitVec64) : List D := [.int .u64 x.a0.toNat, .int .u64 x.a1.toNat, .int .u64 x.a2.toNat, .int .u64 x.a3.toNat]
def to4 (x : BitVec 64) : tyLs T (lfs 4) := (x, ())
def of4 (y : tyLs T (lfs 4)) : BitVec 64 := y.1
def eD4 (x : BitVec 64) : List D := [.int .u64 x.toNat]
def cd : Cd T where
  sz := fun c => match c with
    | 0 => 1
    | 1 => 4
    | 2 => 4
    | 3 => 4
    | 4 => 1
    | _ => 0
  encD := fun c x => match c, x with
    | 0, x => eD0 x
    | 1, x => eD1 x
    | 2, x => eD2 x
    | 3, x => eD3 x
    | 4, x => eD4 x
    | _, _ => []
  enc := fun c x => match c, x with
    | 0, x => encL (lfs 0) (to0 x)
    | 1, x => encL (lfs 1) (to1 x)
    | 2, x => encL (lfs 2) (to2 x)
    | 3, x => encL (lfs 3) (to3 x)
    | 4, x => encL (lfs 4) (to4 x)
    | _, _ => []
  dec := fun c ds => match c with
    | 0 => (decL (lfs 0) ds).map of0
    | 1 => (decL (lfs 1) ds).map of1
    | 2 => (decL (lfs 2) ds).map of2
    | 3 => (decL (lfs 3) ds).map of3
    | 4 => (decL (lfs 4) ds).map of4
    | _ => none
  bt := 0
  hb := rfl

theorem cd_ok : CdOk cd where
  len := fun c => match c with
    | 0 => fun _ => rfl
    | 1 => fun _ => rfl
    | 2 => fun _ => rfl
    | 3 => fun _ => rfl
    | 4 => fun _ => rfl
    | _ + 5 => fun _ => rfl
  enc := fun c => match c with
    | 0 => fun _ => rfl
    | 1 => fun _ => rfl
    | 2 => fun _ => rfl
    | 3 => fun _ => rfl
    | 4 => fun _ => rfl
    | _ + 5 => fun _ => rfl
  epure := fun c => match c with
    | 0 => fun _ => rfl
    | 1 => fun _ => rfl
    | 2 => fun _ => rfl
    | 3 => fun _ => rfl
    | 4 => fun _ => rfl
    | _ + 5 => fun _ => rfl
  byte := fun _ => rfl
  bsz := rfl
  dec := fun c => match c with
    | 0 => fun ds x h => dec_ok cd (c := 0) (lfs 0) (of := of0) (e := eD0) (fun _ => rfl) ds x h
    | 1 => fun ds x h => dec_ok cd (c := 1) (lfs 1) (of := of1) (e := eD1) (fun _ => rfl) ds x h
    | 2 => fun ds x h => dec_ok cd (c := 2) (lfs 2) (of := of2) (e := eD2) (fun _ => rfl) ds x h
    | 3 => fun ds x h => dec_ok cd (c := 3) (lfs 3) (of := of3) (e := eD3) (fun _ => rfl) ds x h
    | 4 => fun ds x h => dec_ok cd (c := 4) (lfs 4) (of := of4) (e := eD4) (fun _ => rfl) ds x h
    | _ + 5 => fun _ _ h => by cases h


def ti3 : TI := ⟨6, 1, 8, .int .i64, [.i .i64], [], [], none⟩
def ti4 : TI := ⟨6, 1, 1, .bool, [.b], [], [], none⟩
def ti5 : TI := ⟨0, 1, 1, .int .u8, [.i .u8], [], [], none⟩
def ti9 : TI := ⟨6, 1, 16, .str, [.s], [], [], none⟩
def ti21 : TI := ⟨6, 1, 4, .int .i32, [.i .i32], [], [], none⟩
def ti22 : TI := ⟨4, 1, 8, .int .u64, [.i .u64], [], [], none⟩
def ti24 : TI := ⟨1, 4, 32, .strct, [.b, .i .u64, .i .i64, .i .i64], [some (0, 4), some (1, 22), some (2, 3), some (3, 3)], [(0, 1), (1, 1), (2, 1), (3, 1)], some [1, 3, 3, 3]⟩
def ti26 : TI := ⟨6, 1, 8, .int .u64, [.i .u64], [], [], none⟩
def ti28 : TI := ⟨6, 1, 8, .int .i64, [.i .i64], [], [], none⟩
def ti35 : TI := ⟨6, 1, 24, .slice 5, [.ns], [], [], none⟩
def ti58 : TI := ⟨6, 1, 24, .slice 22, [.ns], [], [], none⟩
def ti60 : TI := ⟨2, 4, 32, .strct, [.i .u64, .i .u64, .i .u64, .i .u64], [some (0, 22), some (1, 22), some (2, 22), some (3, 22)], [(0, 1), (1, 1), (2, 1), (3, 1)], some [3, 3, 3, 3]⟩
def ti64 : TI := ⟨3, 4, 32, .arr 4 22, [.i .u64, .i .u64, .i .u64, .i .u64], [], [], none⟩
def tab : Tr := .node (.node (.node (.node .leaf 3 ti3 .leaf) 4 ti4 (.node .leaf 5 ti5 .leaf)) 9 ti9 (.node (.node .leaf 21 ti21 .leaf) 22 ti22 .leaf)) 24 ti24 (.node (.node (.node .leaf 26 ti26 .leaf) 28 ti28 (.node .leaf 35 ti35 .leaf)) 58 ti58 (.node (.node .leaf 60 ti60 .leaf) 64 ti64 .leaf))

def globs : Nat → Option (List (DT T)) := fun g => match g with
  | 0 => some (Lib.firstTab.map fun z => DT.int .u8 z)
  | 1 => some (((List.range 16).flatMap fun i => [((Lib.accLo i : Nat) : Int), ((Lib.accHi i : Nat) : Int)]).map fun z => DT.int .u8 z)
  | _ => none
def flc : Nat → Bool := fun c => match c with
  | 0 => true
  | 1 => true
  | 2 => true
  | 3 => true
  | 4 => true
  | _ => false
theorem hmix : Tryd.prog.follows .mixedOrders = true := by kernel_rfl
theorem tys : TysOk Tryd.prog tab.find := tys_ok (by kernel_rfl)
abbrev gdn : Nat → Option (List D) := fun g => (globs g).map (denL cd)
theorem fl_ok : FlOk cd flc := fun c => match c with
  | 0 => fun h _ => rfl
  | 1 => fun h _ => rfl
  | 2 => fun h _ => rfl
  | 3 => fun h _ => rfl
  | 4 => fun h _ => rfl
  | _ + 5 => fun h _ => by cases h

def accTab : List Int := (List.range 16).flatMap fun i => [Lib.accLo i, Lib.accHi i]
theorem gdn0 : gdn 0 = some (tabD .u8 Lib.firstTab) := by
  show some (denL cd _) = _
  rw [denL_map]
  simp [tabD, den, Function.comp_def]
theorem gdn1 : gdn 1 = some (tabD .u8 accTab) := by
  show some (denL cd _) = _
  rw [denL_map]
  simp [tabD, den, Function.comp_def, accTab]
theorem acc_lo : ∀ i : Fin 16, accTab[2 * i.val]? = some ((Lib.accLo i.val : Nat) : Int) := by decide
theorem acc_hi : ∀ i : Fin 16, accTab[2 * i.val + 1]? = some ((Lib.accHi i.val : Nat) : Int) := by decide
theorem tabs_of {I : Nat → Prop} {w : World} (h : Glob gdn I w) : Lib.Utf8Tabs 0 1 w := by
  refine ⟨fun c hc => glob_tab (h 0 _ gdn0).2 (by simp [Lib.firstTab, hc]), fun i hi => ⟨?_, ?_⟩⟩
  · exact glob_tab (h 1 _ gdn1).2 (acc_lo ⟨i, hi⟩)
  · exact glob_tab (h 1 _ gdn1).2 (acc_hi ⟨i, hi⟩)
theorem glob_of {w : World} (h : Lib.Utf8Tabs 0 1 w) (h0 : 0 < w.heap.size) (h1 : 1 < w.heap.size) : Glob gdn (All w) w := by
  intro g cs e
  match g, e with
  | 0, e =>
    rw [gdn0] at e; cases e
    refine ⟨h0, tab_glob fun i n hn => ?_⟩
    have hi : i < 256 := by
      have := (List.getElem?_eq_some_iff.1 hn).1
      simpa [Lib.firstTab] using this
    have e2 : Lib.firstTab[i]? = some ((Lib.firstT i : Nat) : Int) := by simp [Lib.firstTab, hi]
    rw [hn] at e2; cases e2
    exact h.1 i hi
  | 1, e =>
    rw [gdn1] at e; cases e
    refine ⟨h1, tab_glob fun i n hn => ?_⟩
    have hi : i < 32 := by
      have := (List.getElem?_eq_some_iff.1 hn).1
      have e : accTab.length = 32 := by decide
      omega
    rcases Nat.mod_two_eq_zero_or_one i with hm | hm
    · have e3 : i = 2 * (i / 2) := by omega
      have e2 := acc_lo ⟨i / 2, by omega⟩
      simp only at e2
      rw [← e3, hn] at e2; cases e2
      have := (h.2 (i / 2) (by omega)).1
      rwa [← e3] at this
    · have e3 : i = 2 * (i / 2) + 1 := by omega
      have e2 := acc_hi ⟨i / 2, by omega⟩
      simp only at e2
      rw [← e3, hn] at e2; cases e2
      have := (h.2 (i / 2) (by omega)).2
      rwa [← e3] at this
  | n + 2, e => cases e
def utf8_ValidString (a0 : List UInt8) : Option (Unit × (Bool × Unit)) := bif decide (a0.length ≤ 9223372036854775807) then some ((), Lib.validD a0, ()) else none
def S_utf8_ValidString : FSpec T := ⟨[.f (.v .str)], [.v .bool], fun x => utf8_ValidString x.1⟩
theorem utf8_ValidString_ok : SoundT Tryd.prog cd gdn 23 S_utf8_ValidString := by
  refine sound_below (vts := [.str]) (rts := [.bool]) ⟨_, Tryd.func23, by kernel_rfl, by kernel_rfl⟩ fun I own w args x r hG hv hF => ?_
  obtain ⟨v, vr, _, _, rfl, h1, rfl, _⟩ := hv
  change V I w (.str x.1) free v at h1
  simp only [V] at h1
  subst h1
  change utf8_ValidString x.1 = some r at hF
  unfold utf8_ValidString at hF
  by_cases hs : x.1.length ≤ 9223372036854775807
  · simp only [hs, decide_true, cond_true] at hF
    have hr := Option.some.inj hF
    subst hr
    refine ⟨[.bool (Lib.validD x.1)], fun I' w' => ⟨_, _, none', none', rfl, (show V I' w' (.bool (Lib.validD x.1)) free _ by simp [V]), rfl, fun _ h => h, fun _ h => h, fun _ h => h.elim⟩, ?_⟩
    exact (Any.utf8_ValidString Tryd.lays196 ⟨x.1.toArray⟩ w (by rw [show ByteArray.size ⟨List.toArray x.1⟩ = List.length x.1 from List.size_toArray]; exact hs) (tabs_of hG)).mono fun e w' h => ⟨h.1, h.2⟩
  · simp [hs] at hF
def strings_IndexByte (a0 : List UInt8) (a1 : UInt8) : Option (Unit × (Int × Unit)) := some ((), Lib.indexByte a0 a1, ())
def S_strings_IndexByte : FSpec T := ⟨[.f (.v .str), .f (.v .u8)], [.v (.int .i64)], fun x => strings_IndexByte x.1 x.2.1⟩
theorem strings_IndexByte_ok : SoundT Tryd.prog cd gdn 24 S_strings_IndexByte := by
  refine sound_below (vts := [.str, .u8]) (rts := [.int .i64]) ⟨_, Tryd.func24, by kernel_rfl, by kernel_rfl⟩ fun I own w args x r hG hv hF => ?_
  obtain ⟨v, vr, _, _, rfl, h1, ⟨v2, vr2, _, _, rfl, h2, rfl, _⟩, _⟩ := hv
  change V I w (.str x.1) free v at h1
  change V I w (.int .u8 x.2.1.toNat) free v2 at h2
  simp only [V] at h1 h2
  subst h1; subst h2
  change strings_IndexByte x.1 x.2.1 = some r at hF
  unfold strings_IndexByte at hF
  have hr := Option.some.inj hF
  subst hr
  refine ⟨[.int .i64 (Lib.indexByte x.1 x.2.1)], fun I' w' => ⟨_, _, none', none', rfl, (show V I' w' (.int .i64 (Lib.indexByte x.1 x.2.1)) free _ by simp [V]), rfl, fun _ h => h, fun _ h => h, fun _ h => h.elim⟩, ?_⟩
  refine (Any.strings_IndexByte Tryd.lays137 ⟨x.1.toArray⟩ (x.2.1.toNat : Int) w).mono fun e w' h => ?_
  obtain ⟨rfl, rfl⟩ := h
  refine ⟨?_, RowKit.Below.refl _ _⟩
  exact congrArg (fun q => Ending.returned (.int .i64 (Lib.indexByte _ q))) UInt8.ofNat_toNat
def pin_New (a0 : (BitVec 64)) : Option ((Unit) × (ApiPin × Unit)) :=
 (some ((), ((⟨true, a0, (8 : Int), (0 : Int)⟩ : ApiPin), ())))

def S_pin_New : FSpec T := ⟨[.f (.v .u64)], [(.v (.agg 1))], fun x => pin_New x.1⟩

def E_pin_New : Env T := ⟨tab.find, cd, globs, flc, fun f ds => match f with
    | _ => none, fun f => match f with
    | _ => false⟩

def A_pin_New : Loc2 T := ⟨fun id => match id with
    | _ => none, fun r => match r with
    | _ => none, fun r => match r with
    | _ => false⟩

theorem pin_New_eq (x : tySs T S_pin_New.ps) : run E_pin_New A_pin_New (Tryd.f12.body.getD .skip) (enterT E_pin_New.C S_pin_New.ps x) (retK E_pin_New Tryd.f12.results.toList S_pin_New.ps S_pin_New.rs) = S_pin_New.fn x := by kernel_rfl

theorem pin_New_env : EnvOk Tryd.prog E_pin_New := envOk (E := E_pin_New) cd_ok tys fl_ok fun f ds S h => by cases h

theorem pin_New_ok : SoundT Tryd.prog cd gdn 12 S_pin_New :=
  sound_fn (E := E_pin_New) (A := A_pin_New) (done := []) (c := (Tryd.f12.body.getD .skip)) (S := S_pin_New) (fn := Tryd.f12) hmix pin_New_env Tryd.func12 rfl (by kernel_rfl) (by kernel_rfl) done_nil (by kernel_rfl) (by kernel_rfl) pin_New_eq

def pin_Charge (a0 : ApiPin) : Option ((Unit) × (ApiPin × Int × Unit)) :=
 (bif (!a0.set) then (some ((), ((⟨false, 0#64, (0 : Int), (0 : Int)⟩ : ApiPin), (25 : Int), ())))
 else (bif (decide (a0.retries < (1 : Int))) then (some ((), ((⟨false, 0#64, (0 : Int), (0 : Int)⟩ : ApiPin), (27 : Int), ())))
 else (bif (decide ((3 : Int) ≤ a0.wrong)) then (some ((), ((⟨false, 0#64, (0 : Int), (0 : Int)⟩ : ApiPin), (28 : Int), ())))
 else (some ((), ((⟨a0.set, a0.check, (IntKind.wrap .i64 (a0.retries - (1 : Int))), a0.wrong⟩ : ApiPin), (0 : Int), ()))))))

def S_pin_Charge : FSpec T := ⟨[.f (.v (.agg 1))], [(.v (.agg 1)), (.v (.int .i64))], fun x => pin_Charge x.1⟩

def E_pin_Charge : Env T := ⟨tab.find, cd, globs, flc, fun f ds => match f with
    | _ => none, fun f => match f with
    | _ => false⟩

def A_pin_Charge : Loc2 T := ⟨fun id => match id with
    | _ => none, fun r => match r with
    | _ => none, fun r => match r with
    | _ => false⟩

theorem pin_Charge_eq (x : tySs T S_pin_Charge.ps) : run E_pin_Charge A_pin_Charge (Tryd.f8.body.getD .skip) (enterT E_pin_Charge.C S_pin_Charge.ps x) (retK E_pin_Charge Tryd.f8.results.toList S_pin_Charge.ps S_pin_Charge.rs) = S_pin_Charge.fn x := by kernel_rfl

theorem pin_Charge_env : EnvOk Tryd.prog E_pin_Charge := envOk (E := E_pin_Charge) cd_ok tys fl_ok fun f ds S h => by cases h

theorem pin_Charge_ok : SoundT Tryd.prog cd gdn 8 S_pin_Charge :=
  sound_fn (E := E_pin_Charge) (A := A_pin_Charge) (done := []) (c := (Tryd.f8.body.getD .skip)) (S := S_pin_Charge) (fn := Tryd.f8) hmix pin_Charge_env Tryd.func8 rfl (by kernel_rfl) (by kernel_rfl) done_nil (by kernel_rfl) (by kernel_rfl) pin_Charge_eq

def pin_Settle (a0 : ApiPin) (a1 : Bool) : Option ((Unit) × (ApiPin × Int × Unit)) :=
 (bif a1 then (some ((), ((⟨a0.set, a0.check, (8 : Int), (0 : Int)⟩ : ApiPin), (0 : Int), ())))
 else (let v1 : Int := (bif decide ((2 : Int) < a0.wrong) then (2 : Int) else a0.wrong)
 (bif (decide (a0.retries < (1 : Int))) then (some ((), ((⟨a0.set, a0.check, a0.retries, (IntKind.wrap .i64 (v1 + (1 : Int)))⟩ : ApiPin), (27 : Int), ())))
 else (bif (decide ((3 : Int) ≤ (IntKind.wrap .i64 (v1 + (1 : Int))))) then (some ((), ((⟨a0.set, a0.check, a0.retries, (IntKind.wrap .i64 (v1 + (1 : Int)))⟩ : ApiPin), (28 : Int), ())))
 else (some ((), ((⟨a0.set, a0.check, a0.retries, (IntKind.wrap .i64 (v1 + (1 : Int)))⟩ : ApiPin), (24 : Int), ())))))))

def S_pin_Settle : FSpec T := ⟨[.f (.v (.agg 1)), .f (.v .bool)], [(.v (.agg 1)), (.v (.int .i64))], fun x => pin_Settle x.1 x.2.1⟩

def E_pin_Settle : Env T := ⟨tab.find, cd, globs, flc, fun f ds => match f with
    | _ => none, fun f => match f with
    | _ => false⟩

def A_pin_Settle : Loc2 T := ⟨fun id => match id with
    | _ => none, fun r => match r with
    | _ => none, fun r => match r with
    | _ => false⟩

theorem pin_Settle_eq (x : tySs T S_pin_Settle.ps) : run E_pin_Settle A_pin_Settle (Tryd.f10.body.getD .skip) (enterT E_pin_Settle.C S_pin_Settle.ps x) (retK E_pin_Settle Tryd.f10.results.toList S_pin_Settle.ps S_pin_Settle.rs) = S_pin_Settle.fn x := by kernel_rfl

theorem pin_Settle_env : EnvOk Tryd.prog E_pin_Settle := envOk (E := E_pin_Settle) cd_ok tys fl_ok fun f ds S h => by cases h

theorem pin_Settle_ok : SoundT Tryd.prog cd gdn 10 S_pin_Settle :=
  sound_fn (E := E_pin_Settle) (A := A_pin_Settle) (done := []) (c := (Tryd.f10.body.getD .skip)) (S := S_pin_Settle) (fn := Tryd.f10) hmix pin_Settle_env Tryd.func10 rfl (by kernel_rfl) (by kernel_rfl) done_nil (by kernel_rfl) (by kernel_rfl) pin_Settle_eq

def pin_Weak_L0b (y0 : Int) (y1 : Int) (y2 : Bool) (y3 : (List UInt8 × Nat)) : Option ((Int × Int × Bool × (List UInt8 × Nat) × Unit) ⊕ (Int × Bool × Unit)) :=
 (bif decide (y3.2 < (y3.1).length) then (let v3 : Nat := (y3.2 + (Utf8.decode ⟨(y3.1).toArray⟩ y3.2).2)
 ((bif (decide ((y3.2 : Int) = (0 : Int))) then (some (((Utf8.decode ⟨(y3.1).toArray⟩ y3.2).1 : Int), y1, y2, ((Utf8.decode ⟨(y3.1).toArray⟩ y3.2).1 : Int), (y3.1, v3), ()))
 else (some (y0, y1, y2, ((Utf8.decode ⟨(y3.1).toArray⟩ y3.2).1 : Int), (y3.1, v3), ()))).bind (fun (j4 : (Int × Int × Bool × Int × (List UInt8 × Nat) × Unit)) => (bif j4.2.2.1 then (some (Sum.inl (j4.1, (IntKind.wrap .i64 (j4.2.1 + (1 : Int))), (decide (j4.2.2.2.1 = j4.1)), (j4.2.2.2.2.1.1, j4.2.2.2.2.1.2), ())))
 else (some (Sum.inl (j4.1, (IntKind.wrap .i64 (j4.2.1 + (1 : Int))), false, (j4.2.2.2.2.1.1, j4.2.2.2.2.1.2), ())))))))
 else (some (Sum.inr (y1, y2, ()))))

def pin_Weak_L0 (y : (Int × Int × Bool × (List UInt8 × Nat) × Unit)) : Option (Int × Bool × Unit) := iter (fun (y : (Int × Int × Bool × (List UInt8 × Nat) × Unit)) => pin_Weak_L0b y.1 y.2.1 y.2.2.1 y.2.2.2.1) rounds y

def pin_Weak (a0 : (List UInt8)) : Option ((Unit) × (Bool × Unit)) :=
 (bif (decide (((a0).length : Int) < (4 : Int))) then (some ((), (true, ())))
 else (bif (decide ((63 : Int) < ((a0).length : Int))) then (some ((), (true, ())))
 else ((utf8_ValidString a0).bind fun r1 => (bif (!r1.2.1) then (some ((), (true, ())))
 else ((strings_IndexByte a0 (0 : UInt8)).bind fun r2 => (bif (decide ((0 : Int) ≤ r2.2.1)) then (some ((), (true, ())))
 else ((pin_Weak_L0 ((0 : Int), (0 : Int), true, (a0, 0), ())).bind (fun (z5 : (Int × Bool × Unit)) => (bif (decide (z5.1 < (4 : Int))) then (some ((), (true, ())))
 else (some ((), (z5.2.1, ()))))))))))))

def S_pin_Weak : FSpec T := ⟨[.f (.v .str)], [(.v .bool)], fun x => pin_Weak x.1⟩

def E_pin_Weak : Env T := ⟨tab.find, cd, globs, flc, fun f ds => match f with
    | 23 => some S_utf8_ValidString
    | 24 => some S_strings_IndexByte
    | _ => none, fun f => match f with
    | 23 => true
    | 24 => true
    | _ => false⟩

def A_pin_Weak : Loc2 T := ⟨fun id => match id with
    | 0 => some ⟨[(3, .f (.v (.int .i32))), (4, .f (.v (.int .i64))), (5, .f (.v .bool)), (25, .iter)], [(.exit 0, [(4, .f (.v (.int .i64))), (5, .f (.v .bool))])], pin_Weak_L0⟩
    | _ => none, fun r => match r with
    | 12 => some ([(3, .f (.v (.int .i32))), (4, .f (.v (.int .i64))), (5, .f (.v .bool)), (7, .f (.v (.int .i32))), (25, .iter)], true)
    | _ => none, fun r => match r with
    | _ => false⟩

theorem pin_Weak_L0_eq (y0 : Int) (y1 : Int) (y2 : Bool) (y3 : (List UInt8 × Nat)) : run E_pin_Weak A_pin_Weak (loopAt 0 (Tryd.f17.body.getD .skip)) (lay cd [(3, .f (.v (.int .i32))), (4, .f (.v (.int .i64))), (5, .f (.v .bool)), (25, .iter)] (y0, y1, y2, y3, ())) (roundK cd [(3, .f (.v (.int .i32))), (4, .f (.v (.int .i64))), (5, .f (.v .bool)), (25, .iter)] [(.exit 0, [(4, .f (.v (.int .i64))), (5, .f (.v .bool))])]) = pin_Weak_L0b y0 y1 y2 y3 := by kernel_rfl

theorem pin_Weak_eq (x : tySs T S_pin_Weak.ps) : run E_pin_Weak A_pin_Weak (Tryd.f17.body.getD .skip) (enterT E_pin_Weak.C S_pin_Weak.ps x) (retK E_pin_Weak Tryd.f17.results.toList S_pin_Weak.ps S_pin_Weak.rs) = S_pin_Weak.fn x := by kernel_rfl

theorem pin_Weak_env : EnvOk Tryd.prog E_pin_Weak := envOk (E := E_pin_Weak) cd_ok tys fl_ok fun f ds S h => by
    dsimp only [E_pin_Weak] at h
    split at h
    · cases h; exact utf8_ValidString_ok
    · cases h; exact strings_IndexByte_ok
    · cases h

theorem pin_Weak_L0_ok : LoopOk Tryd.prog E_pin_Weak Tryd.f17.ntmps (kqOf S_pin_Weak.ps 0) (loopAt 0 (Tryd.f17.body.getD .skip)) ⟨[(3, .f (.v (.int .i32))), (4, .f (.v (.int .i64))), (5, .f (.v .bool)), (25, .iter)], [(.exit 0, [(4, .f (.v (.int .i64))), (5, .f (.v .bool))])], pin_Weak_L0⟩ :=
  loop_ok (A := A_pin_Weak) (done := []) (c0 := (Tryd.f17.body.getD .skip)) hmix pin_Weak_env done_nil rounds (by kernel_rfl) (by kernel_rfl) (fun x => pin_Weak_L0_eq x.1 x.2.1 x.2.2.1 x.2.2.2.1) (fun _ => rfl)

theorem pin_Weak_ok : SoundT Tryd.prog cd gdn 17 S_pin_Weak :=
  sound_fn (E := E_pin_Weak) (A := A_pin_Weak) (done := [0]) (c := (Tryd.f17.body.getD .skip)) (S := S_pin_Weak) (fn := Tryd.f17) hmix pin_Weak_env Tryd.func17 rfl (by kernel_rfl) (by kernel_rfl) (done_cons rfl pin_Weak_L0_ok done_nil) (by kernel_rfl) (by kernel_rfl) pin_Weak_eq

def passkeylaw11_awake : Option ((Unit) × (Bool × Unit)) :=
 ((pin_New (7#64)).bind fun r1 => ((pin_Charge r1.2.1).bind fun r2 => ((pin_Settle r2.2.1 false).bind fun r3 => ((pin_Weak ([49, 50, 51, 52] : List UInt8)).bind fun r4 => (bif (!r4.2.1) then ((pin_Weak ([49, 49, 49, 49] : List UInt8)).bind fun r5 => (bif r5.2.1 then ((pin_Weak ([49, 50, 51] : List UInt8)).bind fun r6 => (bif r6.2.1 then (bif (decide (r2.2.2.1 = (0 : Int))) then (bif (decide (r3.2.2.1 = (24 : Int))) then (let v7 : Bool := ((r3.2.1.set == true) && (decide (r3.2.1.check = 7#64) && (decide (r3.2.1.retries = (7 : Int)) && (decide (r3.2.1.wrong = (1 : Int)) && true))))
 (some ((), (v7, ()))))
 else (some ((), (false, ()))))
 else (some ((), (false, ()))))
 else (some ((), (false, ())))))
 else (some ((), (false, ())))))
 else (some ((), (false, ()))))))))

def S_passkeylaw11_awake : FSpec T := ⟨[], [(.v .bool)], fun x => passkeylaw11_awake ⟩

def E_passkeylaw11_awake : Env T := ⟨tab.find, cd, globs, flc, fun f ds => match f with
    | 8 => some S_pin_Charge
    | 10 => some S_pin_Settle
    | 12 => some S_pin_New
    | 17 => some S_pin_Weak
    | _ => none, fun f => match f with
    | 8 => true
    | 10 => true
    | 12 => true
    | 17 => true
    | _ => false⟩

def A_passkeylaw11_awake : Loc2 T := ⟨fun id => match id with
    | _ => none, fun r => match r with
    | _ => none, fun r => match r with
    | _ => false⟩

theorem passkeylaw11_awake_eq (x : tySs T S_passkeylaw11_awake.ps) : run E_passkeylaw11_awake A_passkeylaw11_awake (Tryd.f14.body.getD .skip) (enterT E_passkeylaw11_awake.C S_passkeylaw11_awake.ps x) (retK E_passkeylaw11_awake Tryd.f14.results.toList S_passkeylaw11_awake.ps S_passkeylaw11_awake.rs) = S_passkeylaw11_awake.fn x := by kernel_rfl

theorem passkeylaw11_awake_env : EnvOk Tryd.prog E_passkeylaw11_awake := envOk (E := E_passkeylaw11_awake) cd_ok tys fl_ok fun f ds S h => by
    dsimp only [E_passkeylaw11_awake] at h
    split at h
    · cases h; exact pin_Charge_ok
    · cases h; exact pin_Settle_ok
    · cases h; exact pin_New_ok
    · cases h; exact pin_Weak_ok
    · cases h

theorem passkeylaw11_awake_ok : SoundT Tryd.prog cd gdn 14 S_passkeylaw11_awake :=
  sound_fn (E := E_passkeylaw11_awake) (A := A_passkeylaw11_awake) (done := []) (c := (Tryd.f14.body.getD .skip)) (S := S_passkeylaw11_awake) (fn := Tryd.f14) hmix passkeylaw11_awake_env Tryd.func14 rfl (by kernel_rfl) (by kernel_rfl) done_nil (by kernel_rfl) (by kernel_rfl) passkeylaw11_awake_eq

def digest_little_L0b (y0 : (BitVec 64)) (y1 : (List (UInt8))) (y2 : Int) (y3 : Int) : Option (((BitVec 64) × (List (UInt8)) × Int × Int × Unit) ⊕ ((BitVec 64) × Unit)) :=
 (bif (decide (y3 < y2)) then ((getI y1 y3).bind fun x1 => (bif decide ((0 : Int) ≤ (IntKind.wrap .i64 ((8 : Int) * y3))) then (let v2 : BitVec 64 := ((BitVec.setWidth 64 x1.toBitVec) <<< ((IntKind.wrap .i64 ((8 : Int) * y3))).toNat)
 (some (Sum.inl ((y0 ||| v2), y1, y2, (IntKind.wrap .i64 (y3 + (1 : Int))), ()))))
 else none))
 else (some (Sum.inr (y0, ()))))

def digest_little_L0 (y : ((BitVec 64) × (List (UInt8)) × Int × Int × Unit)) : Option ((BitVec 64) × Unit) := iter (fun (y : ((BitVec 64) × (List (UInt8)) × Int × Int × Unit)) => digest_little_L0b y.1 y.2.1 y.2.2.1 y.2.2.2.1) rounds y

def digest_little (a0 : (List (UInt8))) : Option ((Unit) × ((BitVec 64) × Unit)) :=
 ((digest_little_L0 (0#64, a0, ((a0).length : Int), (0 : Int), ())).bind (fun (z3 : ((BitVec 64) × Unit)) => (some ((), (z3.1, ())))))

def S_digest_little : FSpec T := ⟨[.f (.v (.rs 0))], [(.v .u64)], fun x => digest_little x.1⟩

def E_digest_little : Env T := ⟨tab.find, cd, globs, flc, fun f ds => match f with
    | _ => none, fun f => match f with
    | _ => false⟩

def A_digest_little : Loc2 T := ⟨fun id => match id with
    | 0 => some ⟨[(3, .f (.v .u64)), (6, .f (.v (.rs 0))), (7, .f (.v (.int .i64))), (8, .f (.v (.int .i64)))], [(.exit 0, [(3, .f (.v .u64))])], digest_little_L0⟩
    | _ => none, fun r => match r with
    | _ => none, fun r => match r with
    | _ => false⟩

theorem digest_little_L0_eq (y0 : (BitVec 64)) (y1 : (List (UInt8))) (y2 : Int) (y3 : Int) : run E_digest_little A_digest_little (loopAt 0 (Tryd.f40.body.getD .skip)) (lay cd [(3, .f (.v .u64)), (6, .f (.v (.rs 0))), (7, .f (.v (.int .i64))), (8, .f (.v (.int .i64)))] (y0, y1, y2, y3, ())) (roundK cd [(3, .f (.v .u64)), (6, .f (.v (.rs 0))), (7, .f (.v (.int .i64))), (8, .f (.v (.int .i64)))] [(.exit 0, [(3, .f (.v .u64))])]) = digest_little_L0b y0 y1 y2 y3 := by kernel_rfl

theorem digest_little_eq (x : tySs T S_digest_little.ps) : run E_digest_little A_digest_little (Tryd.f40.body.getD .skip) (enterT E_digest_little.C S_digest_little.ps x) (retK E_digest_little Tryd.f40.results.toList S_digest_little.ps S_digest_little.rs) = S_digest_little.fn x := by kernel_rfl

theorem digest_little_env : EnvOk Tryd.prog E_digest_little := envOk (E := E_digest_little) cd_ok tys fl_ok fun f ds S h => by cases h

theorem digest_little_L0_ok : LoopOk Tryd.prog E_digest_little Tryd.f40.ntmps (kqOf S_digest_little.ps 0) (loopAt 0 (Tryd.f40.body.getD .skip)) ⟨[(3, .f (.v .u64)), (6, .f (.v (.rs 0))), (7, .f (.v (.int .i64))), (8, .f (.v (.int .i64)))], [(.exit 0, [(3, .f (.v .u64))])], digest_little_L0⟩ :=
  loop_ok (A := A_digest_little) (done := []) (c0 := (Tryd.f40.body.getD .skip)) hmix digest_little_env done_nil rounds (by kernel_rfl) (by kernel_rfl) (fun x => digest_little_L0_eq x.1 x.2.1 x.2.2.1 x.2.2.2.1) (fun _ => rfl)

theorem digest_little_ok : SoundT Tryd.prog cd gdn 40 S_digest_little :=
  sound_fn (E := E_digest_little) (A := A_digest_little) (done := [0]) (c := (Tryd.f40.body.getD .skip)) (S := S_digest_little) (fn := Tryd.f40) hmix digest_little_env Tryd.func40 rfl (by kernel_rfl) (by kernel_rfl) (done_cons rfl digest_little_L0_ok done_nil) (by kernel_rfl) (by kernel_rfl) digest_little_eq

def math_bits_RotateLeft64 (a0 : (BitVec 64)) (a1 : Int) : Option ((Unit) × ((BitVec 64) × Unit)) :=
 (let v1 : BitVec 64 := ((a0 <<< ((BitVec.ofInt 64 a1) &&& 63#64).toNat) ||| (a0 >>> (64#64 - ((BitVec.ofInt 64 a1) &&& 63#64)).toNat))
 (some ((), (v1, ()))))

def S_math_bits_RotateLeft64 : FSpec T := ⟨[.f (.v .u64), .f (.v (.int .i64))], [(.v .u64)], fun x => math_bits_RotateLeft64 x.1 x.2.1⟩

def E_math_bits_RotateLeft64 : Env T := ⟨tab.find, cd, globs, flc, fun f ds => match f with
    | _ => none, fun f => match f with
    | _ => false⟩

def A_math_bits_RotateLeft64 : Loc2 T := ⟨fun id => match id with
    | _ => none, fun r => match r with
    | _ => none, fun r => match r with
    | _ => false⟩

theorem math_bits_RotateLeft64_eq (x : tySs T S_math_bits_RotateLeft64.ps) : run E_math_bits_RotateLeft64 A_math_bits_RotateLeft64 (Tryd.f43.body.getD .skip) (enterT E_math_bits_RotateLeft64.C S_math_bits_RotateLeft64.ps x) (retK E_math_bits_RotateLeft64 Tryd.f43.results.toList S_math_bits_RotateLeft64.ps S_math_bits_RotateLeft64.rs) = S_math_bits_RotateLeft64.fn x := by kernel_rfl

theorem math_bits_RotateLeft64_env : EnvOk Tryd.prog E_math_bits_RotateLeft64 := envOk (E := E_math_bits_RotateLeft64) cd_ok tys fl_ok fun f ds S h => by cases h

theorem math_bits_RotateLeft64_ok : SoundT Tryd.prog cd gdn 43 S_math_bits_RotateLeft64 :=
  sound_fn (E := E_math_bits_RotateLeft64) (A := A_math_bits_RotateLeft64) (done := []) (c := (Tryd.f43.body.getD .skip)) (S := S_math_bits_RotateLeft64) (fn := Tryd.f43) hmix math_bits_RotateLeft64_env Tryd.func43 rfl (by kernel_rfl) (by kernel_rfl) done_nil (by kernel_rfl) (by kernel_rfl) math_bits_RotateLeft64_eq

def digest_state_rounds_L0b (y0 : (DigestState × Unit)) (y1 : Int) (y2 : Int) : Option (((DigestState × Unit) × Int × Int × Unit) ⊕ ((DigestState × Unit) × Unit)) :=
 (bif (decide (y2 < y1)) then ((math_bits_RotateLeft64 y0.1.v1 (13 : Int)).bind fun r1 => ((math_bits_RotateLeft64 (y0.1.v0 + y0.1.v1) (32 : Int)).bind fun r2 => ((math_bits_RotateLeft64 y0.1.v3 (16 : Int)).bind fun r3 => ((math_bits_RotateLeft64 (r3.2.1 ^^^ (y0.1.v2 + y0.1.v3)) (21 : Int)).bind fun r4 => ((math_bits_RotateLeft64 (r1.2.1 ^^^ (y0.1.v0 + y0.1.v1)) (17 : Int)).bind fun r5 => (let v6 : BitVec 64 := (r5.2.1 ^^^ ((y0.1.v2 + y0.1.v3) + (r1.2.1 ^^^ (y0.1.v0 + y0.1.v1))))
 ((math_bits_RotateLeft64 ((y0.1.v2 + y0.1.v3) + (r1.2.1 ^^^ (y0.1.v0 + y0.1.v1))) (32 : Int)).bind fun r7 => (some (Sum.inl (((⟨(r2.2.1 + (r3.2.1 ^^^ (y0.1.v2 + y0.1.v3))), v6, r7.2.1, (r4.2.1 ^^^ (r2.2.1 + (r3.2.1 ^^^ (y0.1.v2 + y0.1.v3))))⟩ : DigestState), ()), y1, (IntKind.wrap .i64 (y2 + (1 : Int))), ()))))))))))
 else (some (Sum.inr ((y0.1, ()), ()))))

def digest_state_rounds_L0 (y : ((DigestState × Unit) × Int × Int × Unit)) : Option ((DigestState × Unit) × Unit) := iter (fun (y : ((DigestState × Unit) × Int × Int × Unit)) => digest_state_rounds_L0b y.1 y.2.1 y.2.2.1) rounds y

def digest_state_rounds (a0 : (DigestState × Unit)) (a1 : Int) : Option (((DigestState × Unit) × Unit) × (Unit)) :=
 ((digest_state_rounds_L0 ((a0.1, ()), a1, (0 : Int), ())).bind (fun (z8 : ((DigestState × Unit) × Unit)) => (some (((z8.1.1, ()), ()), ()))))

def S_digest_state_rounds : FSpec T := ⟨[.ptr [(.v (.agg 2))], .f (.v (.int .i64))], [], fun x => digest_state_rounds x.1 x.2.1⟩

def E_digest_state_rounds : Env T := ⟨tab.find, cd, globs, flc, fun f ds => match f with
    | 43 => some S_math_bits_RotateLeft64
    | _ => none, fun f => match f with
    | 43 => true
    | _ => false⟩

def A_digest_state_rounds : Loc2 T := ⟨fun id => match id with
    | 0 => some ⟨[(0, .ptr [(.v (.agg 2))]), (4, .f (.v (.int .i64))), (5, .f (.v (.int .i64)))], [(.exit 0, [(0, .ptr [(.v (.agg 2))])])], digest_state_rounds_L0⟩
    | _ => none, fun r => match r with
    | _ => none, fun r => match r with
    | _ => false⟩

theorem digest_state_rounds_L0_eq (y0 : (DigestState × Unit)) (y1 : Int) (y2 : Int) : run E_digest_state_rounds A_digest_state_rounds (loopAt 0 (Tryd.f41.body.getD .skip)) (lay cd [(0, .ptr [(.v (.agg 2))]), (4, .f (.v (.int .i64))), (5, .f (.v (.int .i64)))] (y0, y1, y2, ())) (roundK cd [(0, .ptr [(.v (.agg 2))]), (4, .f (.v (.int .i64))), (5, .f (.v (.int .i64)))] [(.exit 0, [(0, .ptr [(.v (.agg 2))])])]) = digest_state_rounds_L0b y0 y1 y2 := by kernel_rfl

theorem digest_state_rounds_eq (x : tySs T S_digest_state_rounds.ps) : run E_digest_state_rounds A_digest_state_rounds (Tryd.f41.body.getD .skip) (enterT E_digest_state_rounds.C S_digest_state_rounds.ps x) (retK E_digest_state_rounds Tryd.f41.results.toList S_digest_state_rounds.ps S_digest_state_rounds.rs) = S_digest_state_rounds.fn x := by kernel_rfl

theorem digest_state_rounds_env : EnvOk Tryd.prog E_digest_state_rounds := envOk (E := E_digest_state_rounds) cd_ok tys fl_ok fun f ds S h => by
    dsimp only [E_digest_state_rounds] at h
    split at h
    · cases h; exact math_bits_RotateLeft64_ok
    · cases h

theorem digest_state_rounds_L0_ok : LoopOk Tryd.prog E_digest_state_rounds Tryd.f41.ntmps (kqOf S_digest_state_rounds.ps 0) (loopAt 0 (Tryd.f41.body.getD .skip)) ⟨[(0, .ptr [(.v (.agg 2))]), (4, .f (.v (.int .i64))), (5, .f (.v (.int .i64)))], [(.exit 0, [(0, .ptr [(.v (.agg 2))])])], digest_state_rounds_L0⟩ :=
  loop_ok (A := A_digest_state_rounds) (done := []) (c0 := (Tryd.f41.body.getD .skip)) hmix digest_state_rounds_env done_nil rounds (by kernel_rfl) (by kernel_rfl) (fun x => digest_state_rounds_L0_eq x.1 x.2.1 x.2.2.1) (fun _ => rfl)

theorem digest_state_rounds_ok : SoundT Tryd.prog cd gdn 41 S_digest_state_rounds :=
  sound_fn (E := E_digest_state_rounds) (A := A_digest_state_rounds) (done := [0]) (c := (Tryd.f41.body.getD .skip)) (S := S_digest_state_rounds) (fn := Tryd.f41) hmix digest_state_rounds_env Tryd.func41 rfl (by kernel_rfl) (by kernel_rfl) (done_cons rfl digest_state_rounds_L0_ok done_nil) (by kernel_rfl) (by kernel_rfl) digest_state_rounds_eq

def digest_state_absorb (a0 : (DigestState × Unit)) (a1 : (BitVec 64)) : Option (((DigestState × Unit) × Unit) × (Unit)) :=
 ((digest_state_rounds ((⟨a0.1.v0, a0.1.v1, a0.1.v2, (a0.1.v3 ^^^ a1)⟩ : DigestState), ()) (2 : Int)).bind fun r1 => (some ((((⟨(r1.1.1.1.v0 ^^^ a1), r1.1.1.1.v1, r1.1.1.1.v2, r1.1.1.1.v3⟩ : DigestState), ()), ()), ())))

def S_digest_state_absorb : FSpec T := ⟨[.ptr [(.v (.agg 2))], .f (.v .u64)], [], fun x => digest_state_absorb x.1 x.2.1⟩

def E_digest_state_absorb : Env T := ⟨tab.find, cd, globs, flc, fun f ds => match f with
    | 41 => some S_digest_state_rounds
    | _ => none, fun f => match f with
    | _ => false⟩

def A_digest_state_absorb : Loc2 T := ⟨fun id => match id with
    | _ => none, fun r => match r with
    | _ => none, fun r => match r with
    | _ => false⟩

theorem digest_state_absorb_eq (x : tySs T S_digest_state_absorb.ps) : run E_digest_state_absorb A_digest_state_absorb (Tryd.f39.body.getD .skip) (enterT E_digest_state_absorb.C S_digest_state_absorb.ps x) (retK E_digest_state_absorb Tryd.f39.results.toList S_digest_state_absorb.ps S_digest_state_absorb.rs) = S_digest_state_absorb.fn x := by kernel_rfl

theorem digest_state_absorb_env : EnvOk Tryd.prog E_digest_state_absorb := envOk (E := E_digest_state_absorb) cd_ok tys fl_ok fun f ds S h => by
    dsimp only [E_digest_state_absorb] at h
    split at h
    · cases h; exact digest_state_rounds_ok
    · cases h

theorem digest_state_absorb_ok : SoundT Tryd.prog cd gdn 39 S_digest_state_absorb :=
  sound_fn (E := E_digest_state_absorb) (A := A_digest_state_absorb) (done := []) (c := (Tryd.f39.body.getD .skip)) (S := S_digest_state_absorb) (fn := Tryd.f39) hmix digest_state_absorb_env Tryd.func39 rfl (by kernel_rfl) (by kernel_rfl) done_nil (by kernel_rfl) (by kernel_rfl) digest_state_absorb_eq

def digest_Sum_L0b (y0 : (List (UInt8))) (y1 : (DigestState × Unit)) (y2 : Int) (y3 : Int) (y4 : Int) : Option (((List (UInt8)) × (DigestState × Unit) × Int × Int × Int × Unit) ⊕ ((List (UInt8)) × (DigestState × Unit) × Int × Unit)) :=
 (bif (decide (y4 < y3)) then (let v1 : Int := (IntKind.wrap .i64 ((IntKind.wrap .i64 ((8 : Int) * y4)) + (8 : Int)))
 (bif (decide ((0 : Int) ≤ v1) && decide (v1 ≤ ((y0).length : Int))) then (bif (decide ((0 : Int) ≤ (IntKind.wrap .i64 ((8 : Int) * y4))) && decide ((IntKind.wrap .i64 ((8 : Int) * y4)) ≤ ((v1).toNat : Int))) then (let v2 : List (UInt8) := (List.drop ((IntKind.wrap .i64 ((8 : Int) * y4))).toNat (List.take (v1).toNat y0))
 ((digest_little v2).bind fun r3 => ((digest_state_absorb (y1.1, ()) r3.2.1).bind fun r4 => (some (Sum.inl (y0, (r4.1.1.1, ()), y2, y3, (IntKind.wrap .i64 (y4 + (1 : Int))), ()))))))
 else none)
 else none))
 else (some (Sum.inr (y0, (y1.1, ()), y2, ()))))

def digest_Sum_L0 (y : ((List (UInt8)) × (DigestState × Unit) × Int × Int × Int × Unit)) : Option ((List (UInt8)) × (DigestState × Unit) × Int × Unit) := iter (fun (y : ((List (UInt8)) × (DigestState × Unit) × Int × Int × Int × Unit)) => digest_Sum_L0b y.1 y.2.1 y.2.2.1 y.2.2.2.1 y.2.2.2.2.1) rounds y

def digest_Sum (a0 : (BitVec 64)) (a1 : (BitVec 64)) (a2 : (List (UInt8))) : Option ((Unit) × ((BitVec 64) × Unit)) :=
 ((digest_Sum_L0 (a2, ((⟨(a0 ^^^ 8317987319222330741#64), (a1 ^^^ 7237128888997146477#64), (a0 ^^^ 7816392313619706465#64), (a1 ^^^ 8387220255154660723#64)⟩ : DigestState), ()), (IntKind.wrap .i64 (Int.tdiv ((a2).length : Int) (8 : Int))), (IntKind.wrap .i64 (Int.tdiv ((a2).length : Int) (8 : Int))), (0 : Int), ())).bind (fun (z5 : ((List (UInt8)) × (DigestState × Unit) × Int × Unit)) => (bif (decide ((0 : Int) ≤ (IntKind.wrap .i64 ((8 : Int) * z5.2.2.1))) && decide ((IntKind.wrap .i64 ((8 : Int) * z5.2.2.1)) ≤ ((z5.1).length : Int))) then (let v6 : List (UInt8) := (List.drop ((IntKind.wrap .i64 ((8 : Int) * z5.2.2.1))).toNat z5.1)
 ((digest_little v6).bind fun r7 => (let v8 : BitVec 64 := (r7.2.1 ||| ((BitVec.ofInt 64 ((z5.1).length : Int)) <<< 56))
 ((digest_state_absorb (z5.2.1.1, ()) v8).bind fun r9 => ((digest_state_rounds ((⟨r9.1.1.1.v0, r9.1.1.1.v1, (r9.1.1.1.v2 ^^^ 255#64), r9.1.1.1.v3⟩ : DigestState), ()) (4 : Int)).bind fun r10 => (let v11 : BitVec 64 := (((r10.1.1.1.v0 ^^^ r10.1.1.1.v1) ^^^ r10.1.1.1.v2) ^^^ r10.1.1.1.v3)
 (some ((), (v11, ())))))))))
 else none)))

def S_digest_Sum : FSpec T := ⟨[.f (.v .u64), .f (.v .u64), .f (.v (.rs 0))], [(.v .u64)], fun x => digest_Sum x.1 x.2.1 x.2.2.1⟩

def E_digest_Sum : Env T := ⟨tab.find, cd, globs, flc, fun f ds => match f with
    | 39 => some S_digest_state_absorb
    | 40 => some S_digest_little
    | 41 => some S_digest_state_rounds
    | _ => none, fun f => match f with
    | 40 => true
    | _ => false⟩

def A_digest_Sum : Loc2 T := ⟨fun id => match id with
    | 0 => some ⟨[(2, .f (.v (.rs 0))), (7, .ptr [(.v (.agg 2))]), (8, .f (.v (.int .i64))), (22, .f (.v (.int .i64))), (23, .f (.v (.int .i64)))], [(.exit 0, [(2, .f (.v (.rs 0))), (7, .ptr [(.v (.agg 2))]), (8, .f (.v (.int .i64)))])], digest_Sum_L0⟩
    | _ => none, fun r => match r with
    | _ => none, fun r => match r with
    | _ => false⟩

theorem digest_Sum_L0_eq (y0 : (List (UInt8))) (y1 : (DigestState × Unit)) (y2 : Int) (y3 : Int) (y4 : Int) : run E_digest_Sum A_digest_Sum (loopAt 0 (Tryd.f36.body.getD .skip)) (lay cd [(2, .f (.v (.rs 0))), (7, .ptr [(.v (.agg 2))]), (8, .f (.v (.int .i64))), (22, .f (.v (.int .i64))), (23, .f (.v (.int .i64)))] (y0, y1, y2, y3, y4, ())) (roundK cd [(2, .f (.v (.rs 0))), (7, .ptr [(.v (.agg 2))]), (8, .f (.v (.int .i64))), (22, .f (.v (.int .i64))), (23, .f (.v (.int .i64)))] [(.exit 0, [(2, .f (.v (.rs 0))), (7, .ptr [(.v (.agg 2))]), (8, .f (.v (.int .i64)))])]) = digest_Sum_L0b y0 y1 y2 y3 y4 := by kernel_rfl

theorem digest_Sum_eq (x : tySs T S_digest_Sum.ps) : run E_digest_Sum A_digest_Sum (Tryd.f36.body.getD .skip) (enterT E_digest_Sum.C S_digest_Sum.ps x) (retK E_digest_Sum Tryd.f36.results.toList S_digest_Sum.ps S_digest_Sum.rs) = S_digest_Sum.fn x := by kernel_rfl

theorem digest_Sum_env : EnvOk Tryd.prog E_digest_Sum := envOk (E := E_digest_Sum) cd_ok tys fl_ok fun f ds S h => by
    dsimp only [E_digest_Sum] at h
    split at h
    · cases h; exact digest_state_absorb_ok
    · cases h; exact digest_little_ok
    · cases h; exact digest_state_rounds_ok
    · cases h

theorem digest_Sum_L0_ok : LoopOk Tryd.prog E_digest_Sum Tryd.f36.ntmps (kqOf S_digest_Sum.ps 0) (loopAt 0 (Tryd.f36.body.getD .skip)) ⟨[(2, .f (.v (.rs 0))), (7, .ptr [(.v (.agg 2))]), (8, .f (.v (.int .i64))), (22, .f (.v (.int .i64))), (23, .f (.v (.int .i64)))], [(.exit 0, [(2, .f (.v (.rs 0))), (7, .ptr [(.v (.agg 2))]), (8, .f (.v (.int .i64)))])], digest_Sum_L0⟩ :=
  loop_ok (A := A_digest_Sum) (done := []) (c0 := (Tryd.f36.body.getD .skip)) hmix digest_Sum_env done_nil rounds (by kernel_rfl) (by kernel_rfl) (fun x => digest_Sum_L0_eq x.1 x.2.1 x.2.2.1 x.2.2.2.1 x.2.2.2.2.1) (fun _ => rfl)

theorem digest_Sum_ok : SoundT Tryd.prog cd gdn 36 S_digest_Sum :=
  sound_fn (E := E_digest_Sum) (A := A_digest_Sum) (done := [0]) (c := (Tryd.f36.body.getD .skip)) (S := S_digest_Sum) (fn := Tryd.f36) hmix digest_Sum_env Tryd.func36 rfl (by kernel_rfl) (by kernel_rfl) (done_cons rfl digest_Sum_L0_ok done_nil) (by kernel_rfl) (by kernel_rfl) digest_Sum_eq

def digest_Hash (a0 : Int) (a1 : (List (UInt8))) : Option ((Unit) × ((BitVec 64) × Unit)) :=
 ((digest_Sum (BitVec.ofInt 64 a0) (0#64) a1).bind fun r1 => (some ((), (r1.2.1, ()))))

def S_digest_Hash : FSpec T := ⟨[.f (.v (.int .i64)), .f (.v (.rs 0))], [(.v .u64)], fun x => digest_Hash x.1 x.2.1⟩

def E_digest_Hash : Env T := ⟨tab.find, cd, globs, flc, fun f ds => match f with
    | 36 => some S_digest_Sum
    | _ => none, fun f => match f with
    | 36 => true
    | _ => false⟩

def A_digest_Hash : Loc2 T := ⟨fun id => match id with
    | _ => none, fun r => match r with
    | _ => none, fun r => match r with
    | _ => false⟩

theorem digest_Hash_eq (x : tySs T S_digest_Hash.ps) : run E_digest_Hash A_digest_Hash (Tryd.f27.body.getD .skip) (enterT E_digest_Hash.C S_digest_Hash.ps x) (retK E_digest_Hash Tryd.f27.results.toList S_digest_Hash.ps S_digest_Hash.rs) = S_digest_Hash.fn x := by kernel_rfl

theorem digest_Hash_env : EnvOk Tryd.prog E_digest_Hash := envOk (E := E_digest_Hash) cd_ok tys fl_ok fun f ds S h => by
    dsimp only [E_digest_Hash] at h
    split at h
    · cases h; exact digest_Sum_ok
    · cases h

theorem digest_Hash_ok : SoundT Tryd.prog cd gdn 27 S_digest_Hash :=
  sound_fn (E := E_digest_Hash) (A := A_digest_Hash) (done := []) (c := (Tryd.f27.body.getD .skip)) (S := S_digest_Hash) (fn := Tryd.f27) hmix digest_Hash_env Tryd.func27 rfl (by kernel_rfl) (by kernel_rfl) done_nil (by kernel_rfl) (by kernel_rfl) digest_Hash_eq

def pin_Hash (a0 : (List UInt8)) : Option ((Unit) × ((BitVec 64) × Unit)) :=
 ((digest_Hash (8 : Int) a0).bind fun r1 => (some ((), (r1.2.1, ()))))

def S_pin_Hash : FSpec T := ⟨[.f (.v .str)], [(.v .u64)], fun x => pin_Hash x.1⟩

def E_pin_Hash : Env T := ⟨tab.find, cd, globs, flc, fun f ds => match f with
    | 27 => some S_digest_Hash
    | _ => none, fun f => match f with
    | 27 => true
    | _ => false⟩

def A_pin_Hash : Loc2 T := ⟨fun id => match id with
    | _ => none, fun r => match r with
    | _ => none, fun r => match r with
    | _ => false⟩

theorem pin_Hash_eq (x : tySs T S_pin_Hash.ps) : run E_pin_Hash A_pin_Hash (Tryd.f19.body.getD .skip) (enterT E_pin_Hash.C S_pin_Hash.ps x) (retK E_pin_Hash Tryd.f19.results.toList S_pin_Hash.ps S_pin_Hash.rs) = S_pin_Hash.fn x := by kernel_rfl

theorem pin_Hash_env : EnvOk Tryd.prog E_pin_Hash := envOk (E := E_pin_Hash) cd_ok tys fl_ok fun f ds S h => by
    dsimp only [E_pin_Hash] at h
    split at h
    · cases h; exact digest_Hash_ok
    · cases h

theorem pin_Hash_ok : SoundT Tryd.prog cd gdn 19 S_pin_Hash :=
  sound_fn (E := E_pin_Hash) (A := A_pin_Hash) (done := []) (c := (Tryd.f19.body.getD .skip)) (S := S_pin_Hash) (fn := Tryd.f19) hmix pin_Hash_env Tryd.func19 rfl (by kernel_rfl) (by kernel_rfl) done_nil (by kernel_rfl) (by kernel_rfl) pin_Hash_eq

def passkeyref1_rotl (a0 : (BitVec 64)) (a1 : (BitVec 64)) : Option ((Unit) × ((BitVec 64) × Unit)) :=
 (some ((), (((a0 <<< a1.toNat) ||| (a0 >>> (64#64 - a1).toNat)), ())))

def S_passkeyref1_rotl : FSpec T := ⟨[.f (.v .u64), .f (.v .u64)], [(.v .u64)], fun x => passkeyref1_rotl x.1 x.2.1⟩

def E_passkeyref1_rotl : Env T := ⟨tab.find, cd, globs, flc, fun f ds => match f with
    | _ => none, fun f => match f with
    | _ => false⟩

def A_passkeyref1_rotl : Loc2 T := ⟨fun id => match id with
    | _ => none, fun r => match r with
    | _ => none, fun r => match r with
    | _ => false⟩

theorem passkeyref1_rotl_eq (x : tySs T S_passkeyref1_rotl.ps) : run E_passkeyref1_rotl A_passkeyref1_rotl (Tryd.f44.body.getD .skip) (enterT E_passkeyref1_rotl.C S_passkeyref1_rotl.ps x) (retK E_passkeyref1_rotl Tryd.f44.results.toList S_passkeyref1_rotl.ps S_passkeyref1_rotl.rs) = S_passkeyref1_rotl.fn x := by kernel_rfl

theorem passkeyref1_rotl_env : EnvOk Tryd.prog E_passkeyref1_rotl := envOk (E := E_passkeyref1_rotl) cd_ok tys fl_ok fun f ds S h => by cases h

theorem passkeyref1_rotl_ok : SoundT Tryd.prog cd gdn 44 S_passkeyref1_rotl :=
  sound_fn (E := E_passkeyref1_rotl) (A := A_passkeyref1_rotl) (done := []) (c := (Tryd.f44.body.getD .skip)) (S := S_passkeyref1_rotl) (fn := Tryd.f44) hmix passkeyref1_rotl_env Tryd.func44 rfl (by kernel_rfl) (by kernel_rfl) done_nil (by kernel_rfl) (by kernel_rfl) passkeyref1_rotl_eq

def passkeyref1_round (a0 : Arr4_BitVec64) : Option ((Unit) × (Arr4_BitVec64 × Unit)) :=
 ((passkeyref1_rotl a0.a1 (13#64)).bind fun r1 => ((passkeyref1_rotl (a0.a0 + a0.a1) (32#64)).bind fun r2 => ((passkeyref1_rotl a0.a3 (16#64)).bind fun r3 => ((passkeyref1_rotl (r3.2.1 ^^^ (a0.a2 + a0.a3)) (21#64)).bind fun r4 => ((passkeyref1_rotl (r1.2.1 ^^^ (a0.a0 + a0.a1)) (17#64)).bind fun r5 => (let v6 : BitVec 64 := (r5.2.1 ^^^ ((a0.a2 + a0.a3) + (r1.2.1 ^^^ (a0.a0 + a0.a1))))
 ((passkeyref1_rotl ((a0.a2 + a0.a3) + (r1.2.1 ^^^ (a0.a0 + a0.a1))) (32#64)).bind fun r7 => (some ((), ((⟨(r2.2.1 + (r3.2.1 ^^^ (a0.a2 + a0.a3))), v6, r7.2.1, (r4.2.1 ^^^ (r2.2.1 + (r3.2.1 ^^^ (a0.a2 + a0.a3))))⟩ : Arr4_BitVec64), ()))))))))))

def S_passkeyref1_round : FSpec T := ⟨[.f (.v (.agg 3))], [(.v (.agg 3))], fun x => passkeyref1_round x.1⟩

def E_passkeyref1_round : Env T := ⟨tab.find, cd, globs, flc, fun f ds => match f with
    | 44 => some S_passkeyref1_rotl
    | _ => none, fun f => match f with
    | 44 => true
    | _ => false⟩

def A_passkeyref1_round : Loc2 T := ⟨fun id => match id with
    | _ => none, fun r => match r with
    | _ => none, fun r => match r with
    | _ => false⟩

theorem passkeyref1_round_eq (x : tySs T S_passkeyref1_round.ps) : run E_passkeyref1_round A_passkeyref1_round (Tryd.f42.body.getD .skip) (enterT E_passkeyref1_round.C S_passkeyref1_round.ps x) (retK E_passkeyref1_round Tryd.f42.results.toList S_passkeyref1_round.ps S_passkeyref1_round.rs) = S_passkeyref1_round.fn x := by kernel_rfl

theorem passkeyref1_round_env : EnvOk Tryd.prog E_passkeyref1_round := envOk (E := E_passkeyref1_round) cd_ok tys fl_ok fun f ds S h => by
    dsimp only [E_passkeyref1_round] at h
    split at h
    · cases h; exact passkeyref1_rotl_ok
    · cases h

theorem passkeyref1_round_ok : SoundT Tryd.prog cd gdn 42 S_passkeyref1_round :=
  sound_fn (E := E_passkeyref1_round) (A := A_passkeyref1_round) (done := []) (c := (Tryd.f42.body.getD .skip)) (S := S_passkeyref1_round) (fn := Tryd.f42) hmix passkeyref1_round_env Tryd.func42 rfl (by kernel_rfl) (by kernel_rfl) done_nil (by kernel_rfl) (by kernel_rfl) passkeyref1_round_eq

def passkeyref1_Sum_L2b (y0 : (List (UInt8))) (y1 : (Arr4_BitVec64 × Unit)) (y2 : Int) (y3 : (BitVec 64)) (y4 : Int) : Option (((List (UInt8)) × (Arr4_BitVec64 × Unit) × Int × (BitVec 64) × Int × Unit) ⊕ ((List (UInt8)) × (Arr4_BitVec64 × Unit) × Int × (BitVec 64) × Unit)) :=
 (bif (decide ((0 : Int) ≤ y4)) then (bif (decide ((IntKind.wrap .i64 (y2 + y4)) < ((y0).length : Int))) then ((getI y0 (IntKind.wrap .i64 (y2 + y4))).bind fun x1 => (some (Sum.inl (y0, (y1.1, ()), y2, ((y3 <<< 8) ||| (BitVec.setWidth 64 x1.toBitVec)), (IntKind.wrap .i64 (y4 - (1 : Int))), ()))))
 else (bif (decide (y4 = (7 : Int))) then (let v2 : BitVec 64 := (BitVec.setWidth 64 (UInt8.ofBitVec (BitVec.ofInt 8 ((y0).length : Int))).toBitVec)
 (some (Sum.inl (y0, (y1.1, ()), y2, ((y3 <<< 8) ||| v2), (IntKind.wrap .i64 (y4 - (1 : Int))), ()))))
 else (some (Sum.inl (y0, (y1.1, ()), y2, ((y3 <<< 8) ||| (BitVec.setWidth 64 (0 : UInt8).toBitVec)), (IntKind.wrap .i64 (y4 - (1 : Int))), ())))))
 else (some (Sum.inr (y0, (y1.1, ()), y2, y3, ()))))

def passkeyref1_Sum_L2 (y : ((List (UInt8)) × (Arr4_BitVec64 × Unit) × Int × (BitVec 64) × Int × Unit)) : Option ((List (UInt8)) × (Arr4_BitVec64 × Unit) × Int × (BitVec 64) × Unit) := iter (fun (y : ((List (UInt8)) × (Arr4_BitVec64 × Unit) × Int × (BitVec 64) × Int × Unit)) => passkeyref1_Sum_L2b y.1 y.2.1 y.2.2.1 y.2.2.2.1 y.2.2.2.2.1) rounds y

def passkeyref1_Sum_L0b (y0 : (List (UInt8))) (y1 : (Arr4_BitVec64 × Unit)) (y2 : Int) : Option (((List (UInt8)) × (Arr4_BitVec64 × Unit) × Int × Unit) ⊕ ((Arr4_BitVec64 × Unit) × Unit)) :=
 (bif (decide (y2 ≤ ((y0).length : Int))) then ((passkeyref1_Sum_L2 (y0, (y1.1, ()), y2, 0#64, (7 : Int), ())).bind (fun (z1 : ((List (UInt8)) × (Arr4_BitVec64 × Unit) × Int × (BitVec 64) × Unit)) => ((passkeyref1_round (⟨z1.2.1.1.a0, z1.2.1.1.a1, z1.2.1.1.a2, (z1.2.1.1.a3 ^^^ z1.2.2.2.1)⟩ : Arr4_BitVec64)).bind fun r2 => ((passkeyref1_round r2.2.1).bind fun r3 => (some (Sum.inl (z1.1, ((⟨(r3.2.1.a0 ^^^ z1.2.2.2.1), r3.2.1.a1, r3.2.1.a2, r3.2.1.a3⟩ : Arr4_BitVec64), ()), (IntKind.wrap .i64 (z1.2.2.1 + (8 : Int))), ())))))))
 else (some (Sum.inr ((y1.1, ()), ()))))

def passkeyref1_Sum_L0 (y : ((List (UInt8)) × (Arr4_BitVec64 × Unit) × Int × Unit)) : Option ((Arr4_BitVec64 × Unit) × Unit) := iter (fun (y : ((List (UInt8)) × (Arr4_BitVec64 × Unit) × Int × Unit)) => passkeyref1_Sum_L0b y.1 y.2.1 y.2.2.1) rounds y

def passkeyref1_Sum (a0 : (BitVec 64)) (a1 : (BitVec 64)) (a2 : (List (UInt8))) : Option ((Unit) × ((BitVec 64) × Unit)) :=
 ((passkeyref1_Sum_L0 (a2, ((⟨(a0 ^^^ 8317987319222330741#64), (a1 ^^^ 7237128888997146477#64), (a0 ^^^ 7816392313619706465#64), (a1 ^^^ 8387220255154660723#64)⟩ : Arr4_BitVec64), ()), (0 : Int), ())).bind (fun (z4 : ((Arr4_BitVec64 × Unit) × Unit)) => ((passkeyref1_round (⟨z4.1.1.a0, z4.1.1.a1, (z4.1.1.a2 ^^^ 255#64), z4.1.1.a3⟩ : Arr4_BitVec64)).bind fun r5 => ((passkeyref1_round r5.2.1).bind fun r6 => ((passkeyref1_round r6.2.1).bind fun r7 => ((passkeyref1_round r7.2.1).bind fun r8 => (some ((), ((((r8.2.1.a0 ^^^ r8.2.1.a1) ^^^ r8.2.1.a2) ^^^ r8.2.1.a3), ())))))))))

def S_passkeyref1_Sum : FSpec T := ⟨[.f (.v .u64), .f (.v .u64), .f (.v (.rs 0))], [(.v .u64)], fun x => passkeyref1_Sum x.1 x.2.1 x.2.2.1⟩

def E_passkeyref1_Sum : Env T := ⟨tab.find, cd, globs, flc, fun f ds => match f with
    | 42 => some S_passkeyref1_round
    | _ => none, fun f => match f with
    | 42 => true
    | _ => false⟩

def A_passkeyref1_Sum : Loc2 T := ⟨fun id => match id with
    | 2 => some ⟨[(2, .f (.v (.rs 0))), (7, .ptr [(.v (.agg 3))]), (8, .f (.v (.int .i64))), (9, .f (.v .u64)), (10, .f (.v (.int .i64)))], [(.exit 2, [(2, .f (.v (.rs 0))), (7, .ptr [(.v (.agg 3))]), (8, .f (.v (.int .i64))), (9, .f (.v .u64))])], passkeyref1_Sum_L2⟩
    | 0 => some ⟨[(2, .f (.v (.rs 0))), (7, .ptr [(.v (.agg 3))]), (8, .f (.v (.int .i64)))], [(.exit 0, [(7, .ptr [(.v (.agg 3))])])], passkeyref1_Sum_L0⟩
    | _ => none, fun r => match r with
    | _ => none, fun r => match r with
    | _ => false⟩

theorem passkeyref1_Sum_L2_eq (y0 : (List (UInt8))) (y1 : (Arr4_BitVec64 × Unit)) (y2 : Int) (y3 : (BitVec 64)) (y4 : Int) : run E_passkeyref1_Sum A_passkeyref1_Sum (loopAt 2 (Tryd.f37.body.getD .skip)) (lay cd [(2, .f (.v (.rs 0))), (7, .ptr [(.v (.agg 3))]), (8, .f (.v (.int .i64))), (9, .f (.v .u64)), (10, .f (.v (.int .i64)))] (y0, y1, y2, y3, y4, ())) (roundK cd [(2, .f (.v (.rs 0))), (7, .ptr [(.v (.agg 3))]), (8, .f (.v (.int .i64))), (9, .f (.v .u64)), (10, .f (.v (.int .i64)))] [(.exit 2, [(2, .f (.v (.rs 0))), (7, .ptr [(.v (.agg 3))]), (8, .f (.v (.int .i64))), (9, .f (.v .u64))])]) = passkeyref1_Sum_L2b y0 y1 y2 y3 y4 := by kernel_rfl

theorem passkeyref1_Sum_L0_eq (y0 : (List (UInt8))) (y1 : (Arr4_BitVec64 × Unit)) (y2 : Int) : run E_passkeyref1_Sum A_passkeyref1_Sum (loopAt 0 (Tryd.f37.body.getD .skip)) (lay cd [(2, .f (.v (.rs 0))), (7, .ptr [(.v (.agg 3))]), (8, .f (.v (.int .i64)))] (y0, y1, y2, ())) (roundK cd [(2, .f (.v (.rs 0))), (7, .ptr [(.v (.agg 3))]), (8, .f (.v (.int .i64)))] [(.exit 0, [(7, .ptr [(.v (.agg 3))])])]) = passkeyref1_Sum_L0b y0 y1 y2 := by kernel_rfl

theorem passkeyref1_Sum_eq (x : tySs T S_passkeyref1_Sum.ps) : run E_passkeyref1_Sum A_passkeyref1_Sum (Tryd.f37.body.getD .skip) (enterT E_passkeyref1_Sum.C S_passkeyref1_Sum.ps x) (retK E_passkeyref1_Sum Tryd.f37.results.toList S_passkeyref1_Sum.ps S_passkeyref1_Sum.rs) = S_passkeyref1_Sum.fn x := by kernel_rfl

theorem passkeyref1_Sum_env : EnvOk Tryd.prog E_passkeyref1_Sum := envOk (E := E_passkeyref1_Sum) cd_ok tys fl_ok fun f ds S h => by
    dsimp only [E_passkeyref1_Sum] at h
    split at h
    · cases h; exact passkeyref1_round_ok
    · cases h

theorem passkeyref1_Sum_L2_ok : LoopOk Tryd.prog E_passkeyref1_Sum Tryd.f37.ntmps (kqOf S_passkeyref1_Sum.ps 0) (loopAt 2 (Tryd.f37.body.getD .skip)) ⟨[(2, .f (.v (.rs 0))), (7, .ptr [(.v (.agg 3))]), (8, .f (.v (.int .i64))), (9, .f (.v .u64)), (10, .f (.v (.int .i64)))], [(.exit 2, [(2, .f (.v (.rs 0))), (7, .ptr [(.v (.agg 3))]), (8, .f (.v (.int .i64))), (9, .f (.v .u64))])], passkeyref1_Sum_L2⟩ :=
  loop_ok (A := A_passkeyref1_Sum) (done := []) (c0 := (Tryd.f37.body.getD .skip)) hmix passkeyref1_Sum_env done_nil rounds (by kernel_rfl) (by kernel_rfl) (fun x => passkeyref1_Sum_L2_eq x.1 x.2.1 x.2.2.1 x.2.2.2.1 x.2.2.2.2.1) (fun _ => rfl)

theorem passkeyref1_Sum_L0_ok : LoopOk Tryd.prog E_passkeyref1_Sum Tryd.f37.ntmps (kqOf S_passkeyref1_Sum.ps 0) (loopAt 0 (Tryd.f37.body.getD .skip)) ⟨[(2, .f (.v (.rs 0))), (7, .ptr [(.v (.agg 3))]), (8, .f (.v (.int .i64)))], [(.exit 0, [(7, .ptr [(.v (.agg 3))])])], passkeyref1_Sum_L0⟩ :=
  loop_ok (A := A_passkeyref1_Sum) (done := [2]) (c0 := (Tryd.f37.body.getD .skip)) hmix passkeyref1_Sum_env (done_cons rfl passkeyref1_Sum_L2_ok done_nil) rounds (by kernel_rfl) (by kernel_rfl) (fun x => passkeyref1_Sum_L0_eq x.1 x.2.1 x.2.2.1) (fun _ => rfl)

theorem passkeyref1_Sum_ok : SoundT Tryd.prog cd gdn 37 S_passkeyref1_Sum :=
  sound_fn (E := E_passkeyref1_Sum) (A := A_passkeyref1_Sum) (done := [2, 0]) (c := (Tryd.f37.body.getD .skip)) (S := S_passkeyref1_Sum) (fn := Tryd.f37) hmix passkeyref1_Sum_env Tryd.func37 rfl (by kernel_rfl) (by kernel_rfl) (done_cons rfl passkeyref1_Sum_L2_ok (done_cons rfl passkeyref1_Sum_L0_ok done_nil)) (by kernel_rfl) (by kernel_rfl) passkeyref1_Sum_eq

def passkeyref1_Hash (a0 : Int) (a1 : (List (UInt8))) : Option ((Unit) × ((BitVec 64) × Unit)) :=
 ((passkeyref1_Sum (BitVec.ofInt 64 a0) (0#64) a1).bind fun r1 => (some ((), (r1.2.1, ()))))

def S_passkeyref1_Hash : FSpec T := ⟨[.f (.v (.int .i64)), .f (.v (.rs 0))], [(.v .u64)], fun x => passkeyref1_Hash x.1 x.2.1⟩

def E_passkeyref1_Hash : Env T := ⟨tab.find, cd, globs, flc, fun f ds => match f with
    | 37 => some S_passkeyref1_Sum
    | _ => none, fun f => match f with
    | 37 => true
    | _ => false⟩

def A_passkeyref1_Hash : Loc2 T := ⟨fun id => match id with
    | _ => none, fun r => match r with
    | _ => none, fun r => match r with
    | _ => false⟩

theorem passkeyref1_Hash_eq (x : tySs T S_passkeyref1_Hash.ps) : run E_passkeyref1_Hash A_passkeyref1_Hash (Tryd.f28.body.getD .skip) (enterT E_passkeyref1_Hash.C S_passkeyref1_Hash.ps x) (retK E_passkeyref1_Hash Tryd.f28.results.toList S_passkeyref1_Hash.ps S_passkeyref1_Hash.rs) = S_passkeyref1_Hash.fn x := by kernel_rfl

theorem passkeyref1_Hash_env : EnvOk Tryd.prog E_passkeyref1_Hash := envOk (E := E_passkeyref1_Hash) cd_ok tys fl_ok fun f ds S h => by
    dsimp only [E_passkeyref1_Hash] at h
    split at h
    · cases h; exact passkeyref1_Sum_ok
    · cases h

theorem passkeyref1_Hash_ok : SoundT Tryd.prog cd gdn 28 S_passkeyref1_Hash :=
  sound_fn (E := E_passkeyref1_Hash) (A := A_passkeyref1_Hash) (done := []) (c := (Tryd.f28.body.getD .skip)) (S := S_passkeyref1_Hash) (fn := Tryd.f28) hmix passkeyref1_Hash_env Tryd.func28 rfl (by kernel_rfl) (by kernel_rfl) done_nil (by kernel_rfl) (by kernel_rfl) passkeyref1_Hash_eq

def passkeyref10_HashPin (a0 : (List UInt8)) : Option ((Unit) × ((BitVec 64) × Unit)) :=
 ((passkeyref1_Hash (8 : Int) a0).bind fun r1 => (some ((), (r1.2.1, ()))))

def S_passkeyref10_HashPin : FSpec T := ⟨[.f (.v .str)], [(.v .u64)], fun x => passkeyref10_HashPin x.1⟩

def E_passkeyref10_HashPin : Env T := ⟨tab.find, cd, globs, flc, fun f ds => match f with
    | 28 => some S_passkeyref1_Hash
    | _ => none, fun f => match f with
    | 28 => true
    | _ => false⟩

def A_passkeyref10_HashPin : Loc2 T := ⟨fun id => match id with
    | _ => none, fun r => match r with
    | _ => none, fun r => match r with
    | _ => false⟩

theorem passkeyref10_HashPin_eq (x : tySs T S_passkeyref10_HashPin.ps) : run E_passkeyref10_HashPin A_passkeyref10_HashPin (Tryd.f20.body.getD .skip) (enterT E_passkeyref10_HashPin.C S_passkeyref10_HashPin.ps x) (retK E_passkeyref10_HashPin Tryd.f20.results.toList S_passkeyref10_HashPin.ps S_passkeyref10_HashPin.rs) = S_passkeyref10_HashPin.fn x := by kernel_rfl

theorem passkeyref10_HashPin_env : EnvOk Tryd.prog E_passkeyref10_HashPin := envOk (E := E_passkeyref10_HashPin) cd_ok tys fl_ok fun f ds S h => by
    dsimp only [E_passkeyref10_HashPin] at h
    split at h
    · cases h; exact passkeyref1_Hash_ok
    · cases h

theorem passkeyref10_HashPin_ok : SoundT Tryd.prog cd gdn 20 S_passkeyref10_HashPin :=
  sound_fn (E := E_passkeyref10_HashPin) (A := A_passkeyref10_HashPin) (done := []) (c := (Tryd.f20.body.getD .skip)) (S := S_passkeyref10_HashPin) (fn := Tryd.f20) hmix passkeyref10_HashPin_env Tryd.func20 rfl (by kernel_rfl) (by kernel_rfl) done_nil (by kernel_rfl) (by kernel_rfl) passkeyref10_HashPin_eq

def digest_Words_L2b (y0 : (List (UInt8))) (y1 : (BitVec 64)) (y2 : (List (BitVec 64))) (y3 : Int) (y4 : Int) (y5 : Int) : Option (((List (UInt8)) × (BitVec 64) × (List (BitVec 64)) × Int × Int × Int × Unit) ⊕ ((List (UInt8)) × (List (BitVec 64)) × Int × Int × Unit)) :=
 (bif (decide (y5 < (8 : Int))) then (let v2 : Int := (IntKind.wrap .i64 ((56 : Int) - (IntKind.wrap .i64 ((8 : Int) * y5))))
 (bif decide ((0 : Int) ≤ v2) then (let v3 : List (UInt8) := ([(UInt8.ofBitVec (BitVec.setWidth 8 (y1 >>> (v2).toNat)))] : List (UInt8))
 (bif small ((y0).length + (v3 : List (UInt8)).length) 1 then (some (Sum.inl ((y0 ++ v3), y1, y2, y3, y4, (IntKind.wrap .i64 (y5 + (1 : Int))), ())))
 else none))
 else none))
 else (some (Sum.inr (y0, y2, y3, y4, ()))))

def digest_Words_L2 (y : ((List (UInt8)) × (BitVec 64) × (List (BitVec 64)) × Int × Int × Int × Unit)) : Option ((List (UInt8)) × (List (BitVec 64)) × Int × Int × Unit) := iter (fun (y : ((List (UInt8)) × (BitVec 64) × (List (BitVec 64)) × Int × Int × Int × Unit)) => digest_Words_L2b y.1 y.2.1 y.2.2.1 y.2.2.2.1 y.2.2.2.2.1 y.2.2.2.2.2.1) rounds y

def digest_Words_L0b (y0 : (List (UInt8))) (y1 : (List (BitVec 64))) (y2 : Int) (y3 : Int) : Option (((List (UInt8)) × (List (BitVec 64)) × Int × Int × Unit) ⊕ ((List (UInt8)) × Unit)) :=
 (bif (decide (y3 < y2)) then ((getI y1 y3).bind fun x1 => ((digest_Words_L2 (y0, x1, y1, y2, y3, (0 : Int), ())).bind (fun (z2 : ((List (UInt8)) × (List (BitVec 64)) × Int × Int × Unit)) => (some (Sum.inl (z2.1, z2.2.1, z2.2.2.1, (IntKind.wrap .i64 (z2.2.2.2.1 + (1 : Int))), ()))))))
 else (some (Sum.inr (y0, ()))))

def digest_Words_L0 (y : ((List (UInt8)) × (List (BitVec 64)) × Int × Int × Unit)) : Option ((List (UInt8)) × Unit) := iter (fun (y : ((List (UInt8)) × (List (BitVec 64)) × Int × Int × Unit)) => digest_Words_L0b y.1 y.2.1 y.2.2.1 y.2.2.2.1) rounds y

def digest_Words (a0 : (List (BitVec 64))) : Option ((Unit) × ((List (UInt8)) × Unit)) :=
 (bif (decide ((0 : Int) ≤ (0 : Int)) && (decide ((0 : Int) ≤ (IntKind.wrap .i64 ((8 : Int) * ((a0).length : Int)))) && decide ((1 : Int) * (IntKind.wrap .i64 ((8 : Int) * ((a0).length : Int))) ≤ 281474976710656 ∧ (IntKind.wrap .i64 ((8 : Int) * ((a0).length : Int))) ≤ 9223372036854775807))) then ((digest_Words_L0 ((List.replicate 0 (0 : UInt8)), a0, ((a0).length : Int), (0 : Int), ())).bind (fun (z3 : ((List (UInt8)) × Unit)) => (some ((), (z3.1, ())))))
 else none)

def S_digest_Words : FSpec T := ⟨[.f (.v (.rs 4))], [(.own 0)], fun x => digest_Words x.1⟩

def E_digest_Words : Env T := ⟨tab.find, cd, globs, flc, fun f ds => match f with
    | _ => none, fun f => match f with
    | _ => false⟩

def A_digest_Words : Loc2 T := ⟨fun id => match id with
    | 2 => some ⟨[(3, .f (.own 0)), (5, .f (.v .u64)), (11, .f (.v (.rs 4))), (12, .f (.v (.int .i64))), (13, .f (.v (.int .i64))), (17, .f (.v (.int .i64)))], [(.exit 2, [(3, .f (.own 0)), (11, .f (.v (.rs 4))), (12, .f (.v (.int .i64))), (13, .f (.v (.int .i64)))])], digest_Words_L2⟩
    | 0 => some ⟨[(3, .f (.own 0)), (11, .f (.v (.rs 4))), (12, .f (.v (.int .i64))), (13, .f (.v (.int .i64)))], [(.exit 0, [(3, .f (.own 0))])], digest_Words_L0⟩
    | _ => none, fun r => match r with
    | _ => none, fun r => match r with
    | _ => false⟩

theorem digest_Words_L2_eq (y0 : (List (UInt8))) (y1 : (BitVec 64)) (y2 : (List (BitVec 64))) (y3 : Int) (y4 : Int) (y5 : Int) : run E_digest_Words A_digest_Words (loopAt 2 (Tryd.f30.body.getD .skip)) (lay cd [(3, .f (.own 0)), (5, .f (.v .u64)), (11, .f (.v (.rs 4))), (12, .f (.v (.int .i64))), (13, .f (.v (.int .i64))), (17, .f (.v (.int .i64)))] (y0, y1, y2, y3, y4, y5, ())) (roundK cd [(3, .f (.own 0)), (5, .f (.v .u64)), (11, .f (.v (.rs 4))), (12, .f (.v (.int .i64))), (13, .f (.v (.int .i64))), (17, .f (.v (.int .i64)))] [(.exit 2, [(3, .f (.own 0)), (11, .f (.v (.rs 4))), (12, .f (.v (.int .i64))), (13, .f (.v (.int .i64)))])]) = digest_Words_L2b y0 y1 y2 y3 y4 y5 := by kernel_rfl

theorem digest_Words_L0_eq (y0 : (List (UInt8))) (y1 : (List (BitVec 64))) (y2 : Int) (y3 : Int) : run E_digest_Words A_digest_Words (loopAt 0 (Tryd.f30.body.getD .skip)) (lay cd [(3, .f (.own 0)), (11, .f (.v (.rs 4))), (12, .f (.v (.int .i64))), (13, .f (.v (.int .i64)))] (y0, y1, y2, y3, ())) (roundK cd [(3, .f (.own 0)), (11, .f (.v (.rs 4))), (12, .f (.v (.int .i64))), (13, .f (.v (.int .i64)))] [(.exit 0, [(3, .f (.own 0))])]) = digest_Words_L0b y0 y1 y2 y3 := by kernel_rfl

theorem digest_Words_eq (x : tySs T S_digest_Words.ps) : run E_digest_Words A_digest_Words (Tryd.f30.body.getD .skip) (enterT E_digest_Words.C S_digest_Words.ps x) (retK E_digest_Words Tryd.f30.results.toList S_digest_Words.ps S_digest_Words.rs) = S_digest_Words.fn x := by kernel_rfl

theorem digest_Words_env : EnvOk Tryd.prog E_digest_Words := envOk (E := E_digest_Words) cd_ok tys fl_ok fun f ds S h => by cases h

theorem digest_Words_L2_ok : LoopOk Tryd.prog E_digest_Words Tryd.f30.ntmps (kqOf S_digest_Words.ps 0) (loopAt 2 (Tryd.f30.body.getD .skip)) ⟨[(3, .f (.own 0)), (5, .f (.v .u64)), (11, .f (.v (.rs 4))), (12, .f (.v (.int .i64))), (13, .f (.v (.int .i64))), (17, .f (.v (.int .i64)))], [(.exit 2, [(3, .f (.own 0)), (11, .f (.v (.rs 4))), (12, .f (.v (.int .i64))), (13, .f (.v (.int .i64)))])], digest_Words_L2⟩ :=
  loop_ok (A := A_digest_Words) (done := []) (c0 := (Tryd.f30.body.getD .skip)) hmix digest_Words_env done_nil rounds (by kernel_rfl) (by kernel_rfl) (fun x => digest_Words_L2_eq x.1 x.2.1 x.2.2.1 x.2.2.2.1 x.2.2.2.2.1 x.2.2.2.2.2.1) (fun _ => rfl)

theorem digest_Words_L0_ok : LoopOk Tryd.prog E_digest_Words Tryd.f30.ntmps (kqOf S_digest_Words.ps 0) (loopAt 0 (Tryd.f30.body.getD .skip)) ⟨[(3, .f (.own 0)), (11, .f (.v (.rs 4))), (12, .f (.v (.int .i64))), (13, .f (.v (.int .i64)))], [(.exit 0, [(3, .f (.own 0))])], digest_Words_L0⟩ :=
  loop_ok (A := A_digest_Words) (done := [2]) (c0 := (Tryd.f30.body.getD .skip)) hmix digest_Words_env (done_cons rfl digest_Words_L2_ok done_nil) rounds (by kernel_rfl) (by kernel_rfl) (fun x => digest_Words_L0_eq x.1 x.2.1 x.2.2.1 x.2.2.2.1) (fun _ => rfl)

theorem digest_Words_ok : SoundT Tryd.prog cd gdn 30 S_digest_Words :=
  sound_fn (E := E_digest_Words) (A := A_digest_Words) (done := [2, 0]) (c := (Tryd.f30.body.getD .skip)) (S := S_digest_Words) (fn := Tryd.f30) hmix digest_Words_env Tryd.func30 rfl (by kernel_rfl) (by kernel_rfl) (done_cons rfl digest_Words_L2_ok (done_cons rfl digest_Words_L0_ok done_nil)) (by kernel_rfl) (by kernel_rfl) digest_Words_eq

def digest_Mac (a0 : (BitVec 64)) (a1 : Int) (a2 : (List (UInt8))) : Option ((Unit) × ((BitVec 64) × Unit)) :=
 ((digest_Sum a0 (1#64 + (BitVec.ofInt 64 a1)) a2).bind fun r1 => (some ((), (r1.2.1, ()))))

def S_digest_Mac : FSpec T := ⟨[.f (.v .u64), .f (.v (.int .i64)), .f (.v (.rs 0))], [(.v .u64)], fun x => digest_Mac x.1 x.2.1 x.2.2.1⟩

def E_digest_Mac : Env T := ⟨tab.find, cd, globs, flc, fun f ds => match f with
    | 36 => some S_digest_Sum
    | _ => none, fun f => match f with
    | 36 => true
    | _ => false⟩

def A_digest_Mac : Loc2 T := ⟨fun id => match id with
    | _ => none, fun r => match r with
    | _ => none, fun r => match r with
    | _ => false⟩

theorem digest_Mac_eq (x : tySs T S_digest_Mac.ps) : run E_digest_Mac A_digest_Mac (Tryd.f29.body.getD .skip) (enterT E_digest_Mac.C S_digest_Mac.ps x) (retK E_digest_Mac Tryd.f29.results.toList S_digest_Mac.ps S_digest_Mac.rs) = S_digest_Mac.fn x := by kernel_rfl

theorem digest_Mac_env : EnvOk Tryd.prog E_digest_Mac := envOk (E := E_digest_Mac) cd_ok tys fl_ok fun f ds S h => by
    dsimp only [E_digest_Mac] at h
    split at h
    · cases h; exact digest_Sum_ok
    · cases h

theorem digest_Mac_ok : SoundT Tryd.prog cd gdn 29 S_digest_Mac :=
  sound_fn (E := E_digest_Mac) (A := A_digest_Mac) (done := []) (c := (Tryd.f29.body.getD .skip)) (S := S_digest_Mac) (fn := Tryd.f29) hmix digest_Mac_env Tryd.func29 rfl (by kernel_rfl) (by kernel_rfl) done_nil (by kernel_rfl) (by kernel_rfl) digest_Mac_eq

def pin_Check (a0 : (BitVec 64)) (a1 : (BitVec 64)) : Option ((Unit) × ((BitVec 64) × Unit)) :=
 ((digest_Words ([a1] : List (BitVec 64))).bind fun r1 => ((digest_Mac a0 (8 : Int) r1.2.1).bind fun r2 => (some ((), (r2.2.1, ())))))

def S_pin_Check : FSpec T := ⟨[.f (.v .u64), .f (.v .u64)], [(.v .u64)], fun x => pin_Check x.1 x.2.1⟩

def E_pin_Check : Env T := ⟨tab.find, cd, globs, flc, fun f ds => match f with
    | 29 => some S_digest_Mac
    | 30 => some S_digest_Words
    | _ => none, fun f => match f with
    | 29 => true
    | _ => false⟩

def A_pin_Check : Loc2 T := ⟨fun id => match id with
    | _ => none, fun r => match r with
    | _ => none, fun r => match r with
    | _ => false⟩

theorem pin_Check_eq (x : tySs T S_pin_Check.ps) : run E_pin_Check A_pin_Check (Tryd.f21.body.getD .skip) (enterT E_pin_Check.C S_pin_Check.ps x) (retK E_pin_Check Tryd.f21.results.toList S_pin_Check.ps S_pin_Check.rs) = S_pin_Check.fn x := by kernel_rfl

theorem pin_Check_env : EnvOk Tryd.prog E_pin_Check := envOk (E := E_pin_Check) cd_ok tys fl_ok fun f ds S h => by
    dsimp only [E_pin_Check] at h
    split at h
    · cases h; exact digest_Mac_ok
    · cases h; exact digest_Words_ok
    · cases h

theorem pin_Check_ok : SoundT Tryd.prog cd gdn 21 S_pin_Check :=
  sound_fn (E := E_pin_Check) (A := A_pin_Check) (done := []) (c := (Tryd.f21.body.getD .skip)) (S := S_pin_Check) (fn := Tryd.f21) hmix pin_Check_env Tryd.func21 rfl (by kernel_rfl) (by kernel_rfl) done_nil (by kernel_rfl) (by kernel_rfl) pin_Check_eq

def passkeyref1_Words_L2b (y0 : (List (BitVec 64))) (y1 : (List (UInt8))) (y2 : Int) (y3 : Int) : Option (((List (BitVec 64)) × (List (UInt8)) × Int × Int × Unit) ⊕ ((List (BitVec 64)) × (List (UInt8)) × Int × Unit)) :=
 (bif (decide ((0 : Int) ≤ y3)) then ((getI y0 y2).bind fun x1 => (let v2 : BitVec 64 := (x1 >>> (BitVec.ofInt 64 (IntKind.wrap .i64 ((8 : Int) * y3))).toNat)
 (bif small ((y1).length + (([(UInt8.ofBitVec (BitVec.setWidth 8 v2))] : List (UInt8)) : List (UInt8)).length) 1 then (let v3 : List (UInt8) := (y1 ++ ([(UInt8.ofBitVec (BitVec.setWidth 8 v2))] : List (UInt8)))
 (some (Sum.inl (y0, v3, y2, (IntKind.wrap .i64 (y3 - (1 : Int))), ()))))
 else none)))
 else (some (Sum.inr (y0, y1, y2, ()))))

def passkeyref1_Words_L2 (y : ((List (BitVec 64)) × (List (UInt8)) × Int × Int × Unit)) : Option ((List (BitVec 64)) × (List (UInt8)) × Int × Unit) := iter (fun (y : ((List (BitVec 64)) × (List (UInt8)) × Int × Int × Unit)) => passkeyref1_Words_L2b y.1 y.2.1 y.2.2.1 y.2.2.2.1) rounds y

def passkeyref1_Words_L0b (y0 : (List (BitVec 64))) (y1 : (List (UInt8))) (y2 : Int) : Option (((List (BitVec 64)) × (List (UInt8)) × Int × Unit) ⊕ ((List (UInt8)) × Unit)) :=
 (bif (decide (y2 < ((y0).length : Int))) then ((passkeyref1_Words_L2 (y0, y1, y2, (7 : Int), ())).bind (fun (z1 : ((List (BitVec 64)) × (List (UInt8)) × Int × Unit)) => (some (Sum.inl (z1.1, z1.2.1, (IntKind.wrap .i64 (z1.2.2.1 + (1 : Int))), ())))))
 else (some (Sum.inr (y1, ()))))

def passkeyref1_Words_L0 (y : ((List (BitVec 64)) × (List (UInt8)) × Int × Unit)) : Option ((List (UInt8)) × Unit) := iter (fun (y : ((List (BitVec 64)) × (List (UInt8)) × Int × Unit)) => passkeyref1_Words_L0b y.1 y.2.1 y.2.2.1) rounds y

def passkeyref1_Words (a0 : (List (BitVec 64))) : Option ((Unit) × ((List (UInt8)) × Unit)) :=
 ((passkeyref1_Words_L0 (a0, [], (0 : Int), ())).bind (fun (z2 : ((List (UInt8)) × Unit)) => (some ((), (z2.1, ())))))

def S_passkeyref1_Words : FSpec T := ⟨[.f (.v (.rs 4))], [(.own 0)], fun x => passkeyref1_Words x.1⟩

def E_passkeyref1_Words : Env T := ⟨tab.find, cd, globs, flc, fun f ds => match f with
    | _ => none, fun f => match f with
    | _ => false⟩

def A_passkeyref1_Words : Loc2 T := ⟨fun id => match id with
    | 2 => some ⟨[(0, .f (.v (.rs 4))), (3, .f (.own 0)), (4, .f (.v (.int .i64))), (5, .f (.v (.int .i64)))], [(.exit 2, [(0, .f (.v (.rs 4))), (3, .f (.own 0)), (4, .f (.v (.int .i64)))])], passkeyref1_Words_L2⟩
    | 0 => some ⟨[(0, .f (.v (.rs 4))), (3, .f (.own 0)), (4, .f (.v (.int .i64)))], [(.exit 0, [(3, .f (.own 0))])], passkeyref1_Words_L0⟩
    | _ => none, fun r => match r with
    | _ => none, fun r => match r with
    | _ => false⟩

theorem passkeyref1_Words_L2_eq (y0 : (List (BitVec 64))) (y1 : (List (UInt8))) (y2 : Int) (y3 : Int) : run E_passkeyref1_Words A_passkeyref1_Words (loopAt 2 (Tryd.f32.body.getD .skip)) (lay cd [(0, .f (.v (.rs 4))), (3, .f (.own 0)), (4, .f (.v (.int .i64))), (5, .f (.v (.int .i64)))] (y0, y1, y2, y3, ())) (roundK cd [(0, .f (.v (.rs 4))), (3, .f (.own 0)), (4, .f (.v (.int .i64))), (5, .f (.v (.int .i64)))] [(.exit 2, [(0, .f (.v (.rs 4))), (3, .f (.own 0)), (4, .f (.v (.int .i64)))])]) = passkeyref1_Words_L2b y0 y1 y2 y3 := by kernel_rfl

theorem passkeyref1_Words_L0_eq (y0 : (List (BitVec 64))) (y1 : (List (UInt8))) (y2 : Int) : run E_passkeyref1_Words A_passkeyref1_Words (loopAt 0 (Tryd.f32.body.getD .skip)) (lay cd [(0, .f (.v (.rs 4))), (3, .f (.own 0)), (4, .f (.v (.int .i64)))] (y0, y1, y2, ())) (roundK cd [(0, .f (.v (.rs 4))), (3, .f (.own 0)), (4, .f (.v (.int .i64)))] [(.exit 0, [(3, .f (.own 0))])]) = passkeyref1_Words_L0b y0 y1 y2 := by kernel_rfl

theorem passkeyref1_Words_eq (x : tySs T S_passkeyref1_Words.ps) : run E_passkeyref1_Words A_passkeyref1_Words (Tryd.f32.body.getD .skip) (enterT E_passkeyref1_Words.C S_passkeyref1_Words.ps x) (retK E_passkeyref1_Words Tryd.f32.results.toList S_passkeyref1_Words.ps S_passkeyref1_Words.rs) = S_passkeyref1_Words.fn x := by kernel_rfl

theorem passkeyref1_Words_env : EnvOk Tryd.prog E_passkeyref1_Words := envOk (E := E_passkeyref1_Words) cd_ok tys fl_ok fun f ds S h => by cases h

theorem passkeyref1_Words_L2_ok : LoopOk Tryd.prog E_passkeyref1_Words Tryd.f32.ntmps (kqOf S_passkeyref1_Words.ps 0) (loopAt 2 (Tryd.f32.body.getD .skip)) ⟨[(0, .f (.v (.rs 4))), (3, .f (.own 0)), (4, .f (.v (.int .i64))), (5, .f (.v (.int .i64)))], [(.exit 2, [(0, .f (.v (.rs 4))), (3, .f (.own 0)), (4, .f (.v (.int .i64)))])], passkeyref1_Words_L2⟩ :=
  loop_ok (A := A_passkeyref1_Words) (done := []) (c0 := (Tryd.f32.body.getD .skip)) hmix passkeyref1_Words_env done_nil rounds (by kernel_rfl) (by kernel_rfl) (fun x => passkeyref1_Words_L2_eq x.1 x.2.1 x.2.2.1 x.2.2.2.1) (fun _ => rfl)

theorem passkeyref1_Words_L0_ok : LoopOk Tryd.prog E_passkeyref1_Words Tryd.f32.ntmps (kqOf S_passkeyref1_Words.ps 0) (loopAt 0 (Tryd.f32.body.getD .skip)) ⟨[(0, .f (.v (.rs 4))), (3, .f (.own 0)), (4, .f (.v (.int .i64)))], [(.exit 0, [(3, .f (.own 0))])], passkeyref1_Words_L0⟩ :=
  loop_ok (A := A_passkeyref1_Words) (done := [2]) (c0 := (Tryd.f32.body.getD .skip)) hmix passkeyref1_Words_env (done_cons rfl passkeyref1_Words_L2_ok done_nil) rounds (by kernel_rfl) (by kernel_rfl) (fun x => passkeyref1_Words_L0_eq x.1 x.2.1 x.2.2.1) (fun _ => rfl)

theorem passkeyref1_Words_ok : SoundT Tryd.prog cd gdn 32 S_passkeyref1_Words :=
  sound_fn (E := E_passkeyref1_Words) (A := A_passkeyref1_Words) (done := [2, 0]) (c := (Tryd.f32.body.getD .skip)) (S := S_passkeyref1_Words) (fn := Tryd.f32) hmix passkeyref1_Words_env Tryd.func32 rfl (by kernel_rfl) (by kernel_rfl) (done_cons rfl passkeyref1_Words_L2_ok (done_cons rfl passkeyref1_Words_L0_ok done_nil)) (by kernel_rfl) (by kernel_rfl) passkeyref1_Words_eq

def passkeyref1_Mac (a0 : (BitVec 64)) (a1 : Int) (a2 : (List (UInt8))) : Option ((Unit) × ((BitVec 64) × Unit)) :=
 ((passkeyref1_Sum a0 (1#64 + (BitVec.ofInt 64 a1)) a2).bind fun r1 => (some ((), (r1.2.1, ()))))

def S_passkeyref1_Mac : FSpec T := ⟨[.f (.v .u64), .f (.v (.int .i64)), .f (.v (.rs 0))], [(.v .u64)], fun x => passkeyref1_Mac x.1 x.2.1 x.2.2.1⟩

def E_passkeyref1_Mac : Env T := ⟨tab.find, cd, globs, flc, fun f ds => match f with
    | 37 => some S_passkeyref1_Sum
    | _ => none, fun f => match f with
    | 37 => true
    | _ => false⟩

def A_passkeyref1_Mac : Loc2 T := ⟨fun id => match id with
    | _ => none, fun r => match r with
    | _ => none, fun r => match r with
    | _ => false⟩

theorem passkeyref1_Mac_eq (x : tySs T S_passkeyref1_Mac.ps) : run E_passkeyref1_Mac A_passkeyref1_Mac (Tryd.f31.body.getD .skip) (enterT E_passkeyref1_Mac.C S_passkeyref1_Mac.ps x) (retK E_passkeyref1_Mac Tryd.f31.results.toList S_passkeyref1_Mac.ps S_passkeyref1_Mac.rs) = S_passkeyref1_Mac.fn x := by kernel_rfl

theorem passkeyref1_Mac_env : EnvOk Tryd.prog E_passkeyref1_Mac := envOk (E := E_passkeyref1_Mac) cd_ok tys fl_ok fun f ds S h => by
    dsimp only [E_passkeyref1_Mac] at h
    split at h
    · cases h; exact passkeyref1_Sum_ok
    · cases h

theorem passkeyref1_Mac_ok : SoundT Tryd.prog cd gdn 31 S_passkeyref1_Mac :=
  sound_fn (E := E_passkeyref1_Mac) (A := A_passkeyref1_Mac) (done := []) (c := (Tryd.f31.body.getD .skip)) (S := S_passkeyref1_Mac) (fn := Tryd.f31) hmix passkeyref1_Mac_env Tryd.func31 rfl (by kernel_rfl) (by kernel_rfl) done_nil (by kernel_rfl) (by kernel_rfl) passkeyref1_Mac_eq

def passkeyref10_CheckPin (a0 : (BitVec 64)) (a1 : (BitVec 64)) : Option ((Unit) × ((BitVec 64) × Unit)) :=
 ((passkeyref1_Words ([a1] : List (BitVec 64))).bind fun r1 => ((passkeyref1_Mac a0 (8 : Int) r1.2.1).bind fun r2 => (some ((), (r2.2.1, ())))))

def S_passkeyref10_CheckPin : FSpec T := ⟨[.f (.v .u64), .f (.v .u64)], [(.v .u64)], fun x => passkeyref10_CheckPin x.1 x.2.1⟩

def E_passkeyref10_CheckPin : Env T := ⟨tab.find, cd, globs, flc, fun f ds => match f with
    | 31 => some S_passkeyref1_Mac
    | 32 => some S_passkeyref1_Words
    | _ => none, fun f => match f with
    | 31 => true
    | _ => false⟩

def A_passkeyref10_CheckPin : Loc2 T := ⟨fun id => match id with
    | _ => none, fun r => match r with
    | _ => none, fun r => match r with
    | _ => false⟩

theorem passkeyref10_CheckPin_eq (x : tySs T S_passkeyref10_CheckPin.ps) : run E_passkeyref10_CheckPin A_passkeyref10_CheckPin (Tryd.f22.body.getD .skip) (enterT E_passkeyref10_CheckPin.C S_passkeyref10_CheckPin.ps x) (retK E_passkeyref10_CheckPin Tryd.f22.results.toList S_passkeyref10_CheckPin.ps S_passkeyref10_CheckPin.rs) = S_passkeyref10_CheckPin.fn x := by kernel_rfl

theorem passkeyref10_CheckPin_env : EnvOk Tryd.prog E_passkeyref10_CheckPin := envOk (E := E_passkeyref10_CheckPin) cd_ok tys fl_ok fun f ds S h => by
    dsimp only [E_passkeyref10_CheckPin] at h
    split at h
    · cases h; exact passkeyref1_Mac_ok
    · cases h; exact passkeyref1_Words_ok
    · cases h

theorem passkeyref10_CheckPin_ok : SoundT Tryd.prog cd gdn 22 S_passkeyref10_CheckPin :=
  sound_fn (E := E_passkeyref10_CheckPin) (A := A_passkeyref10_CheckPin) (done := []) (c := (Tryd.f22.body.getD .skip)) (S := S_passkeyref10_CheckPin) (fn := Tryd.f22) hmix passkeyref10_CheckPin_env Tryd.func22 rfl (by kernel_rfl) (by kernel_rfl) done_nil (by kernel_rfl) (by kernel_rfl) passkeyref10_CheckPin_eq

def passkeylaw11_PinHashesG (k_passkeylaw11_awake : Option ((Unit) × (Bool × Unit))) (k_pin_Hash : (List UInt8) → Option ((Unit) × ((BitVec 64) × Unit))) (k_passkeyref10_HashPin : (List UInt8) → Option ((Unit) × ((BitVec 64) × Unit))) (k_pin_Check : (BitVec 64) → (BitVec 64) → Option ((Unit) × ((BitVec 64) × Unit))) (k_passkeyref10_CheckPin : (BitVec 64) → (BitVec 64) → Option ((Unit) × ((BitVec 64) × Unit))) (a0 : (List UInt8)) (a1 : (BitVec 64)) (a2 : (BitVec 64)) : Option ((Unit) × (Bool × Unit)) :=
 (bif (decide ((300 : Int) < ((a0).length : Int))) then ((k_passkeylaw11_awake).bind fun r1 => (some ((), (r1.2.1, ()))))
 else ((k_pin_Hash a0).bind fun r2 => ((k_passkeyref10_HashPin a0).bind fun r3 => (bif (decide (r2.2.1 = r3.2.1)) then ((k_pin_Check a1 a2).bind fun r4 => ((k_passkeyref10_CheckPin a1 a2).bind fun r5 => (bif (decide (r4.2.1 = r5.2.1)) then ((k_passkeylaw11_awake).bind fun r6 => (some ((), (r6.2.1, ()))))
 else (some ((), (false, ()))))))
 else (some ((), (false, ())))))))

def passkeylaw11_PinHashes (a0 : (List UInt8)) (a1 : (BitVec 64)) (a2 : (BitVec 64)) : Option ((Unit) × (Bool × Unit)) := passkeylaw11_PinHashesG passkeylaw11_awake pin_Hash passkeyref10_HashPin pin_Check passkeyref10_CheckPin a0 a1 a2

def S_passkeylaw11_PinHashes : FSpec T := ⟨[.f (.v .str), .f (.v .u64), .f (.v .u64)], [(.v .bool)], fun x => passkeylaw11_PinHashes x.1 x.2.1 x.2.2.1⟩

def EG_passkeylaw11_PinHashes (k_passkeylaw11_awake : Option ((Unit) × (Bool × Unit))) (k_pin_Hash : (List UInt8) → Option ((Unit) × ((BitVec 64) × Unit))) (k_passkeyref10_HashPin : (List UInt8) → Option ((Unit) × ((BitVec 64) × Unit))) (k_pin_Check : (BitVec 64) → (BitVec 64) → Option ((Unit) × ((BitVec 64) × Unit))) (k_passkeyref10_CheckPin : (BitVec 64) → (BitVec 64) → Option ((Unit) × ((BitVec 64) × Unit))) : Env T := ⟨tab.find, cd, globs, flc, fun f ds => match f with
    | 14 => some ⟨S_passkeylaw11_awake.ps, S_passkeylaw11_awake.rs, fun x => k_passkeylaw11_awake ⟩
    | 19 => some ⟨S_pin_Hash.ps, S_pin_Hash.rs, fun x => k_pin_Hash x.1⟩
    | 20 => some ⟨S_passkeyref10_HashPin.ps, S_passkeyref10_HashPin.rs, fun x => k_passkeyref10_HashPin x.1⟩
    | 21 => some ⟨S_pin_Check.ps, S_pin_Check.rs, fun x => k_pin_Check x.1 x.2.1⟩
    | 22 => some ⟨S_passkeyref10_CheckPin.ps, S_passkeyref10_CheckPin.rs, fun x => k_passkeyref10_CheckPin x.1 x.2.1⟩
    | _ => none, fun f => match f with
    | 14 => true
    | 19 => true
    | 20 => true
    | 21 => true
    | 22 => true
    | _ => false⟩

def E_passkeylaw11_PinHashes : Env T := ⟨tab.find, cd, globs, flc, fun f ds => match f with
    | 14 => some S_passkeylaw11_awake
    | 19 => some S_pin_Hash
    | 20 => some S_passkeyref10_HashPin
    | 21 => some S_pin_Check
    | 22 => some S_passkeyref10_CheckPin
    | _ => none, fun f => match f with
    | 14 => true
    | 19 => true
    | 20 => true
    | 21 => true
    | 22 => true
    | _ => false⟩

def A_passkeylaw11_PinHashes : Loc2 T := ⟨fun id => match id with
    | _ => none, fun r => match r with
    | _ => none, fun r => match r with
    | _ => false⟩

theorem passkeylaw11_PinHashes_eqg (k_passkeylaw11_awake : Option ((Unit) × (Bool × Unit))) (k_pin_Hash : (List UInt8) → Option ((Unit) × ((BitVec 64) × Unit))) (k_passkeyref10_HashPin : (List UInt8) → Option ((Unit) × ((BitVec 64) × Unit))) (k_pin_Check : (BitVec 64) → (BitVec 64) → Option ((Unit) × ((BitVec 64) × Unit))) (k_passkeyref10_CheckPin : (BitVec 64) → (BitVec 64) → Option ((Unit) × ((BitVec 64) × Unit))) (x : tySs T S_passkeylaw11_PinHashes.ps) : run (EG_passkeylaw11_PinHashes k_passkeylaw11_awake k_pin_Hash k_passkeyref10_HashPin k_pin_Check k_passkeyref10_CheckPin) A_passkeylaw11_PinHashes (Tryd.f7.body.getD .skip) (enterT (EG_passkeylaw11_PinHashes k_passkeylaw11_awake k_pin_Hash k_passkeyref10_HashPin k_pin_Check k_passkeyref10_CheckPin).C S_passkeylaw11_PinHashes.ps x) (retK (EG_passkeylaw11_PinHashes k_passkeylaw11_awake k_pin_Hash k_passkeyref10_HashPin k_pin_Check k_passkeyref10_CheckPin) Tryd.f7.results.toList S_passkeylaw11_PinHashes.ps S_passkeylaw11_PinHashes.rs) = passkeylaw11_PinHashesG k_passkeylaw11_awake k_pin_Hash k_passkeyref10_HashPin k_pin_Check k_passkeyref10_CheckPin x.1 x.2.1 x.2.2.1 := by kernel_rfl

theorem passkeylaw11_PinHashes_eq (x : tySs T S_passkeylaw11_PinHashes.ps) : run E_passkeylaw11_PinHashes A_passkeylaw11_PinHashes (Tryd.f7.body.getD .skip) (enterT E_passkeylaw11_PinHashes.C S_passkeylaw11_PinHashes.ps x) (retK E_passkeylaw11_PinHashes Tryd.f7.results.toList S_passkeylaw11_PinHashes.ps S_passkeylaw11_PinHashes.rs) = S_passkeylaw11_PinHashes.fn x := passkeylaw11_PinHashes_eqg passkeylaw11_awake pin_Hash passkeyref10_HashPin pin_Check passkeyref10_CheckPin x

theorem passkeylaw11_PinHashes_env : EnvOk Tryd.prog E_passkeylaw11_PinHashes := envOk (E := E_passkeylaw11_PinHashes) cd_ok tys fl_ok fun f ds S h => by
    dsimp only [E_passkeylaw11_PinHashes] at h
    split at h
    · cases h; exact passkeylaw11_awake_ok
    · cases h; exact pin_Hash_ok
    · cases h; exact passkeyref10_HashPin_ok
    · cases h; exact pin_Check_ok
    · cases h; exact passkeyref10_CheckPin_ok
    · cases h

theorem passkeylaw11_PinHashes_ok : SoundT Tryd.prog cd gdn 7 S_passkeylaw11_PinHashes :=
  sound_fn (E := E_passkeylaw11_PinHashes) (A := A_passkeylaw11_PinHashes) (done := []) (c := (Tryd.f7.body.getD .skip)) (S := S_passkeylaw11_PinHashes) (fn := Tryd.f7) hmix passkeylaw11_PinHashes_env Tryd.func7 rfl (by kernel_rfl) (by kernel_rfl) done_nil (by kernel_rfl) (by kernel_rfl) passkeylaw11_PinHashes_eq

def PinHashes_dom (a0 : (List UInt8)) (a1 : (BitVec 64)) (a2 : (BitVec 64)) : Prop := ArgD cd [.str, .u64, .u64] (a0, a1, a2, ())
end Go.Proofs.YtlbafgkhnhkanaaDoor

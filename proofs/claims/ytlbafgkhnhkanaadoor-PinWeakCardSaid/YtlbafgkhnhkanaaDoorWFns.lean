/- The functions of the program, as plain functions, and that the program computes them. Written by a program. -/
import Derived.Test.YtlbafgkhnhkanaaDoorTyZb
import Derived.Test.YtlbafgkhnhkanaaDoorTyZd
import Derived.Test.YtlbafgkhnhkanaaDoorLay
import Derived.Test.YtlbafgkhnhkanaaDoorProg
import Derived.WalkKit
set_option linter.unusedVariables false
set_option maxRecDepth 100000
namespace Go.Proofs.YtlbafgkhnhkanaaDoor
open Go Go.Abs
structure ApiPin where
  set : Bool
  check : BitVec 64
  retries : Int
  wrong : Int
  deriving DecidableEq, Inhabited

abbrev T : Nat → Type
  | 0 => UInt8
  | 1 => ApiPin
  | 2 => List UInt8
  | _ => Unit

def lfs : Nat → List Lf
  | 0 => [.u8]
  | 1 => [.bool, .u64, .int .i64, .int .i64]
  | 2 => [.str]
  | _ => []

def to0 (x : UInt8) : tyLs T (lfs 0) := (x, ())
def of0 (y : tyLs T (lfs 0)) : UInt8 := y.1
def eD0 (x : UInt8) : List D := [.int .u8 x.toNat]
def to1 (x : ApiPin) : tyLs T (lfs 1) := (x.set, x.check, x.retries, x.wrong, ())
def of1 (y : tyLs T (lfs 1)) : ApiPin := ⟨y.1, y.2.1, y.2.2.1, y.2.2.2.1⟩
def eD1 (x : ApiPin) : List D := [.bool x.set, .int .u64 x.check.toNat, .int .i64 x.retries, .int .i64 x.wrong]
def to2 (x : List UInt8) : tyLs T (lfs 2) := (x, ())
def of2 (y : tyLs T (lfs 2)) : List UInt8 := y.1
def eD2 (x : List UInt8) : List D := [.str x]
def cd : Cd T where
  sz := fun c => match c with
    | 0 => 1
    | 1 => 4
    | 2 => 1
    | _ => 0
  encD := fun c x => match c, x with
    | 0, x => eD0 x
    | 1, x => eD1 x
    | 2, x => eD2 x
    | _, _ => []
  enc := fun c x => match c, x with
    | 0, x => encL (lfs 0) (to0 x)
    | 1, x => encL (lfs 1) (to1 x)
    | 2, x => encL (lfs 2) (to2 x)
    | _, _ => []
  dec := fun c ds => match c with
    | 0 => (decL (lfs 0) ds).map of0
    | 1 => (decL (lfs 1) ds).map of1
    | 2 => (decL (lfs 2) ds).map of2
    | _ => none
  bt := 0
  hb := rfl

theorem cd_ok : CdOk cd where
  len := fun c => match c with
    | 0 => fun _ => rfl
    | 1 => fun _ => rfl
    | 2 => fun _ => rfl
    | _ + 3 => fun _ => rfl
  enc := fun c => match c with
    | 0 => fun _ => rfl
    | 1 => fun _ => rfl
    | 2 => fun _ => rfl
    | _ + 3 => fun _ => rfl
  epure := fun c => match c with
    | 0 => fun _ => rfl
    | 1 => fun _ => rfl
    | 2 => fun _ => rfl
    | _ + 3 => fun _ => rfl
  byte := fun _ => rfl
  bsz := rfl
  dec := fun c => match c with
    | 0 => fun ds x h => dec_ok cd (c := 0) (lfs 0) (of := of0) (e := eD0) (fun _ => rfl) ds x h
    | 1 => fun ds x h => dec_ok cd (c := 1) (lfs 1) (of := of1) (e := eD1) (fun _ => rfl) ds x h
    | 2 => fun ds x h => dec_ok cd (c := 2) (lfs 2) (of := of2) (e := eD2) (fun _ => rfl) ds x h
    | _ + 3 => fun _ _ h => by cases h


def ti3 : TI := ⟨4, 1, 8, .int .i64, [.i .i64], [], [], none⟩
def ti4 : TI := ⟨4, 1, 1, .bool, [.b], [], [], none⟩
def ti5 : TI := ⟨0, 1, 1, .int .u8, [.i .u8], [], [], none⟩
def ti9 : TI := ⟨2, 1, 16, .str, [.s], [], [], none⟩
def ti21 : TI := ⟨4, 1, 4, .int .i32, [.i .i32], [], [], none⟩
def ti24 : TI := ⟨1, 4, 32, .strct, [.b, .i .u64, .i .i64, .i .i64], [some (0, 4), some (1, 22), some (2, 3), some (3, 3)], [(0, 1), (1, 1), (2, 1), (3, 1)], some [1, 3, 3, 3]⟩
def ti28 : TI := ⟨4, 1, 8, .int .i64, [.i .i64], [], [], none⟩
def ti44 : TI := ⟨4, 1, 24, .slice 9, [.ns], [], [], none⟩
def tab : Tr := .node (.node (.node (.node .leaf 3 ti3 .leaf) 4 ti4 .leaf) 5 ti5 (.node .leaf 9 ti9 .leaf)) 21 ti21 (.node (.node .leaf 24 ti24 .leaf) 28 ti28 (.node .leaf 44 ti44 .leaf))

def globs : Nat → Option (List (DT T)) := fun g => match g with
  | 0 => some (Lib.firstTab.map fun z => DT.int .u8 z)
  | 1 => some (((List.range 16).flatMap fun i => [((Lib.accLo i : Nat) : Int), ((Lib.accHi i : Nat) : Int)]).map fun z => DT.int .u8 z)
  | _ => none
def flc : Nat → Bool := fun c => match c with
  | 0 => true
  | 1 => true
  | 2 => true
  | _ => false
theorem hmix : Tryd.prog.follows .mixedOrders = true := by kernel_rfl
theorem tys : TysOk Tryd.prog tab.find := tys_ok (by kernel_rfl)
abbrev gdn : Nat → Option (List D) := fun g => (globs g).map (denL cd)
theorem fl_ok : FlOk cd flc := fun c => match c with
  | 0 => fun h _ => rfl
  | 1 => fun h _ => rfl
  | 2 => fun h _ => rfl
  | _ + 3 => fun h _ => by cases h

def accTab : List Int := (List.range 16).flatMap fun i => [Lib.accLo i, Lib.accHi i]
theorem gdn0 : gdn 0 = some (tabD .u8 Lib.firstTab) := by
  show some (denL cd _) = _
  rw [denL_map]
  simp [tabD, den, Function.comp_def]
theorem gdn1 : gdn 1 = some (tabD .u8 accTab) := by
  show some (denL cd _) = _
  rw [denL_map]
  simp [tabD, den, Function.comp_def, accTab]
theorem acc_lo : ∀ i : Fin 16, accTab[2 * i.val]? = some ((Lib.accLo i.val : Nat) : Int) := by decide
theorem acc_hi : ∀ i : Fin 16, accTab[2 * i.val + 1]? = some ((Lib.accHi i.val : Nat) : Int) := by decide
theorem tabs_of {I : Nat → Prop} {w : World} (h : Glob gdn I w) : Lib.Utf8Tabs 0 1 w := by
  refine ⟨fun c hc => glob_tab (h 0 _ gdn0).2 (by simp [Lib.firstTab, hc]), fun i hi => ⟨?_, ?_⟩⟩
  · exact glob_tab (h 1 _ gdn1).2 (acc_lo ⟨i, hi⟩)
  · exact glob_tab (h 1 _ gdn1).2 (acc_hi ⟨i, hi⟩)
theorem glob_of {w : World} (h : Lib.Utf8Tabs 0 1 w) (h0 : 0 < w.heap.size) (h1 : 1 < w.heap.size) : Glob gdn (All w) w := by
  intro g cs e
  match g, e with
  | 0, e =>
    rw [gdn0] at e; cases e
    refine ⟨h0, tab_glob fun i n hn => ?_⟩
    have hi : i < 256 := by
      have := (List.getElem?_eq_some_iff.1 hn).1
      simpa [Lib.firstTab] using this
    have e2 : Lib.firstTab[i]? = some ((Lib.firstT i : Nat) : Int) := by simp [Lib.firstTab, hi]
    rw [hn] at e2; cases e2
    exact h.1 i hi
  | 1, e =>
    rw [gdn1] at e; cases e
    refine ⟨h1, tab_glob fun i n hn => ?_⟩
    have hi : i < 32 := by
      have := (List.getElem?_eq_some_iff.1 hn).1
      have e : accTab.length = 32 := by decide
      omega
    rcases Nat.mod_two_eq_zero_or_one i with hm | hm
    · have e3 : i = 2 * (i / 2) := by omega
      have e2 := acc_lo ⟨i / 2, by omega⟩
      simp only at e2
      rw [← e3, hn] at e2; cases e2
      have := (h.2 (i / 2) (by omega)).1
      rwa [← e3] at this
    · have e3 : i = 2 * (i / 2) + 1 := by omega
      have e2 := acc_hi ⟨i / 2, by omega⟩
      simp only at e2
      rw [← e3, hn] at e2; cases e2
      have := (h.2 (i / 2) (by omega)).2
      rwa [← e3] at this
  | n + 2, e => cases e
def utf8_ValidString (a0 : List UInt8) : Option (Unit × (Bool × Unit)) := bif decide (a0.length ≤ 9223372036854775807) then some ((), Lib.validD a0, ()) else none
def S_utf8_ValidString : FSpec T := ⟨[.f (.v .str)], [.v .bool], fun x => utf8_ValidString x.1⟩
theorem utf8_ValidString_ok : SoundT Tryd.prog cd gdn 23 S_utf8_ValidString := by
  refine sound_below (vts := [.str]) (rts := [.bool]) ⟨_, Tryd.func23, by kernel_rfl, by kernel_rfl⟩ fun I own w args x r hG hv hF => ?_
  obtain ⟨v, vr, _, _, rfl, h1, rfl, _⟩ := hv
  change V I w (.str x.1) free v at h1
  simp only [V] at h1
  subst h1
  change utf8_ValidString x.1 = some r at hF
  unfold utf8_ValidString at hF
  by_cases hs : x.1.length ≤ 9223372036854775807
  · simp only [hs, decide_true, cond_true] at hF
    have hr := Option.some.inj hF
    subst hr
    refine ⟨[.bool (Lib.validD x.1)], fun I' w' => ⟨_, _, none', none', rfl, (show V I' w' (.bool (Lib.validD x.1)) free _ by simp [V]), rfl, fun _ h => h, fun _ h => h, fun _ h => h.elim⟩, ?_⟩
    exact (Any.utf8_ValidString Tryd.lays196 ⟨x.1.toArray⟩ w (by rw [show ByteArray.size ⟨List.toArray x.1⟩ = List.length x.1 from List.size_toArray]; exact hs) (tabs_of hG)).mono fun e w' h => ⟨h.1, h.2⟩
  · simp [hs] at hF
def strings_IndexByte (a0 : List UInt8) (a1 : UInt8) : Option (Unit × (Int × Unit)) := some ((), Lib.indexByte a0 a1, ())
def S_strings_IndexByte : FSpec T := ⟨[.f (.v .str), .f (.v .u8)], [.v (.int .i64)], fun x => strings_IndexByte x.1 x.2.1⟩
theorem strings_IndexByte_ok : SoundT Tryd.prog cd gdn 24 S_strings_IndexByte := by
  refine sound_below (vts := [.str, .u8]) (rts := [.int .i64]) ⟨_, Tryd.func24, by kernel_rfl, by kernel_rfl⟩ fun I own w args x r hG hv hF => ?_
  obtain ⟨v, vr, _, _, rfl, h1, ⟨v2, vr2, _, _, rfl, h2, rfl, _⟩, _⟩ := hv
  change V I w (.str x.1) free v at h1
  change V I w (.int .u8 x.2.1.toNat) free v2 at h2
  simp only [V] at h1 h2
  subst h1; subst h2
  change strings_IndexByte x.1 x.2.1 = some r at hF
  unfold strings_IndexByte at hF
  have hr := Option.some.inj hF
  subst hr
  refine ⟨[.int .i64 (Lib.indexByte x.1 x.2.1)], fun I' w' => ⟨_, _, none', none', rfl, (show V I' w' (.int .i64 (Lib.indexByte x.1 x.2.1)) free _ by simp [V]), rfl, fun _ h => h, fun _ h => h, fun _ h => h.elim⟩, ?_⟩
  refine (Any.strings_IndexByte Tryd.lays137 ⟨x.1.toArray⟩ (x.2.1.toNat : Int) w).mono fun e w' h => ?_
  obtain ⟨rfl, rfl⟩ := h
  refine ⟨?_, RowKit.Below.refl _ _⟩
  exact congrArg (fun q => Ending.returned (.int .i64 (Lib.indexByte _ q))) UInt8.ofNat_toNat

def utf8_RuneCountInString (a0 : List UInt8) : Option (Unit × (Int × Unit)) := bif decide (a0.length < 9223372036854775807) then some ((), (Lib.runeCount ⟨a0.toArray⟩ : Int), ()) else none
def S_utf8_RuneCountInString : FSpec T := ⟨[.f (.v .str)], [.v (.int .i64)], fun x => utf8_RuneCountInString x.1⟩
theorem utf8_RuneCountInString_ok : SoundT Tryd.prog cd gdn 25 S_utf8_RuneCountInString := by
  refine sound_below (vts := [.str]) (rts := [.int .i64]) ⟨_, Tryd.func25, by kernel_rfl, by kernel_rfl⟩ fun I own w args x r hG hv hF => ?_
  obtain ⟨v, vr, _, _, rfl, h1, rfl, _⟩ := hv
  change V I w (.str x.1) free v at h1
  simp only [V] at h1
  subst h1
  change utf8_RuneCountInString x.1 = some r at hF
  unfold utf8_RuneCountInString at hF
  by_cases hs : x.1.length < 9223372036854775807
  · simp only [hs, decide_true, cond_true] at hF
    have hr := Option.some.inj hF
    subst hr
    refine ⟨[.int .i64 (Lib.runeCount ⟨x.1.toArray⟩ : Int)], fun I' w' => ⟨_, _, none', none', rfl, (show V I' w' (.int .i64 (Lib.runeCount ⟨x.1.toArray⟩ : Int)) free _ by simp [V]), rfl, fun _ h => h, fun _ h => h, fun _ h => h.elim⟩, ?_⟩
    refine (Any.utf8_RuneCountInString Tryd.lays195 ⟨x.1.toArray⟩ w (by rw [show ByteArray.size ⟨List.toArray x.1⟩ = List.length x.1 from List.size_toArray]; exact hs)).mono fun e w' h => ?_
    obtain ⟨he, pos, rfl⟩ := h
    exact ⟨he, (RowKit.Below.refl _ w).alloc (Nat.le_refl _) _⟩
  · simp [hs] at hF
def utf8_DecodeRuneInString (a0 : List UInt8) : Option (Unit × (Int × Int × Unit)) := some ((), ((Lib.decodeGo ⟨a0.toArray⟩).1 : Int), ((Lib.decodeGo ⟨a0.toArray⟩).2 : Int), ())
def S_utf8_DecodeRuneInString : FSpec T := ⟨[.f (.v .str)], [.v (.int .i32), .v (.int .i64)], fun x => utf8_DecodeRuneInString x.1⟩
theorem utf8_DecodeRuneInString_ok : SoundT Tryd.prog cd gdn 26 S_utf8_DecodeRuneInString := by
  refine sound_below (vts := [.str]) (rts := [.int .i32, .int .i64]) ⟨_, Tryd.func26, by kernel_rfl, by kernel_rfl⟩ fun I own w args x r hG hv hF => ?_
  obtain ⟨v, vr, _, _, rfl, h1, rfl, _⟩ := hv
  change V I w (.str x.1) free v at h1
  simp only [V] at h1
  subst h1
  change utf8_DecodeRuneInString x.1 = some r at hF
  unfold utf8_DecodeRuneInString at hF
  have hr := Option.some.inj hF
  subst hr
  refine ⟨[.int .i32 ((Lib.decodeGo ⟨x.1.toArray⟩).1 : Int), .int .i64 ((Lib.decodeGo ⟨x.1.toArray⟩).2 : Int)], fun I' w' => ⟨_, _, none', none', rfl, (show V I' w' (.int .i32 ((Lib.decodeGo ⟨x.1.toArray⟩).1 : Int)) free _ by simp [V]), ⟨_, _, none', none', rfl, (show V I' w' (.int .i64 ((Lib.decodeGo ⟨x.1.toArray⟩).2 : Int)) free _ by simp [V]), rfl, fun _ h => h, fun _ h => h, fun _ h => h.elim⟩, fun _ h => h, fun _ h => h, fun _ h => h.elim⟩, ?_⟩
  exact (Any.utf8_DecodeRuneInString Tryd.lays197 ⟨x.1.toArray⟩ w (tabs_of hG)).mono fun e w' h => ⟨h.1, h.2⟩
def pin_New (a0 : (BitVec 64)) : Option ((Unit) × (ApiPin × Unit)) :=
 (some ((), ((⟨true, a0, (8 : Int), (0 : Int)⟩ : ApiPin), ())))

def S_pin_New : FSpec T := ⟨[.f (.v .u64)], [(.v (.agg 1))], fun x => pin_New x.1⟩

def E_pin_New : Env T := ⟨tab.find, cd, globs, flc, fun f ds => match f with
    | _ => none, fun f => match f with
    | _ => false⟩

def A_pin_New : Loc2 T := ⟨fun id => match id with
    | _ => none, fun r => match r with
    | _ => none, fun r => match r with
    | _ => false⟩

theorem pin_New_eq (x : tySs T S_pin_New.ps) : run E_pin_New A_pin_New (Tryd.f12.body.getD .skip) (enterT E_pin_New.C S_pin_New.ps x) (retK E_pin_New Tryd.f12.results.toList S_pin_New.ps S_pin_New.rs) = S_pin_New.fn x := by kernel_rfl

theorem pin_New_env : EnvOk Tryd.prog E_pin_New := envOk (E := E_pin_New) cd_ok tys fl_ok fun f ds S h => by cases h

theorem pin_New_ok : SoundT Tryd.prog cd gdn 12 S_pin_New :=
  sound_fn (E := E_pin_New) (A := A_pin_New) (done := []) (c := (Tryd.f12.body.getD .skip)) (S := S_pin_New) (fn := Tryd.f12) hmix pin_New_env Tryd.func12 rfl (by kernel_rfl) (by kernel_rfl) done_nil (by kernel_rfl) (by kernel_rfl) pin_New_eq

def pin_Charge (a0 : ApiPin) : Option ((Unit) × (ApiPin × Int × Unit)) :=
 (bif (!a0.set) then (some ((), ((⟨false, 0#64, (0 : Int), (0 : Int)⟩ : ApiPin), (25 : Int), ())))
 else (bif (decide (a0.retries < (1 : Int))) then (some ((), ((⟨false, 0#64, (0 : Int), (0 : Int)⟩ : ApiPin), (27 : Int), ())))
 else (bif (decide ((3 : Int) ≤ a0.wrong)) then (some ((), ((⟨false, 0#64, (0 : Int), (0 : Int)⟩ : ApiPin), (28 : Int), ())))
 else (some ((), ((⟨a0.set, a0.check, (IntKind.wrap .i64 (a0.retries - (1 : Int))), a0.wrong⟩ : ApiPin), (0 : Int), ()))))))

def S_pin_Charge : FSpec T := ⟨[.f (.v (.agg 1))], [(.v (.agg 1)), (.v (.int .i64))], fun x => pin_Charge x.1⟩

def E_pin_Charge : Env T := ⟨tab.find, cd, globs, flc, fun f ds => match f with
    | _ => none, fun f => match f with
    | _ => false⟩

def A_pin_Charge : Loc2 T := ⟨fun id => match id with
    | _ => none, fun r => match r with
    | _ => none, fun r => match r with
    | _ => false⟩

theorem pin_Charge_eq (x : tySs T S_pin_Charge.ps) : run E_pin_Charge A_pin_Charge (Tryd.f8.body.getD .skip) (enterT E_pin_Charge.C S_pin_Charge.ps x) (retK E_pin_Charge Tryd.f8.results.toList S_pin_Charge.ps S_pin_Charge.rs) = S_pin_Charge.fn x := by kernel_rfl

theorem pin_Charge_env : EnvOk Tryd.prog E_pin_Charge := envOk (E := E_pin_Charge) cd_ok tys fl_ok fun f ds S h => by cases h

theorem pin_Charge_ok : SoundT Tryd.prog cd gdn 8 S_pin_Charge :=
  sound_fn (E := E_pin_Charge) (A := A_pin_Charge) (done := []) (c := (Tryd.f8.body.getD .skip)) (S := S_pin_Charge) (fn := Tryd.f8) hmix pin_Charge_env Tryd.func8 rfl (by kernel_rfl) (by kernel_rfl) done_nil (by kernel_rfl) (by kernel_rfl) pin_Charge_eq

def pin_Settle (a0 : ApiPin) (a1 : Bool) : Option ((Unit) × (ApiPin × Int × Unit)) :=
 (bif a1 then (some ((), ((⟨a0.set, a0.check, (8 : Int), (0 : Int)⟩ : ApiPin), (0 : Int), ())))
 else (let v1 : Int := (bif decide ((2 : Int) < a0.wrong) then (2 : Int) else a0.wrong)
 (bif (decide (a0.retries < (1 : Int))) then (some ((), ((⟨a0.set, a0.check, a0.retries, (IntKind.wrap .i64 (v1 + (1 : Int)))⟩ : ApiPin), (27 : Int), ())))
 else (bif (decide ((3 : Int) ≤ (IntKind.wrap .i64 (v1 + (1 : Int))))) then (some ((), ((⟨a0.set, a0.check, a0.retries, (IntKind.wrap .i64 (v1 + (1 : Int)))⟩ : ApiPin), (28 : Int), ())))
 else (some ((), ((⟨a0.set, a0.check, a0.retries, (IntKind.wrap .i64 (v1 + (1 : Int)))⟩ : ApiPin), (24 : Int), ())))))))

def S_pin_Settle : FSpec T := ⟨[.f (.v (.agg 1)), .f (.v .bool)], [(.v (.agg 1)), (.v (.int .i64))], fun x => pin_Settle x.1 x.2.1⟩

def E_pin_Settle : Env T := ⟨tab.find, cd, globs, flc, fun f ds => match f with
    | _ => none, fun f => match f with
    | _ => false⟩

def A_pin_Settle : Loc2 T := ⟨fun id => match id with
    | _ => none, fun r => match r with
    | _ => none, fun r => match r with
    | _ => false⟩

theorem pin_Settle_eq (x : tySs T S_pin_Settle.ps) : run E_pin_Settle A_pin_Settle (Tryd.f10.body.getD .skip) (enterT E_pin_Settle.C S_pin_Settle.ps x) (retK E_pin_Settle Tryd.f10.results.toList S_pin_Settle.ps S_pin_Settle.rs) = S_pin_Settle.fn x := by kernel_rfl

theorem pin_Settle_env : EnvOk Tryd.prog E_pin_Settle := envOk (E := E_pin_Settle) cd_ok tys fl_ok fun f ds S h => by cases h

theorem pin_Settle_ok : SoundT Tryd.prog cd gdn 10 S_pin_Settle :=
  sound_fn (E := E_pin_Settle) (A := A_pin_Settle) (done := []) (c := (Tryd.f10.body.getD .skip)) (S := S_pin_Settle) (fn := Tryd.f10) hmix pin_Settle_env Tryd.func10 rfl (by kernel_rfl) (by kernel_rfl) done_nil (by kernel_rfl) (by kernel_rfl) pin_Settle_eq

def pin_Weak_L0b (y0 : Int) (y1 : Int) (y2 : Bool) (y3 : (List UInt8 × Nat)) : Option ((Int × Int × Bool × (List UInt8 × Nat) × Unit) ⊕ (Int × Bool × Unit)) :=
 (bif decide (y3.2 < (y3.1).length) then (let v3 : Nat := (y3.2 + (Utf8.decode ⟨(y3.1).toArray⟩ y3.2).2)
 ((bif (decide ((y3.2 : Int) = (0 : Int))) then (some (((Utf8.decode ⟨(y3.1).toArray⟩ y3.2).1 : Int), y1, y2, ((Utf8.decode ⟨(y3.1).toArray⟩ y3.2).1 : Int), (y3.1, v3), ()))
 else (some (y0, y1, y2, ((Utf8.decode ⟨(y3.1).toArray⟩ y3.2).1 : Int), (y3.1, v3), ()))).bind (fun (j4 : (Int × Int × Bool × Int × (List UInt8 × Nat) × Unit)) => (bif j4.2.2.1 then (some (Sum.inl (j4.1, (IntKind.wrap .i64 (j4.2.1 + (1 : Int))), (decide (j4.2.2.2.1 = j4.1)), (j4.2.2.2.2.1.1, j4.2.2.2.2.1.2), ())))
 else (some (Sum.inl (j4.1, (IntKind.wrap .i64 (j4.2.1 + (1 : Int))), false, (j4.2.2.2.2.1.1, j4.2.2.2.2.1.2), ())))))))
 else (some (Sum.inr (y1, y2, ()))))

def pin_Weak_L0 (y : (Int × Int × Bool × (List UInt8 × Nat) × Unit)) : Option (Int × Bool × Unit) := iter (fun (y : (Int × Int × Bool × (List UInt8 × Nat) × Unit)) => pin_Weak_L0b y.1 y.2.1 y.2.2.1 y.2.2.2.1) rounds y

def pin_Weak (a0 : (List UInt8)) : Option ((Unit) × (Bool × Unit)) :=
 (bif (decide (((a0).length : Int) < (4 : Int))) then (some ((), (true, ())))
 else (bif (decide ((63 : Int) < ((a0).length : Int))) then (some ((), (true, ())))
 else ((utf8_ValidString a0).bind fun r1 => (bif (!r1.2.1) then (some ((), (true, ())))
 else ((strings_IndexByte a0 (0 : UInt8)).bind fun r2 => (bif (decide ((0 : Int) ≤ r2.2.1)) then (some ((), (true, ())))
 else ((pin_Weak_L0 ((0 : Int), (0 : Int), true, (a0, 0), ())).bind (fun (z5 : (Int × Bool × Unit)) => (bif (decide (z5.1 < (4 : Int))) then (some ((), (true, ())))
 else (some ((), (z5.2.1, ()))))))))))))

def S_pin_Weak : FSpec T := ⟨[.f (.v .str)], [(.v .bool)], fun x => pin_Weak x.1⟩

def E_pin_Weak : Env T := ⟨tab.find, cd, globs, flc, fun f ds => match f with
    | 23 => some S_utf8_ValidString
    | 24 => some S_strings_IndexByte
    | _ => none, fun f => match f with
    | 23 => true
    | 24 => true
    | _ => false⟩

def A_pin_Weak : Loc2 T := ⟨fun id => match id with
    | 0 => some ⟨[(3, .f (.v (.int .i32))), (4, .f (.v (.int .i64))), (5, .f (.v .bool)), (25, .iter)], [(.exit 0, [(4, .f (.v (.int .i64))), (5, .f (.v .bool))])], pin_Weak_L0⟩
    | _ => none, fun r => match r with
    | 12 => some ([(3, .f (.v (.int .i32))), (4, .f (.v (.int .i64))), (5, .f (.v .bool)), (7, .f (.v (.int .i32))), (25, .iter)], true)
    | _ => none, fun r => match r with
    | _ => false⟩

theorem pin_Weak_L0_eq (y0 : Int) (y1 : Int) (y2 : Bool) (y3 : (List UInt8 × Nat)) : run E_pin_Weak A_pin_Weak (loopAt 0 (Tryd.f17.body.getD .skip)) (lay cd [(3, .f (.v (.int .i32))), (4, .f (.v (.int .i64))), (5, .f (.v .bool)), (25, .iter)] (y0, y1, y2, y3, ())) (roundK cd [(3, .f (.v (.int .i32))), (4, .f (.v (.int .i64))), (5, .f (.v .bool)), (25, .iter)] [(.exit 0, [(4, .f (.v (.int .i64))), (5, .f (.v .bool))])]) = pin_Weak_L0b y0 y1 y2 y3 := by kernel_rfl

theorem pin_Weak_eq (x : tySs T S_pin_Weak.ps) : run E_pin_Weak A_pin_Weak (Tryd.f17.body.getD .skip) (enterT E_pin_Weak.C S_pin_Weak.ps x) (retK E_pin_Weak Tryd.f17.results.toList S_pin_Weak.ps S_pin_Weak.rs) = S_pin_Weak.fn x := by kernel_rfl

theorem pin_Weak_env : EnvOk Tryd.prog E_pin_Weak := envOk (E := E_pin_Weak) cd_ok tys fl_ok fun f ds S h => by
    dsimp only [E_pin_Weak] at h
    split at h
    · cases h; exact utf8_ValidString_ok
    · cases h; exact strings_IndexByte_ok
    · cases h

theorem pin_Weak_L0_ok : LoopOk Tryd.prog E_pin_Weak Tryd.f17.ntmps (kqOf S_pin_Weak.ps 0) (loopAt 0 (Tryd.f17.body.getD .skip)) ⟨[(3, .f (.v (.int .i32))), (4, .f (.v (.int .i64))), (5, .f (.v .bool)), (25, .iter)], [(.exit 0, [(4, .f (.v (.int .i64))), (5, .f (.v .bool))])], pin_Weak_L0⟩ :=
  loop_ok (A := A_pin_Weak) (done := []) (c0 := (Tryd.f17.body.getD .skip)) hmix pin_Weak_env done_nil rounds (by kernel_rfl) (by kernel_rfl) (fun x => pin_Weak_L0_eq x.1 x.2.1 x.2.2.1 x.2.2.2.1) (fun _ => rfl)

theorem pin_Weak_ok : SoundT Tryd.prog cd gdn 17 S_pin_Weak :=
  sound_fn (E := E_pin_Weak) (A := A_pin_Weak) (done := [0]) (c := (Tryd.f17.body.getD .skip)) (S := S_pin_Weak) (fn := Tryd.f17) hmix pin_Weak_env Tryd.func17 rfl (by kernel_rfl) (by kernel_rfl) (done_cons rfl pin_Weak_L0_ok done_nil) (by kernel_rfl) (by kernel_rfl) pin_Weak_eq

def passkeylaw11_awake : Option ((Unit) × (Bool × Unit)) :=
 ((pin_New (7#64)).bind fun r1 => ((pin_Charge r1.2.1).bind fun r2 => ((pin_Settle r2.2.1 false).bind fun r3 => ((pin_Weak ([49, 50, 51, 52] : List UInt8)).bind fun r4 => (bif (!r4.2.1) then ((pin_Weak ([49, 49, 49, 49] : List UInt8)).bind fun r5 => (bif r5.2.1 then ((pin_Weak ([49, 50, 51] : List UInt8)).bind fun r6 => (bif r6.2.1 then (bif (decide (r2.2.2.1 = (0 : Int))) then (bif (decide (r3.2.2.1 = (24 : Int))) then (let v7 : Bool := ((r3.2.1.set == true) && (decide (r3.2.1.check = 7#64) && (decide (r3.2.1.retries = (7 : Int)) && (decide (r3.2.1.wrong = (1 : Int)) && true))))
 (some ((), (v7, ()))))
 else (some ((), (false, ()))))
 else (some ((), (false, ()))))
 else (some ((), (false, ())))))
 else (some ((), (false, ())))))
 else (some ((), (false, ()))))))))

def S_passkeylaw11_awake : FSpec T := ⟨[], [(.v .bool)], fun x => passkeylaw11_awake ⟩

def E_passkeylaw11_awake : Env T := ⟨tab.find, cd, globs, flc, fun f ds => match f with
    | 8 => some S_pin_Charge
    | 10 => some S_pin_Settle
    | 12 => some S_pin_New
    | 17 => some S_pin_Weak
    | _ => none, fun f => match f with
    | 8 => true
    | 10 => true
    | 12 => true
    | 17 => true
    | _ => false⟩

def A_passkeylaw11_awake : Loc2 T := ⟨fun id => match id with
    | _ => none, fun r => match r with
    | _ => none, fun r => match r with
    | _ => false⟩

theorem passkeylaw11_awake_eq (x : tySs T S_passkeylaw11_awake.ps) : run E_passkeylaw11_awake A_passkeylaw11_awake (Tryd.f14.body.getD .skip) (enterT E_passkeylaw11_awake.C S_passkeylaw11_awake.ps x) (retK E_passkeylaw11_awake Tryd.f14.results.toList S_passkeylaw11_awake.ps S_passkeylaw11_awake.rs) = S_passkeylaw11_awake.fn x := by kernel_rfl

theorem passkeylaw11_awake_env : EnvOk Tryd.prog E_passkeylaw11_awake := envOk (E := E_passkeylaw11_awake) cd_ok tys fl_ok fun f ds S h => by
    dsimp only [E_passkeylaw11_awake] at h
    split at h
    · cases h; exact pin_Charge_ok
    · cases h; exact pin_Settle_ok
    · cases h; exact pin_New_ok
    · cases h; exact pin_Weak_ok
    · cases h

theorem passkeylaw11_awake_ok : SoundT Tryd.prog cd gdn 14 S_passkeylaw11_awake :=
  sound_fn (E := E_passkeylaw11_awake) (A := A_passkeylaw11_awake) (done := []) (c := (Tryd.f14.body.getD .skip)) (S := S_passkeylaw11_awake) (fn := Tryd.f14) hmix passkeylaw11_awake_env Tryd.func14 rfl (by kernel_rfl) (by kernel_rfl) done_nil (by kernel_rfl) (by kernel_rfl) passkeylaw11_awake_eq

def passkeybase_Pin (a0 : Int) : Option ((Unit) × ((List UInt8) × Unit)) :=
 (let v1 : List (List UInt8) := ([([49, 50, 51, 52] : List UInt8), ([53, 54, 55, 56, 97] : List UInt8), ([195, 169, 195, 168, 195, 169, 195, 168] : List UInt8), ([48, 48, 48, 48, 48, 48, 48, 48, 48, 49] : List UInt8)] : List (List UInt8))
 (let v2 : Int := (IntKind.wrap .i64 ((BitVec.ofInt (IntKind.bits .i64) a0 &&& BitVec.ofInt (IntKind.bits .i64) (3 : Int)).toNat : Int))
 (bif (decide ((0 : Int) ≤ v2) && decide (v2 < (4 : Int))) then (((v1)[(v2).toNat]?).bind fun x3 => (some ((), (x3, ()))))
 else none)))

def S_passkeybase_Pin : FSpec T := ⟨[.f (.v (.int .i64))], [(.v .str)], fun x => passkeybase_Pin x.1⟩

def E_passkeybase_Pin : Env T := ⟨tab.find, cd, globs, flc, fun f ds => match f with
    | _ => none, fun f => match f with
    | _ => false⟩

def A_passkeybase_Pin : Loc2 T := ⟨fun id => match id with
    | _ => none, fun r => match r with
    | _ => none, fun r => match r with
    | _ => false⟩

theorem passkeybase_Pin_eq (x : tySs T S_passkeybase_Pin.ps) : run E_passkeybase_Pin A_passkeybase_Pin (Tryd.f15.body.getD .skip) (enterT E_passkeybase_Pin.C S_passkeybase_Pin.ps x) (retK E_passkeybase_Pin Tryd.f15.results.toList S_passkeybase_Pin.ps S_passkeybase_Pin.rs) = S_passkeybase_Pin.fn x := by kernel_rfl

theorem passkeybase_Pin_env : EnvOk Tryd.prog E_passkeybase_Pin := envOk (E := E_passkeybase_Pin) cd_ok tys fl_ok fun f ds S h => by cases h

theorem passkeybase_Pin_ok : SoundT Tryd.prog cd gdn 15 S_passkeybase_Pin :=
  sound_fn (E := E_passkeybase_Pin) (A := A_passkeybase_Pin) (done := []) (c := (Tryd.f15.body.getD .skip)) (S := S_passkeybase_Pin) (fn := Tryd.f15) hmix passkeybase_Pin_env Tryd.func15 rfl (by kernel_rfl) (by kernel_rfl) done_nil (by kernel_rfl) (by kernel_rfl) passkeybase_Pin_eq

def passkeybase_Text (a0 : Int) : Option ((Unit) × ((List UInt8) × Unit)) :=
 (let v1 : List (List UInt8) := ([([] : List UInt8), ([97] : List UInt8), ([98] : List UInt8), ([108, 111, 103, 105, 110] : List UInt8), ([107, 101, 121] : List UInt8), ([101, 120, 97, 109, 112, 108, 101, 46, 111, 114, 103] : List UInt8), ([195, 169] : List UInt8), ([48, 49, 50, 51, 52, 53, 54, 55, 56, 57, 48, 49, 50, 51, 52, 53] : List UInt8)] : List (List UInt8))
 (let v2 : Int := (IntKind.wrap .i64 ((BitVec.ofInt (IntKind.bits .i64) a0 &&& BitVec.ofInt (IntKind.bits .i64) (7 : Int)).toNat : Int))
 (bif (decide ((0 : Int) ≤ v2) && decide (v2 < (8 : Int))) then (((v1)[(v2).toNat]?).bind fun x3 => (let v4 : Int := (IntKind.wrap .i64 ((BitVec.ofInt (IntKind.bits .i64) (Int.fdiv a0 (2 ^ (min 3 (IntKind.bits .i64)))) &&& BitVec.ofInt (IntKind.bits .i64) (7 : Int)).toNat : Int))
 (bif (decide ((0 : Int) ≤ v4) && decide (v4 < (8 : Int))) then (((v1)[(v4).toNat]?).bind fun x5 => (bif Nat.ble ((x3).length + (x5).length) 9223372036854775807 then (some ((), ((x3 ++ x5), ())))
 else none))
 else none)))
 else none)))

def S_passkeybase_Text : FSpec T := ⟨[.f (.v (.int .i64))], [(.v .str)], fun x => passkeybase_Text x.1⟩

def E_passkeybase_Text : Env T := ⟨tab.find, cd, globs, flc, fun f ds => match f with
    | _ => none, fun f => match f with
    | _ => false⟩

def A_passkeybase_Text : Loc2 T := ⟨fun id => match id with
    | _ => none, fun r => match r with
    | _ => none, fun r => match r with
    | _ => false⟩

theorem passkeybase_Text_eq (x : tySs T S_passkeybase_Text.ps) : run E_passkeybase_Text A_passkeybase_Text (Tryd.f16.body.getD .skip) (enterT E_passkeybase_Text.C S_passkeybase_Text.ps x) (retK E_passkeybase_Text Tryd.f16.results.toList S_passkeybase_Text.ps S_passkeybase_Text.rs) = S_passkeybase_Text.fn x := by kernel_rfl

theorem passkeybase_Text_env : EnvOk Tryd.prog E_passkeybase_Text := envOk (E := E_passkeybase_Text) cd_ok tys fl_ok fun f ds S h => by cases h

theorem passkeybase_Text_ok : SoundT Tryd.prog cd gdn 16 S_passkeybase_Text :=
  sound_fn (E := E_passkeybase_Text) (A := A_passkeybase_Text) (done := []) (c := (Tryd.f16.body.getD .skip)) (S := S_passkeybase_Text) (fn := Tryd.f16) hmix passkeybase_Text_env Tryd.func16 rfl (by kernel_rfl) (by kernel_rfl) done_nil (by kernel_rfl) (by kernel_rfl) passkeybase_Text_eq

def passkeyref10_Weak_L0b (y0 : Int) (y1 : Bool) (y2 : (List UInt8 × Nat)) : Option ((Int × Bool × (List UInt8 × Nat) × Unit) ⊕ ((Bool × Unit) ⊕ (Bool × Unit))) :=
 (bif decide (y2.2 < (y2.1).length) then (let v4 : Nat := (y2.2 + (Utf8.decode ⟨(y2.1).toArray⟩ y2.2).2)
 (bif (decide (((Utf8.decode ⟨(y2.1).toArray⟩ y2.2).1 : Int) = (0 : Int))) then (some (Sum.inr (Sum.inl (true, ()))))
 else (bif y1 then (some (Sum.inl (y0, (decide (((Utf8.decode ⟨(y2.1).toArray⟩ y2.2).1 : Int) = y0)), (y2.1, v4), ())))
 else (some (Sum.inl (y0, false, (y2.1, v4), ()))))))
 else (some (Sum.inr (Sum.inr (y1, ())))))

def passkeyref10_Weak_L0 (y : (Int × Bool × (List UInt8 × Nat) × Unit)) : Option ((Bool × Unit) ⊕ (Bool × Unit)) := iter (fun (y : (Int × Bool × (List UInt8 × Nat) × Unit)) => passkeyref10_Weak_L0b y.1 y.2.1 y.2.2.1) rounds y

def passkeyref10_Weak (a0 : (List UInt8)) : Option ((Unit) × (Bool × Unit)) :=
 (bif (decide (((a0).length : Int) < (4 : Int))) then (some ((), (true, ())))
 else (bif (decide ((63 : Int) < ((a0).length : Int))) then (some ((), (true, ())))
 else ((utf8_ValidString a0).bind fun r1 => (bif (!r1.2.1) then (some ((), (true, ())))
 else ((utf8_RuneCountInString a0).bind fun r2 => (bif (decide (r2.2.1 < (4 : Int))) then (some ((), (true, ())))
 else ((utf8_DecodeRuneInString a0).bind fun r3 => ((passkeyref10_Weak_L0 (r3.2.1, true, (a0, 0), ())).bind (Sum.elim (fun (z5 : (Bool × Unit)) => (some ((), (z5.1, ())))) (fun (z6 : (Bool × Unit)) => (some ((), (z6.1, ())))))))))))))

def S_passkeyref10_Weak : FSpec T := ⟨[.f (.v .str)], [(.v .bool)], fun x => passkeyref10_Weak x.1⟩

def E_passkeyref10_Weak : Env T := ⟨tab.find, cd, globs, flc, fun f ds => match f with
    | 23 => some S_utf8_ValidString
    | 25 => some S_utf8_RuneCountInString
    | 26 => some S_utf8_DecodeRuneInString
    | _ => none, fun f => match f with
    | 23 => true
    | 25 => true
    | 26 => true
    | _ => false⟩

def A_passkeyref10_Weak : Loc2 T := ⟨fun id => match id with
    | 0 => some ⟨[(3, .f (.v (.int .i32))), (5, .f (.v .bool)), (32, .iter)], [(.ret, [(2, .f (.v .bool))]), (.exit 0, [(5, .f (.v .bool))])], passkeyref10_Weak_L0⟩
    | _ => none, fun r => match r with
    | _ => none, fun r => match r with
    | _ => false⟩

theorem passkeyref10_Weak_L0_eq (y0 : Int) (y1 : Bool) (y2 : (List UInt8 × Nat)) : run E_passkeyref10_Weak A_passkeyref10_Weak (loopAt 0 (Tryd.f18.body.getD .skip)) (lay cd [(3, .f (.v (.int .i32))), (5, .f (.v .bool)), (32, .iter)] (y0, y1, y2, ())) (roundK cd [(3, .f (.v (.int .i32))), (5, .f (.v .bool)), (32, .iter)] [(.ret, [(2, .f (.v .bool))]), (.exit 0, [(5, .f (.v .bool))])]) = passkeyref10_Weak_L0b y0 y1 y2 := by kernel_rfl

theorem passkeyref10_Weak_eq (x : tySs T S_passkeyref10_Weak.ps) : run E_passkeyref10_Weak A_passkeyref10_Weak (Tryd.f18.body.getD .skip) (enterT E_passkeyref10_Weak.C S_passkeyref10_Weak.ps x) (retK E_passkeyref10_Weak Tryd.f18.results.toList S_passkeyref10_Weak.ps S_passkeyref10_Weak.rs) = S_passkeyref10_Weak.fn x := by kernel_rfl

theorem passkeyref10_Weak_env : EnvOk Tryd.prog E_passkeyref10_Weak := envOk (E := E_passkeyref10_Weak) cd_ok tys fl_ok fun f ds S h => by
    dsimp only [E_passkeyref10_Weak] at h
    split at h
    · cases h; exact utf8_ValidString_ok
    · cases h; exact utf8_RuneCountInString_ok
    · cases h; exact utf8_DecodeRuneInString_ok
    · cases h

theorem passkeyref10_Weak_L0_ok : LoopOk Tryd.prog E_passkeyref10_Weak Tryd.f18.ntmps (kqOf S_passkeyref10_Weak.ps 0) (loopAt 0 (Tryd.f18.body.getD .skip)) ⟨[(3, .f (.v (.int .i32))), (5, .f (.v .bool)), (32, .iter)], [(.ret, [(2, .f (.v .bool))]), (.exit 0, [(5, .f (.v .bool))])], passkeyref10_Weak_L0⟩ :=
  loop_ok (A := A_passkeyref10_Weak) (done := []) (c0 := (Tryd.f18.body.getD .skip)) hmix passkeyref10_Weak_env done_nil rounds (by kernel_rfl) (by kernel_rfl) (fun x => passkeyref10_Weak_L0_eq x.1 x.2.1 x.2.2.1) (fun _ => rfl)

theorem passkeyref10_Weak_ok : SoundT Tryd.prog cd gdn 18 S_passkeyref10_Weak :=
  sound_fn (E := E_passkeyref10_Weak) (A := A_passkeyref10_Weak) (done := [0]) (c := (Tryd.f18.body.getD .skip)) (S := S_passkeyref10_Weak) (fn := Tryd.f18) hmix passkeyref10_Weak_env Tryd.func18 rfl (by kernel_rfl) (by kernel_rfl) (done_cons rfl passkeyref10_Weak_L0_ok done_nil) (by kernel_rfl) (by kernel_rfl) passkeyref10_Weak_eq

def passkeylaw11_PinWeak_L0b (y0 : (List UInt8)) (y1 : UInt8) (y2 : UInt8) (y3 : (List UInt8)) (y4 : (List UInt8)) (y5 : Int) : Option (((List UInt8) × UInt8 × UInt8 × (List UInt8) × (List UInt8) × Int × Unit) ⊕ ((List UInt8) × (List UInt8) × (List UInt8) × Unit)) :=
 (bif decide ((70 : UInt8).toBitVec = 0) then none
 else (let v4 : Int := ((UInt8.ofBitVec (y2.toBitVec % (70 : UInt8).toBitVec)).toBitVec.toNat : Int)
 (bif (decide (y5 < v4)) then (bif decide ((3 : UInt8).toBitVec = 0) then none
 else (let v5 : UInt8 := (UInt8.ofBitVec ((UInt8.ofBitVec (y1.toBitVec % (3 : UInt8).toBitVec)).toBitVec * (UInt8.ofBitVec (BitVec.ofInt 8 y5)).toBitVec))
 (bif decide ((7 : UInt8).toBitVec = 0) then none
 else (let v6 : UInt8 := (UInt8.ofBitVec ((48 : UInt8).toBitVec + (UInt8.ofBitVec (v5.toBitVec % (7 : UInt8).toBitVec)).toBitVec))
 (bif Nat.ble ((y4).length + ((Utf8.encode (v6.toBitVec.toNat : Int)).data.toList).length) 9223372036854775807 then (some (Sum.inl (y0, y1, y2, y3, (y4 ++ (Utf8.encode (v6.toBitVec.toNat : Int)).data.toList), (IntKind.wrap .i64 (y5 + (1 : Int))), ())))
 else none)))))
 else (some (Sum.inr (y0, y3, y4, ()))))))

def passkeylaw11_PinWeak_L0 (y : ((List UInt8) × UInt8 × UInt8 × (List UInt8) × (List UInt8) × Int × Unit)) : Option ((List UInt8) × (List UInt8) × (List UInt8) × Unit) := iter (fun (y : ((List UInt8) × UInt8 × UInt8 × (List UInt8) × (List UInt8) × Int × Unit)) => passkeylaw11_PinWeak_L0b y.1 y.2.1 y.2.2.1 y.2.2.2.1 y.2.2.2.2.1 y.2.2.2.2.2.1) rounds y

def passkeylaw11_PinWeakG (k_passkeylaw11_awake : Option ((Unit) × (Bool × Unit))) (k_passkeybase_Pin : Int → Option ((Unit) × ((List UInt8) × Unit))) (k_passkeybase_Text : Int → Option ((Unit) × ((List UInt8) × Unit))) (k_pin_Weak : (List UInt8) → Option ((Unit) × (Bool × Unit))) (k_passkeyref10_Weak : (List UInt8) → Option ((Unit) × (Bool × Unit))) (l_passkeylaw11_PinWeak_L0 : ((List UInt8) × UInt8 × UInt8 × (List UInt8) × (List UInt8) × Int × Unit) → Option ((List UInt8) × (List UInt8) × (List UInt8) × Unit)) (a0 : (List UInt8)) (a1 : UInt8) (a2 : UInt8) : Option ((Unit) × (Bool × Unit)) :=
 (bif (decide ((300 : Int) < ((a0).length : Int))) then ((k_passkeylaw11_awake).bind fun r1 => (some ((), (r1.2.1, ()))))
 else ((k_passkeybase_Pin (a1.toBitVec.toNat : Int)).bind fun r2 => ((k_passkeybase_Text (a2.toBitVec.toNat : Int)).bind fun r3 => (bif Nat.ble ((r2.2.1).length + (r3.2.1).length) 9223372036854775807 then ((l_passkeylaw11_PinWeak_L0 (a0, a1, a2, (r2.2.1 ++ r3.2.1), ([] : List UInt8), (0 : Int), ())).bind (fun (z7 : ((List UInt8) × (List UInt8) × (List UInt8) × Unit)) => ((k_pin_Weak z7.1).bind fun r8 => ((k_passkeyref10_Weak z7.1).bind fun r9 => (bif (r8.2.1 == r9.2.1) then ((k_pin_Weak z7.2.1).bind fun r10 => ((k_passkeyref10_Weak z7.2.1).bind fun r11 => (bif (r10.2.1 == r11.2.1) then ((k_pin_Weak z7.2.2.1).bind fun r12 => ((k_passkeyref10_Weak z7.2.2.1).bind fun r13 => (bif (r12.2.1 == r13.2.1) then (bif Nat.ble ((z7.2.2.1).length + (([0] : List UInt8)).length) 9223372036854775807 then ((k_pin_Weak (z7.2.2.1 ++ ([0] : List UInt8))).bind fun r14 => (bif Nat.ble ((z7.2.2.1).length + (([0] : List UInt8)).length) 9223372036854775807 then ((k_passkeyref10_Weak (z7.2.2.1 ++ ([0] : List UInt8))).bind fun r15 => (bif (r14.2.1 == r15.2.1) then (bif Nat.ble ((z7.2.2.1).length + (([195, 169] : List UInt8)).length) 9223372036854775807 then ((k_pin_Weak (z7.2.2.1 ++ ([195, 169] : List UInt8))).bind fun r16 => (bif Nat.ble ((z7.2.2.1).length + (([195, 169] : List UInt8)).length) 9223372036854775807 then ((k_passkeyref10_Weak (z7.2.2.1 ++ ([195, 169] : List UInt8))).bind fun r17 => (bif (r16.2.1 == r17.2.1) then ((k_passkeylaw11_awake).bind fun r18 => (some ((), (r18.2.1, ()))))
 else (some ((), (false, ())))))
 else none))
 else none)
 else (some ((), (false, ())))))
 else none))
 else none)
 else (some ((), (false, ()))))))
 else (some ((), (false, ()))))))
 else (some ((), (false, ()))))))))
 else none))))

def passkeylaw11_PinWeak (a0 : (List UInt8)) (a1 : UInt8) (a2 : UInt8) : Option ((Unit) × (Bool × Unit)) := passkeylaw11_PinWeakG passkeylaw11_awake passkeybase_Pin passkeybase_Text pin_Weak passkeyref10_Weak passkeylaw11_PinWeak_L0 a0 a1 a2

def S_passkeylaw11_PinWeak : FSpec T := ⟨[.f (.v .str), .f (.v .u8), .f (.v .u8)], [(.v .bool)], fun x => passkeylaw11_PinWeak x.1 x.2.1 x.2.2.1⟩

def EG_passkeylaw11_PinWeak (k_passkeylaw11_awake : Option ((Unit) × (Bool × Unit))) (k_passkeybase_Pin : Int → Option ((Unit) × ((List UInt8) × Unit))) (k_passkeybase_Text : Int → Option ((Unit) × ((List UInt8) × Unit))) (k_pin_Weak : (List UInt8) → Option ((Unit) × (Bool × Unit))) (k_passkeyref10_Weak : (List UInt8) → Option ((Unit) × (Bool × Unit))) (l_passkeylaw11_PinWeak_L0 : ((List UInt8) × UInt8 × UInt8 × (List UInt8) × (List UInt8) × Int × Unit) → Option ((List UInt8) × (List UInt8) × (List UInt8) × Unit)) : Env T := ⟨tab.find, cd, globs, flc, fun f ds => match f with
    | 14 => some ⟨S_passkeylaw11_awake.ps, S_passkeylaw11_awake.rs, fun x => k_passkeylaw11_awake ⟩
    | 15 => some ⟨S_passkeybase_Pin.ps, S_passkeybase_Pin.rs, fun x => k_passkeybase_Pin x.1⟩
    | 16 => some ⟨S_passkeybase_Text.ps, S_passkeybase_Text.rs, fun x => k_passkeybase_Text x.1⟩
    | 17 => some ⟨S_pin_Weak.ps, S_pin_Weak.rs, fun x => k_pin_Weak x.1⟩
    | 18 => some ⟨S_passkeyref10_Weak.ps, S_passkeyref10_Weak.rs, fun x => k_passkeyref10_Weak x.1⟩
    | _ => none, fun f => match f with
    | 14 => true
    | 15 => true
    | 16 => true
    | 17 => true
    | 18 => true
    | _ => false⟩

def E_passkeylaw11_PinWeak : Env T := ⟨tab.find, cd, globs, flc, fun f ds => match f with
    | 14 => some S_passkeylaw11_awake
    | 15 => some S_passkeybase_Pin
    | 16 => some S_passkeybase_Text
    | 17 => some S_pin_Weak
    | 18 => some S_passkeyref10_Weak
    | _ => none, fun f => match f with
    | 14 => true
    | 15 => true
    | 16 => true
    | 17 => true
    | 18 => true
    | _ => false⟩

def A_passkeylaw11_PinWeak : Loc2 T := ⟨fun id => match id with
    | 0 => some ⟨[(0, .f (.v .str)), (1, .f (.v .u8)), (2, .f (.v .u8)), (7, .f (.v .str)), (8, .f (.v .str)), (9, .f (.v (.int .i64)))], [(.exit 0, [(0, .f (.v .str)), (7, .f (.v .str)), (8, .f (.v .str))])], passkeylaw11_PinWeak_L0⟩
    | _ => none, fun r => match r with
    | _ => none, fun r => match r with
    | _ => false⟩

def AG_passkeylaw11_PinWeak (k_passkeylaw11_awake : Option ((Unit) × (Bool × Unit))) (k_passkeybase_Pin : Int → Option ((Unit) × ((List UInt8) × Unit))) (k_passkeybase_Text : Int → Option ((Unit) × ((List UInt8) × Unit))) (k_pin_Weak : (List UInt8) → Option ((Unit) × (Bool × Unit))) (k_passkeyref10_Weak : (List UInt8) → Option ((Unit) × (Bool × Unit))) (l_passkeylaw11_PinWeak_L0 : ((List UInt8) × UInt8 × UInt8 × (List UInt8) × (List UInt8) × Int × Unit) → Option ((List UInt8) × (List UInt8) × (List UInt8) × Unit)) : Loc2 T := ⟨fun id => match id with
    | 0 => some ⟨[(0, .f (.v .str)), (1, .f (.v .u8)), (2, .f (.v .u8)), (7, .f (.v .str)), (8, .f (.v .str)), (9, .f (.v (.int .i64)))], [(.exit 0, [(0, .f (.v .str)), (7, .f (.v .str)), (8, .f (.v .str))])], l_passkeylaw11_PinWeak_L0⟩
    | _ => none, fun r => match r with
    | _ => none, fun r => match r with
    | _ => false⟩

theorem passkeylaw11_PinWeak_L0_eq (y0 : (List UInt8)) (y1 : UInt8) (y2 : UInt8) (y3 : (List UInt8)) (y4 : (List UInt8)) (y5 : Int) : run E_passkeylaw11_PinWeak A_passkeylaw11_PinWeak (loopAt 0 (Tryd.f6.body.getD .skip)) (lay cd [(0, .f (.v .str)), (1, .f (.v .u8)), (2, .f (.v .u8)), (7, .f (.v .str)), (8, .f (.v .str)), (9, .f (.v (.int .i64)))] (y0, y1, y2, y3, y4, y5, ())) (roundK cd [(0, .f (.v .str)), (1, .f (.v .u8)), (2, .f (.v .u8)), (7, .f (.v .str)), (8, .f (.v .str)), (9, .f (.v (.int .i64)))] [(.exit 0, [(0, .f (.v .str)), (7, .f (.v .str)), (8, .f (.v .str))])]) = passkeylaw11_PinWeak_L0b y0 y1 y2 y3 y4 y5 := by kernel_rfl

theorem passkeylaw11_PinWeak_eqg (k_passkeylaw11_awake : Option ((Unit) × (Bool × Unit))) (k_passkeybase_Pin : Int → Option ((Unit) × ((List UInt8) × Unit))) (k_passkeybase_Text : Int → Option ((Unit) × ((List UInt8) × Unit))) (k_pin_Weak : (List UInt8) → Option ((Unit) × (Bool × Unit))) (k_passkeyref10_Weak : (List UInt8) → Option ((Unit) × (Bool × Unit))) (l_passkeylaw11_PinWeak_L0 : ((List UInt8) × UInt8 × UInt8 × (List UInt8) × (List UInt8) × Int × Unit) → Option ((List UInt8) × (List UInt8) × (List UInt8) × Unit)) (x : tySs T S_passkeylaw11_PinWeak.ps) : run (EG_passkeylaw11_PinWeak k_passkeylaw11_awake k_passkeybase_Pin k_passkeybase_Text k_pin_Weak k_passkeyref10_Weak l_passkeylaw11_PinWeak_L0) (AG_passkeylaw11_PinWeak k_passkeylaw11_awake k_passkeybase_Pin k_passkeybase_Text k_pin_Weak k_passkeyref10_Weak l_passkeylaw11_PinWeak_L0) (Tryd.f6.body.getD .skip) (enterT (EG_passkeylaw11_PinWeak k_passkeylaw11_awake k_passkeybase_Pin k_passkeybase_Text k_pin_Weak k_passkeyref10_Weak l_passkeylaw11_PinWeak_L0).C S_passkeylaw11_PinWeak.ps x) (retK (EG_passkeylaw11_PinWeak k_passkeylaw11_awake k_passkeybase_Pin k_passkeybase_Text k_pin_Weak k_passkeyref10_Weak l_passkeylaw11_PinWeak_L0) Tryd.f6.results.toList S_passkeylaw11_PinWeak.ps S_passkeylaw11_PinWeak.rs) = passkeylaw11_PinWeakG k_passkeylaw11_awake k_passkeybase_Pin k_passkeybase_Text k_pin_Weak k_passkeyref10_Weak l_passkeylaw11_PinWeak_L0 x.1 x.2.1 x.2.2.1 := by kernel_rfl

theorem passkeylaw11_PinWeak_eq (x : tySs T S_passkeylaw11_PinWeak.ps) : run E_passkeylaw11_PinWeak A_passkeylaw11_PinWeak (Tryd.f6.body.getD .skip) (enterT E_passkeylaw11_PinWeak.C S_passkeylaw11_PinWeak.ps x) (retK E_passkeylaw11_PinWeak Tryd.f6.results.toList S_passkeylaw11_PinWeak.ps S_passkeylaw11_PinWeak.rs) = S_passkeylaw11_PinWeak.fn x := passkeylaw11_PinWeak_eqg passkeylaw11_awake passkeybase_Pin passkeybase_Text pin_Weak passkeyref10_Weak passkeylaw11_PinWeak_L0 x

theorem passkeylaw11_PinWeak_env : EnvOk Tryd.prog E_passkeylaw11_PinWeak := envOk (E := E_passkeylaw11_PinWeak) cd_ok tys fl_ok fun f ds S h => by
    dsimp only [E_passkeylaw11_PinWeak] at h
    split at h
    · cases h; exact passkeylaw11_awake_ok
    · cases h; exact passkeybase_Pin_ok
    · cases h; exact passkeybase_Text_ok
    · cases h; exact pin_Weak_ok
    · cases h; exact passkeyref10_Weak_ok
    · cases h

theorem passkeylaw11_PinWeak_L0_ok : LoopOk Tryd.prog E_passkeylaw11_PinWeak Tryd.f6.ntmps (kqOf S_passkeylaw11_PinWeak.ps 0) (loopAt 0 (Tryd.f6.body.getD .skip)) ⟨[(0, .f (.v .str)), (1, .f (.v .u8)), (2, .f (.v .u8)), (7, .f (.v .str)), (8, .f (.v .str)), (9, .f (.v (.int .i64)))], [(.exit 0, [(0, .f (.v .str)), (7, .f (.v .str)), (8, .f (.v .str))])], passkeylaw11_PinWeak_L0⟩ :=
  loop_ok (A := A_passkeylaw11_PinWeak) (done := []) (c0 := (Tryd.f6.body.getD .skip)) hmix passkeylaw11_PinWeak_env done_nil rounds (by kernel_rfl) (by kernel_rfl) (fun x => passkeylaw11_PinWeak_L0_eq x.1 x.2.1 x.2.2.1 x.2.2.2.1 x.2.2.2.2.1 x.2.2.2.2.2.1) (fun _ => rfl)

theorem passkeylaw11_PinWeak_ok : SoundT Tryd.prog cd gdn 6 S_passkeylaw11_PinWeak :=
  sound_fn (E := E_passkeylaw11_PinWeak) (A := A_passkeylaw11_PinWeak) (done := [0]) (c := (Tryd.f6.body.getD .skip)) (S := S_passkeylaw11_PinWeak) (fn := Tryd.f6) hmix passkeylaw11_PinWeak_env Tryd.func6 rfl (by kernel_rfl) (by kernel_rfl) (done_cons rfl passkeylaw11_PinWeak_L0_ok done_nil) (by kernel_rfl) (by kernel_rfl) passkeylaw11_PinWeak_eq

def PinWeak_dom (a0 : (List UInt8)) (a1 : UInt8) (a2 : UInt8) : Prop := ArgD cd [.str, .u8, .u8] (a0, a1, a2, ())
end Go.Proofs.YtlbafgkhnhkanaaDoor

/- The functions of the program, as plain functions, and that the program computes them. Written by a program. -/
import Derived.Test.YtlbafgkhnhkanaaDoorTyZb
import Derived.Test.YtlbafgkhnhkanaaDoorTyZd
import Derived.Test.YtlbafgkhnhkanaaDoorLay
import Derived.Test.YtlbafgkhnhkanaaDoorProg
import Derived.WalkKit
set_option linter.unusedVariables false
set_option maxRecDepth 100000
namespace Go.Proofs.YtlbafgkhnhkanaaDoor
open Go Go.Abs
structure ApiPin where
  set : Bool
  check : BitVec 64
  retries : Int
  wrong : Int
  deriving DecidableEq, Inhabited

abbrev T : Nat → Type
  | 0 => UInt8
  | 1 => ApiPin
  | _ => Unit

def lfs : Nat → List Lf
  | 0 => [.u8]
  | 1 => [.bool, .u64, .int .i64, .int .i64]
  | _ => []

def to0 (x : UInt8) : tyLs T (lfs 0) := (x, ())
def of0 (y : tyLs T (lfs 0)) : UInt8 := y.1
def eD0 (x : UInt8) : List D := [.int .u8 x.toNat]
def to1 (x : ApiPin) : tyLs T (lfs 1) := (x.set, x.check, x.retries, x.wrong, ())
def of1 (y : tyLs T (lfs 1)) : ApiPin := ⟨y.1, y.2.1, y.2.2.1, y.2.2.2.1⟩
def eD1 (x : ApiPin) : List D := [.bool x.set, .int .u64 x.check.toNat, .int .i64 x.retries, .int .i64 x.wrong]
def cd : Cd T where
  sz := fun c => match c with
    | 0 => 1
    | 1 => 4
    | _ => 0
  encD := fun c x => match c, x with
    | 0, x => eD0 x
    | 1, x => eD1 x
    | _, _ => []
  enc := fun c x => match c, x with
    | 0, x => encL (lfs 0) (to0 x)
    | 1, x => encL (lfs 1) (to1 x)
    | _, _ => []
  dec := fun c ds => match c with
    | 0 => (decL (lfs 0) ds).map of0
    | 1 => (decL (lfs 1) ds).map of1
    | _ => none
  bt := 0
  hb := rfl

theorem cd_ok : CdOk cd where
  len := fun c => match c with
    | 0 => fun _ => rfl
    | 1 => fun _ => rfl
    | _ + 2 => fun _ => rfl
  enc := fun c => match c with
    | 0 => fun _ => rfl
    | 1 => fun _ => rfl
    | _ + 2 => fun _ => rfl
  epure := fun c => match c with
    | 0 => fun _ => rfl
    | 1 => fun _ => rfl
    | _ + 2 => fun _ => rfl
  byte := fun _ => rfl
  bsz := rfl
  dec := fun c => match c with
    | 0 => fun ds x h => dec_ok cd (c := 0) (lfs 0) (of := of0) (e := eD0) (fun _ => rfl) ds x h
    | 1 => fun ds x h => dec_ok cd (c := 1) (lfs 1) (of := of1) (e := eD1) (fun _ => rfl) ds x h
    | _ + 2 => fun _ _ h => by cases h


def ti3 : TI := ⟨3, 1, 8, .int .i64, [.i .i64], [], [], none⟩
def ti4 : TI := ⟨3, 1, 1, .bool, [.b], [], [], none⟩
def ti5 : TI := ⟨0, 1, 1, .int .u8, [.i .u8], [], [], none⟩
def ti9 : TI := ⟨3, 1, 16, .str, [.s], [], [], none⟩
def ti21 : TI := ⟨3, 1, 4, .int .i32, [.i .i32], [], [], none⟩
def ti22 : TI := ⟨3, 1, 8, .int .u64, [.i .u64], [], [], none⟩
def ti24 : TI := ⟨1, 4, 32, .strct, [.b, .i .u64, .i .i64, .i .i64], [some (0, 4), some (1, 22), some (2, 3), some (3, 3)], [(0, 1), (1, 1), (2, 1), (3, 1)], some [1, 3, 3, 3]⟩
def ti25 : TI := ⟨3, 1, 2, .int .u16, [.i .u16], [], [], none⟩
def ti27 : TI := ⟨3, 1, 24, .slice 24, [.ns], [], [], none⟩
def ti28 : TI := ⟨3, 1, 8, .int .i64, [.i .i64], [], [], none⟩
def ti35 : TI := ⟨3, 1, 24, .slice 5, [.ns], [], [], none⟩
def tab : Tr := .node (.node (.node (.node .leaf 3 ti3 .leaf) 4 ti4 .leaf) 5 ti5 (.node (.node .leaf 9 ti9 .leaf) 21 ti21 .leaf)) 22 ti22 (.node (.node (.node .leaf 24 ti24 .leaf) 25 ti25 .leaf) 27 ti27 (.node (.node .leaf 28 ti28 .leaf) 35 ti35 .leaf))

def globs : Nat → Option (List (DT T)) := fun g => match g with
  | 0 => some (Lib.firstTab.map fun z => DT.int .u8 z)
  | 1 => some (((List.range 16).flatMap fun i => [((Lib.accLo i : Nat) : Int), ((Lib.accHi i : Nat) : Int)]).map fun z => DT.int .u8 z)
  | _ => none
def flc : Nat → Bool := fun c => match c with
  | 0 => true
  | 1 => true
  | _ => false
theorem hmix : Tryd.prog.follows .mixedOrders = true := by kernel_rfl
theorem tys : TysOk Tryd.prog tab.find := tys_ok (by kernel_rfl)
abbrev gdn : Nat → Option (List D) := fun g => (globs g).map (denL cd)
theorem fl_ok : FlOk cd flc := fun c => match c with
  | 0 => fun h _ => rfl
  | 1 => fun h _ => rfl
  | _ + 2 => fun h _ => by cases h

def accTab : List Int := (List.range 16).flatMap fun i => [Lib.accLo i, Lib.accHi i]
theorem gdn0 : gdn 0 = some (tabD .u8 Lib.firstTab) := by
  show some (denL cd _) = _
  rw [denL_map]
  simp [tabD, den, Function.comp_def]
theorem gdn1 : gdn 1 = some (tabD .u8 accTab) := by
  show some (denL cd _) = _
  rw [denL_map]
  simp [tabD, den, Function.comp_def, accTab]
theorem acc_lo : ∀ i : Fin 16, accTab[2 * i.val]? = some ((Lib.accLo i.val : Nat) : Int) := by decide
theorem acc_hi : ∀ i : Fin 16, accTab[2 * i.val + 1]? = some ((Lib.accHi i.val : Nat) : Int) := by decide
theorem tabs_of {I : Nat → Prop} {w : World} (h : Glob gdn I w) : Lib.Utf8Tabs 0 1 w := by
  refine ⟨fun c hc => glob_tab (h 0 _ gdn0).2 (by simp [Lib.firstTab, hc]), fun i hi => ⟨?_, ?_⟩⟩
  · exact glob_tab (h 1 _ gdn1).2 (acc_lo ⟨i, hi⟩)
  · exact glob_tab (h 1 _ gdn1).2 (acc_hi ⟨i, hi⟩)
theorem glob_of {w : World} (h : Lib.Utf8Tabs 0 1 w) (h0 : 0 < w.heap.size) (h1 : 1 < w.heap.size) : Glob gdn (All w) w := by
  intro g cs e
  match g, e with
  | 0, e =>
    rw [gdn0] at e; cases e
    refine ⟨h0, tab_glob fun i n hn => ?_⟩
    have hi : i < 256 := by
      have := (List.getElem?_eq_some_iff.1 hn).1
      simpa [Lib.firstTab] using this
    have e2 : Lib.firstTab[i]? = some ((Lib.firstT i : Nat) : Int) := by simp [Lib.firstTab, hi]
    rw [hn] at e2; cases e2
    exact h.1 i hi
  | 1, e =>
    rw [gdn1] at e; cases e
    refine ⟨h1, tab_glob fun i n hn => ?_⟩
    have hi : i < 32 := by
      have := (List.getElem?_eq_some_iff.1 hn).1
      have e : accTab.length = 32 := by decide
      omega
    rcases Nat.mod_two_eq_zero_or_one i with hm | hm
    · have e3 : i = 2 * (i / 2) := by omega
      have e2 := acc_lo ⟨i / 2, by omega⟩
      simp only at e2
      rw [← e3, hn] at e2; cases e2
      have := (h.2 (i / 2) (by omega)).1
      rwa [← e3] at this
    · have e3 : i = 2 * (i / 2) + 1 := by omega
      have e2 := acc_hi ⟨i / 2, by omega⟩
      simp only at e2
      rw [← e3, hn] at e2; cases e2
      have := (h.2 (i / 2) (by omega)).2
      rwa [← e3] at this
  | n + 2, e => cases e
def utf8_ValidString (a0 : List UInt8) : Option (Unit × (Bool × Unit)) := bif decide (a0.length ≤ 9223372036854775807) then some ((), Lib.validD a0, ()) else none
def S_utf8_ValidString : FSpec T := ⟨[.f (.v .str)], [.v .bool], fun x => utf8_ValidString x.1⟩
theorem utf8_ValidString_ok : SoundT Tryd.prog cd gdn 23 S_utf8_ValidString := by
  refine sound_below (vts := [.str]) (rts := [.bool]) ⟨_, Tryd.func23, by kernel_rfl, by kernel_rfl⟩ fun I own w args x r hG hv hF => ?_
  obtain ⟨v, vr, _, _, rfl, h1, rfl, _⟩ := hv
  change V I w (.str x.1) free v at h1
  simp only [V] at h1
  subst h1
  change utf8_ValidString x.1 = some r at hF
  unfold utf8_ValidString at hF
  by_cases hs : x.1.length ≤ 9223372036854775807
  · simp only [hs, decide_true, cond_true] at hF
    have hr := Option.some.inj hF
    subst hr
    refine ⟨[.bool (Lib.validD x.1)], fun I' w' => ⟨_, _, none', none', rfl, (show V I' w' (.bool (Lib.validD x.1)) free _ by simp [V]), rfl, fun _ h => h, fun _ h => h, fun _ h => h.elim⟩, ?_⟩
    exact (Any.utf8_ValidString Tryd.lays196 ⟨x.1.toArray⟩ w (by rw [show ByteArray.size ⟨List.toArray x.1⟩ = List.length x.1 from List.size_toArray]; exact hs) (tabs_of hG)).mono fun e w' h => ⟨h.1, h.2⟩
  · simp [hs] at hF
def strings_IndexByte (a0 : List UInt8) (a1 : UInt8) : Option (Unit × (Int × Unit)) := some ((), Lib.indexByte a0 a1, ())
def S_strings_IndexByte : FSpec T := ⟨[.f (.v .str), .f (.v .u8)], [.v (.int .i64)], fun x => strings_IndexByte x.1 x.2.1⟩
theorem strings_IndexByte_ok : SoundT Tryd.prog cd gdn 24 S_strings_IndexByte := by
  refine sound_below (vts := [.str, .u8]) (rts := [.int .i64]) ⟨_, Tryd.func24, by kernel_rfl, by kernel_rfl⟩ fun I own w args x r hG hv hF => ?_
  obtain ⟨v, vr, _, _, rfl, h1, ⟨v2, vr2, _, _, rfl, h2, rfl, _⟩, _⟩ := hv
  change V I w (.str x.1) free v at h1
  change V I w (.int .u8 x.2.1.toNat) free v2 at h2
  simp only [V] at h1 h2
  subst h1; subst h2
  change strings_IndexByte x.1 x.2.1 = some r at hF
  unfold strings_IndexByte at hF
  have hr := Option.some.inj hF
  subst hr
  refine ⟨[.int .i64 (Lib.indexByte x.1 x.2.1)], fun I' w' => ⟨_, _, none', none', rfl, (show V I' w' (.int .i64 (Lib.indexByte x.1 x.2.1)) free _ by simp [V]), rfl, fun _ h => h, fun _ h => h, fun _ h => h.elim⟩, ?_⟩
  refine (Any.strings_IndexByte Tryd.lays137 ⟨x.1.toArray⟩ (x.2.1.toNat : Int) w).mono fun e w' h => ?_
  obtain ⟨rfl, rfl⟩ := h
  refine ⟨?_, RowKit.Below.refl _ _⟩
  exact congrArg (fun q => Ending.returned (.int .i64 (Lib.indexByte _ q))) UInt8.ofNat_toNat
def pin_Charge (a0 : ApiPin) : Option ((Unit) × (ApiPin × Int × Unit)) :=
 (bif (!a0.set) then (some ((), ((⟨false, 0#64, (0 : Int), (0 : Int)⟩ : ApiPin), (25 : Int), ())))
 else (bif (decide (a0.retries < (1 : Int))) then (some ((), ((⟨false, 0#64, (0 : Int), (0 : Int)⟩ : ApiPin), (27 : Int), ())))
 else (bif (decide ((3 : Int) ≤ a0.wrong)) then (some ((), ((⟨false, 0#64, (0 : Int), (0 : Int)⟩ : ApiPin), (28 : Int), ())))
 else (some ((), ((⟨a0.set, a0.check, (IntKind.wrap .i64 (a0.retries - (1 : Int))), a0.wrong⟩ : ApiPin), (0 : Int), ()))))))

def S_pin_Charge : FSpec T := ⟨[.f (.v (.agg 1))], [(.v (.agg 1)), (.v (.int .i64))], fun x => pin_Charge x.1⟩

def E_pin_Charge : Env T := ⟨tab.find, cd, globs, flc, fun f ds => match f with
    | _ => none, fun f => match f with
    | _ => false⟩

def A_pin_Charge : Loc2 T := ⟨fun id => match id with
    | _ => none, fun r => match r with
    | _ => none, fun r => match r with
    | _ => false⟩

theorem pin_Charge_eq (x : tySs T S_pin_Charge.ps) : run E_pin_Charge A_pin_Charge (Tryd.f8.body.getD .skip) (enterT E_pin_Charge.C S_pin_Charge.ps x) (retK E_pin_Charge Tryd.f8.results.toList S_pin_Charge.ps S_pin_Charge.rs) = S_pin_Charge.fn x := by kernel_rfl

theorem pin_Charge_env : EnvOk Tryd.prog E_pin_Charge := envOk (E := E_pin_Charge) cd_ok tys fl_ok fun f ds S h => by cases h

theorem pin_Charge_ok : SoundT Tryd.prog cd gdn 8 S_pin_Charge :=
  sound_fn (E := E_pin_Charge) (A := A_pin_Charge) (done := []) (c := (Tryd.f8.body.getD .skip)) (S := S_pin_Charge) (fn := Tryd.f8) hmix pin_Charge_env Tryd.func8 rfl (by kernel_rfl) (by kernel_rfl) done_nil (by kernel_rfl) (by kernel_rfl) pin_Charge_eq

def passkeyref10_Charge (a0 : ApiPin) : Option ((Unit) × (ApiPin × Int × Unit)) :=
 (bif (!a0.set) then (some ((), ((⟨false, 0#64, (0 : Int), (0 : Int)⟩ : ApiPin), (25 : Int), ())))
 else (bif (decide (a0.retries < (1 : Int))) then (some ((), ((⟨false, 0#64, (0 : Int), (0 : Int)⟩ : ApiPin), (27 : Int), ())))
 else (bif (decide ((3 : Int) ≤ a0.wrong)) then (some ((), ((⟨false, 0#64, (0 : Int), (0 : Int)⟩ : ApiPin), (28 : Int), ())))
 else (some ((), ((⟨a0.set, a0.check, (IntKind.wrap .i64 (a0.retries - (1 : Int))), a0.wrong⟩ : ApiPin), (0 : Int), ()))))))

def S_passkeyref10_Charge : FSpec T := ⟨[.f (.v (.agg 1))], [(.v (.agg 1)), (.v (.int .i64))], fun x => passkeyref10_Charge x.1⟩

def E_passkeyref10_Charge : Env T := ⟨tab.find, cd, globs, flc, fun f ds => match f with
    | _ => none, fun f => match f with
    | _ => false⟩

def A_passkeyref10_Charge : Loc2 T := ⟨fun id => match id with
    | _ => none, fun r => match r with
    | _ => none, fun r => match r with
    | _ => false⟩

theorem passkeyref10_Charge_eq (x : tySs T S_passkeyref10_Charge.ps) : run E_passkeyref10_Charge A_passkeyref10_Charge (Tryd.f9.body.getD .skip) (enterT E_passkeyref10_Charge.C S_passkeyref10_Charge.ps x) (retK E_passkeyref10_Charge Tryd.f9.results.toList S_passkeyref10_Charge.ps S_passkeyref10_Charge.rs) = S_passkeyref10_Charge.fn x := by kernel_rfl

theorem passkeyref10_Charge_env : EnvOk Tryd.prog E_passkeyref10_Charge := envOk (E := E_passkeyref10_Charge) cd_ok tys fl_ok fun f ds S h => by cases h

theorem passkeyref10_Charge_ok : SoundT Tryd.prog cd gdn 9 S_passkeyref10_Charge :=
  sound_fn (E := E_passkeyref10_Charge) (A := A_passkeyref10_Charge) (done := []) (c := (Tryd.f9.body.getD .skip)) (S := S_passkeyref10_Charge) (fn := Tryd.f9) hmix passkeyref10_Charge_env Tryd.func9 rfl (by kernel_rfl) (by kernel_rfl) done_nil (by kernel_rfl) (by kernel_rfl) passkeyref10_Charge_eq

def pin_Settle (a0 : ApiPin) (a1 : Bool) : Option ((Unit) × (ApiPin × Int × Unit)) :=
 (bif a1 then (some ((), ((⟨a0.set, a0.check, (8 : Int), (0 : Int)⟩ : ApiPin), (0 : Int), ())))
 else (let v1 : Int := (bif decide ((2 : Int) < a0.wrong) then (2 : Int) else a0.wrong)
 (bif (decide (a0.retries < (1 : Int))) then (some ((), ((⟨a0.set, a0.check, a0.retries, (IntKind.wrap .i64 (v1 + (1 : Int)))⟩ : ApiPin), (27 : Int), ())))
 else (bif (decide ((3 : Int) ≤ (IntKind.wrap .i64 (v1 + (1 : Int))))) then (some ((), ((⟨a0.set, a0.check, a0.retries, (IntKind.wrap .i64 (v1 + (1 : Int)))⟩ : ApiPin), (28 : Int), ())))
 else (some ((), ((⟨a0.set, a0.check, a0.retries, (IntKind.wrap .i64 (v1 + (1 : Int)))⟩ : ApiPin), (24 : Int), ())))))))

def S_pin_Settle : FSpec T := ⟨[.f (.v (.agg 1)), .f (.v .bool)], [(.v (.agg 1)), (.v (.int .i64))], fun x => pin_Settle x.1 x.2.1⟩

def E_pin_Settle : Env T := ⟨tab.find, cd, globs, flc, fun f ds => match f with
    | _ => none, fun f => match f with
    | _ => false⟩

def A_pin_Settle : Loc2 T := ⟨fun id => match id with
    | _ => none, fun r => match r with
    | _ => none, fun r => match r with
    | _ => false⟩

theorem pin_Settle_eq (x : tySs T S_pin_Settle.ps) : run E_pin_Settle A_pin_Settle (Tryd.f10.body.getD .skip) (enterT E_pin_Settle.C S_pin_Settle.ps x) (retK E_pin_Settle Tryd.f10.results.toList S_pin_Settle.ps S_pin_Settle.rs) = S_pin_Settle.fn x := by kernel_rfl

theorem pin_Settle_env : EnvOk Tryd.prog E_pin_Settle := envOk (E := E_pin_Settle) cd_ok tys fl_ok fun f ds S h => by cases h

theorem pin_Settle_ok : SoundT Tryd.prog cd gdn 10 S_pin_Settle :=
  sound_fn (E := E_pin_Settle) (A := A_pin_Settle) (done := []) (c := (Tryd.f10.body.getD .skip)) (S := S_pin_Settle) (fn := Tryd.f10) hmix pin_Settle_env Tryd.func10 rfl (by kernel_rfl) (by kernel_rfl) done_nil (by kernel_rfl) (by kernel_rfl) pin_Settle_eq

def passkeyref10_Settle (a0 : ApiPin) (a1 : Bool) : Option ((Unit) × (ApiPin × Int × Unit)) :=
 (bif a1 then (some ((), ((⟨a0.set, a0.check, (8 : Int), (0 : Int)⟩ : ApiPin), (0 : Int), ())))
 else ((bif (decide (a0.wrong < (3 : Int))) then (some (((⟨a0.set, a0.check, a0.retries, (IntKind.wrap .i64 (a0.wrong + (1 : Int)))⟩ : ApiPin), ()), ((⟨false, 0#64, (0 : Int), (0 : Int)⟩ : ApiPin), ()), ()))
 else (some (((⟨a0.set, a0.check, a0.retries, (3 : Int)⟩ : ApiPin), ()), ((⟨false, 0#64, (0 : Int), (0 : Int)⟩ : ApiPin), ()), ()))).bind (fun (j1 : ((ApiPin × Unit) × (ApiPin × Unit) × Unit)) => (bif (decide (j1.1.1.retries < (1 : Int))) then (some ((), (j1.1.1, (27 : Int), ())))
 else (bif (decide ((3 : Int) ≤ j1.1.1.wrong)) then (some ((), (j1.1.1, (28 : Int), ())))
 else (some ((), (j1.1.1, (24 : Int), ()))))))))

def S_passkeyref10_Settle : FSpec T := ⟨[.f (.v (.agg 1)), .f (.v .bool)], [(.v (.agg 1)), (.v (.int .i64))], fun x => passkeyref10_Settle x.1 x.2.1⟩

def E_passkeyref10_Settle : Env T := ⟨tab.find, cd, globs, flc, fun f ds => match f with
    | _ => none, fun f => match f with
    | _ => false⟩

def A_passkeyref10_Settle : Loc2 T := ⟨fun id => match id with
    | _ => none, fun r => match r with
    | 7 => some ([(2, .ptr [(.v (.agg 1))]), (4, .ptr [(.v (.agg 1))])], true)
    | _ => none, fun r => match r with
    | _ => false⟩

theorem passkeyref10_Settle_eq (x : tySs T S_passkeyref10_Settle.ps) : run E_passkeyref10_Settle A_passkeyref10_Settle (Tryd.f11.body.getD .skip) (enterT E_passkeyref10_Settle.C S_passkeyref10_Settle.ps x) (retK E_passkeyref10_Settle Tryd.f11.results.toList S_passkeyref10_Settle.ps S_passkeyref10_Settle.rs) = S_passkeyref10_Settle.fn x := by kernel_rfl

theorem passkeyref10_Settle_env : EnvOk Tryd.prog E_passkeyref10_Settle := envOk (E := E_passkeyref10_Settle) cd_ok tys fl_ok fun f ds S h => by cases h

theorem passkeyref10_Settle_ok : SoundT Tryd.prog cd gdn 11 S_passkeyref10_Settle :=
  sound_fn (E := E_passkeyref10_Settle) (A := A_passkeyref10_Settle) (done := []) (c := (Tryd.f11.body.getD .skip)) (S := S_passkeyref10_Settle) (fn := Tryd.f11) hmix passkeyref10_Settle_env Tryd.func11 rfl (by kernel_rfl) (by kernel_rfl) done_nil (by kernel_rfl) (by kernel_rfl) passkeyref10_Settle_eq

def pin_New (a0 : (BitVec 64)) : Option ((Unit) × (ApiPin × Unit)) :=
 (some ((), ((⟨true, a0, (8 : Int), (0 : Int)⟩ : ApiPin), ())))

def S_pin_New : FSpec T := ⟨[.f (.v .u64)], [(.v (.agg 1))], fun x => pin_New x.1⟩

def E_pin_New : Env T := ⟨tab.find, cd, globs, flc, fun f ds => match f with
    | _ => none, fun f => match f with
    | _ => false⟩

def A_pin_New : Loc2 T := ⟨fun id => match id with
    | _ => none, fun r => match r with
    | _ => none, fun r => match r with
    | _ => false⟩

theorem pin_New_eq (x : tySs T S_pin_New.ps) : run E_pin_New A_pin_New (Tryd.f12.body.getD .skip) (enterT E_pin_New.C S_pin_New.ps x) (retK E_pin_New Tryd.f12.results.toList S_pin_New.ps S_pin_New.rs) = S_pin_New.fn x := by kernel_rfl

theorem pin_New_env : EnvOk Tryd.prog E_pin_New := envOk (E := E_pin_New) cd_ok tys fl_ok fun f ds S h => by cases h

theorem pin_New_ok : SoundT Tryd.prog cd gdn 12 S_pin_New :=
  sound_fn (E := E_pin_New) (A := A_pin_New) (done := []) (c := (Tryd.f12.body.getD .skip)) (S := S_pin_New) (fn := Tryd.f12) hmix pin_New_env Tryd.func12 rfl (by kernel_rfl) (by kernel_rfl) done_nil (by kernel_rfl) (by kernel_rfl) pin_New_eq

def passkeyref10_NewPin (a0 : (BitVec 64)) : Option ((Unit) × (ApiPin × Unit)) :=
 (some ((), ((⟨true, a0, (8 : Int), (0 : Int)⟩ : ApiPin), ())))

def S_passkeyref10_NewPin : FSpec T := ⟨[.f (.v .u64)], [(.v (.agg 1))], fun x => passkeyref10_NewPin x.1⟩

def E_passkeyref10_NewPin : Env T := ⟨tab.find, cd, globs, flc, fun f ds => match f with
    | _ => none, fun f => match f with
    | _ => false⟩

def A_passkeyref10_NewPin : Loc2 T := ⟨fun id => match id with
    | _ => none, fun r => match r with
    | _ => none, fun r => match r with
    | _ => false⟩

theorem passkeyref10_NewPin_eq (x : tySs T S_passkeyref10_NewPin.ps) : run E_passkeyref10_NewPin A_passkeyref10_NewPin (Tryd.f13.body.getD .skip) (enterT E_passkeyref10_NewPin.C S_passkeyref10_NewPin.ps x) (retK E_passkeyref10_NewPin Tryd.f13.results.toList S_passkeyref10_NewPin.ps S_passkeyref10_NewPin.rs) = S_passkeyref10_NewPin.fn x := by kernel_rfl

theorem passkeyref10_NewPin_env : EnvOk Tryd.prog E_passkeyref10_NewPin := envOk (E := E_passkeyref10_NewPin) cd_ok tys fl_ok fun f ds S h => by cases h

theorem passkeyref10_NewPin_ok : SoundT Tryd.prog cd gdn 13 S_passkeyref10_NewPin :=
  sound_fn (E := E_passkeyref10_NewPin) (A := A_passkeyref10_NewPin) (done := []) (c := (Tryd.f13.body.getD .skip)) (S := S_passkeyref10_NewPin) (fn := Tryd.f13) hmix passkeyref10_NewPin_env Tryd.func13 rfl (by kernel_rfl) (by kernel_rfl) done_nil (by kernel_rfl) (by kernel_rfl) passkeyref10_NewPin_eq

def pin_Weak_L0b (y0 : Int) (y1 : Int) (y2 : Bool) (y3 : (List UInt8 × Nat)) : Option ((Int × Int × Bool × (List UInt8 × Nat) × Unit) ⊕ (Int × Bool × Unit)) :=
 (bif decide (y3.2 < (y3.1).length) then (let v3 : Nat := (y3.2 + (Utf8.decode ⟨(y3.1).toArray⟩ y3.2).2)
 ((bif (decide ((y3.2 : Int) = (0 : Int))) then (some (((Utf8.decode ⟨(y3.1).toArray⟩ y3.2).1 : Int), y1, y2, ((Utf8.decode ⟨(y3.1).toArray⟩ y3.2).1 : Int), (y3.1, v3), ()))
 else (some (y0, y1, y2, ((Utf8.decode ⟨(y3.1).toArray⟩ y3.2).1 : Int), (y3.1, v3), ()))).bind (fun (j4 : (Int × Int × Bool × Int × (List UInt8 × Nat) × Unit)) => (bif j4.2.2.1 then (some (Sum.inl (j4.1, (IntKind.wrap .i64 (j4.2.1 + (1 : Int))), (decide (j4.2.2.2.1 = j4.1)), (j4.2.2.2.2.1.1, j4.2.2.2.2.1.2), ())))
 else (some (Sum.inl (j4.1, (IntKind.wrap .i64 (j4.2.1 + (1 : Int))), false, (j4.2.2.2.2.1.1, j4.2.2.2.2.1.2), ())))))))
 else (some (Sum.inr (y1, y2, ()))))

def pin_Weak_L0 (y : (Int × Int × Bool × (List UInt8 × Nat) × Unit)) : Option (Int × Bool × Unit) := iter (fun (y : (Int × Int × Bool × (List UInt8 × Nat) × Unit)) => pin_Weak_L0b y.1 y.2.1 y.2.2.1 y.2.2.2.1) rounds y

def pin_Weak (a0 : (List UInt8)) : Option ((Unit) × (Bool × Unit)) :=
 (bif (decide (((a0).length : Int) < (4 : Int))) then (some ((), (true, ())))
 else (bif (decide ((63 : Int) < ((a0).length : Int))) then (some ((), (true, ())))
 else ((utf8_ValidString a0).bind fun r1 => (bif (!r1.2.1) then (some ((), (true, ())))
 else ((strings_IndexByte a0 (0 : UInt8)).bind fun r2 => (bif (decide ((0 : Int) ≤ r2.2.1)) then (some ((), (true, ())))
 else ((pin_Weak_L0 ((0 : Int), (0 : Int), true, (a0, 0), ())).bind (fun (z5 : (Int × Bool × Unit)) => (bif (decide (z5.1 < (4 : Int))) then (some ((), (true, ())))
 else (some ((), (z5.2.1, ()))))))))))))

def S_pin_Weak : FSpec T := ⟨[.f (.v .str)], [(.v .bool)], fun x => pin_Weak x.1⟩

def E_pin_Weak : Env T := ⟨tab.find, cd, globs, flc, fun f ds => match f with
    | 23 => some S_utf8_ValidString
    | 24 => some S_strings_IndexByte
    | _ => none, fun f => match f with
    | 23 => true
    | 24 => true
    | _ => false⟩

def A_pin_Weak : Loc2 T := ⟨fun id => match id with
    | 0 => some ⟨[(3, .f (.v (.int .i32))), (4, .f (.v (.int .i64))), (5, .f (.v .bool)), (25, .iter)], [(.exit 0, [(4, .f (.v (.int .i64))), (5, .f (.v .bool))])], pin_Weak_L0⟩
    | _ => none, fun r => match r with
    | 12 => some ([(3, .f (.v (.int .i32))), (4, .f (.v (.int .i64))), (5, .f (.v .bool)), (7, .f (.v (.int .i32))), (25, .iter)], true)
    | _ => none, fun r => match r with
    | _ => false⟩

theorem pin_Weak_L0_eq (y0 : Int) (y1 : Int) (y2 : Bool) (y3 : (List UInt8 × Nat)) : run E_pin_Weak A_pin_Weak (loopAt 0 (Tryd.f17.body.getD .skip)) (lay cd [(3, .f (.v (.int .i32))), (4, .f (.v (.int .i64))), (5, .f (.v .bool)), (25, .iter)] (y0, y1, y2, y3, ())) (roundK cd [(3, .f (.v (.int .i32))), (4, .f (.v (.int .i64))), (5, .f (.v .bool)), (25, .iter)] [(.exit 0, [(4, .f (.v (.int .i64))), (5, .f (.v .bool))])]) = pin_Weak_L0b y0 y1 y2 y3 := by kernel_rfl

theorem pin_Weak_eq (x : tySs T S_pin_Weak.ps) : run E_pin_Weak A_pin_Weak (Tryd.f17.body.getD .skip) (enterT E_pin_Weak.C S_pin_Weak.ps x) (retK E_pin_Weak Tryd.f17.results.toList S_pin_Weak.ps S_pin_Weak.rs) = S_pin_Weak.fn x := by kernel_rfl

theorem pin_Weak_env : EnvOk Tryd.prog E_pin_Weak := envOk (E := E_pin_Weak) cd_ok tys fl_ok fun f ds S h => by
    dsimp only [E_pin_Weak] at h
    split at h
    · cases h; exact utf8_ValidString_ok
    · cases h; exact strings_IndexByte_ok
    · cases h

theorem pin_Weak_L0_ok : LoopOk Tryd.prog E_pin_Weak Tryd.f17.ntmps (kqOf S_pin_Weak.ps 0) (loopAt 0 (Tryd.f17.body.getD .skip)) ⟨[(3, .f (.v (.int .i32))), (4, .f (.v (.int .i64))), (5, .f (.v .bool)), (25, .iter)], [(.exit 0, [(4, .f (.v (.int .i64))), (5, .f (.v .bool))])], pin_Weak_L0⟩ :=
  loop_ok (A := A_pin_Weak) (done := []) (c0 := (Tryd.f17.body.getD .skip)) hmix pin_Weak_env done_nil rounds (by kernel_rfl) (by kernel_rfl) (fun x => pin_Weak_L0_eq x.1 x.2.1 x.2.2.1 x.2.2.2.1) (fun _ => rfl)

theorem pin_Weak_ok : SoundT Tryd.prog cd gdn 17 S_pin_Weak :=
  sound_fn (E := E_pin_Weak) (A := A_pin_Weak) (done := [0]) (c := (Tryd.f17.body.getD .skip)) (S := S_pin_Weak) (fn := Tryd.f17) hmix pin_Weak_env Tryd.func17 rfl (by kernel_rfl) (by kernel_rfl) (done_cons rfl pin_Weak_L0_ok done_nil) (by kernel_rfl) (by kernel_rfl) pin_Weak_eq

def passkeylaw11_awake : Option ((Unit) × (Bool × Unit)) :=
 ((pin_New (7#64)).bind fun r1 => ((pin_Charge r1.2.1).bind fun r2 => ((pin_Settle r2.2.1 false).bind fun r3 => ((pin_Weak ([49, 50, 51, 52] : List UInt8)).bind fun r4 => (bif (!r4.2.1) then ((pin_Weak ([49, 49, 49, 49] : List UInt8)).bind fun r5 => (bif r5.2.1 then ((pin_Weak ([49, 50, 51] : List UInt8)).bind fun r6 => (bif r6.2.1 then (bif (decide (r2.2.2.1 = (0 : Int))) then (bif (decide (r3.2.2.1 = (24 : Int))) then (let v7 : Bool := ((r3.2.1.set == true) && (decide (r3.2.1.check = 7#64) && (decide (r3.2.1.retries = (7 : Int)) && (decide (r3.2.1.wrong = (1 : Int)) && true))))
 (some ((), (v7, ()))))
 else (some ((), (false, ()))))
 else (some ((), (false, ()))))
 else (some ((), (false, ())))))
 else (some ((), (false, ())))))
 else (some ((), (false, ()))))))))

def S_passkeylaw11_awake : FSpec T := ⟨[], [(.v .bool)], fun x => passkeylaw11_awake ⟩

def E_passkeylaw11_awake : Env T := ⟨tab.find, cd, globs, flc, fun f ds => match f with
    | 8 => some S_pin_Charge
    | 10 => some S_pin_Settle
    | 12 => some S_pin_New
    | 17 => some S_pin_Weak
    | _ => none, fun f => match f with
    | 8 => true
    | 10 => true
    | 12 => true
    | 17 => true
    | _ => false⟩

def A_passkeylaw11_awake : Loc2 T := ⟨fun id => match id with
    | _ => none, fun r => match r with
    | _ => none, fun r => match r with
    | _ => false⟩

theorem passkeylaw11_awake_eq (x : tySs T S_passkeylaw11_awake.ps) : run E_passkeylaw11_awake A_passkeylaw11_awake (Tryd.f14.body.getD .skip) (enterT E_passkeylaw11_awake.C S_passkeylaw11_awake.ps x) (retK E_passkeylaw11_awake Tryd.f14.results.toList S_passkeylaw11_awake.ps S_passkeylaw11_awake.rs) = S_passkeylaw11_awake.fn x := by kernel_rfl

theorem passkeylaw11_awake_env : EnvOk Tryd.prog E_passkeylaw11_awake := envOk (E := E_passkeylaw11_awake) cd_ok tys fl_ok fun f ds S h => by
    dsimp only [E_passkeylaw11_awake] at h
    split at h
    · cases h; exact pin_Charge_ok
    · cases h; exact pin_Settle_ok
    · cases h; exact pin_New_ok
    · cases h; exact pin_Weak_ok
    · cases h

theorem passkeylaw11_awake_ok : SoundT Tryd.prog cd gdn 14 S_passkeylaw11_awake :=
  sound_fn (E := E_passkeylaw11_awake) (A := A_passkeylaw11_awake) (done := []) (c := (Tryd.f14.body.getD .skip)) (S := S_passkeylaw11_awake) (fn := Tryd.f14) hmix passkeylaw11_awake_env Tryd.func14 rfl (by kernel_rfl) (by kernel_rfl) done_nil (by kernel_rfl) (by kernel_rfl) passkeylaw11_awake_eq

def passkeylaw11_PinCharges_L0b (y0 : Bool) (y1 : (ApiPin × Unit)) (y2 : (ApiPin × Unit)) (y3 : Int) : Option ((Bool × (ApiPin × Unit) × (ApiPin × Unit) × Int × Unit) ⊕ ((Bool × Unit) ⊕ ((ApiPin × Unit) × Unit))) :=
 (bif (decide (y3 < (2 : Int))) then (bif (decide ((0 : Int) ≤ y3) && decide (y3 < (2 : Int))) then (((([y1.1, y2.1] : List (ApiPin)))[(y3).toNat]?).bind fun x3 => ((pin_Charge x3).bind fun r4 => ((passkeyref10_Charge x3).bind fun r5 => ((pin_Settle x3 y0).bind fun r6 => ((passkeyref10_Settle x3 y0).bind fun r7 => (let v8 : Bool := (!((r4.2.1.set == r5.2.1.set) && (decide (r4.2.1.check = r5.2.1.check) && (decide (r4.2.1.retries = r5.2.1.retries) && (decide (r4.2.1.wrong = r5.2.1.wrong) && true)))))
 (bif v8 then (some (Sum.inr (Sum.inl (false, ()))))
 else (bif (!decide (r4.2.2.1 = r5.2.2.1)) then (some (Sum.inr (Sum.inl (false, ()))))
 else (let v9 : Bool := (!((r6.2.1.set == r7.2.1.set) && (decide (r6.2.1.check = r7.2.1.check) && (decide (r6.2.1.retries = r7.2.1.retries) && (decide (r6.2.1.wrong = r7.2.1.wrong) && true)))))
 (bif v9 then (some (Sum.inr (Sum.inl (false, ()))))
 else (bif (!decide (r6.2.2.1 = r7.2.2.1)) then (some (Sum.inr (Sum.inl (false, ()))))
 else (some (Sum.inl (y0, (y1.1, ()), (y2.1, ()), (IntKind.wrap .i64 (y3 + (1 : Int))), ()))))))))))))))
 else none)
 else (some (Sum.inr (Sum.inr ((y1.1, ()), ())))))

def passkeylaw11_PinCharges_L0 (y : (Bool × (ApiPin × Unit) × (ApiPin × Unit) × Int × Unit)) : Option ((Bool × Unit) ⊕ ((ApiPin × Unit) × Unit)) := iter (fun (y : (Bool × (ApiPin × Unit) × (ApiPin × Unit) × Int × Unit)) => passkeylaw11_PinCharges_L0b y.1 y.2.1 y.2.2.1 y.2.2.2.1) rounds y

def passkeylaw11_PinCharges (a0 : ApiPin) (a1 : Bool) (a2 : (BitVec 16)) : Option ((Unit) × (Bool × Unit)) :=
 (let v1 : Int := (IntKind.wrap .i64 ((((a2 >>> 4) &&& 15#16).toNat : Int) - (2 : Int)))
 (let v2 : Int := (IntKind.wrap .i64 ((((a2 >>> 8) &&& 7#16).toNat : Int) - (1 : Int)))
 ((passkeylaw11_PinCharges_L0 (a1, (a0, ()), ((⟨(decide ((0#16).toNat < (a2 &&& 15#16).toNat)), (BitVec.setWidth 64 a2), v1, v2⟩ : ApiPin), ()), (0 : Int), ())).bind (Sum.elim (fun (z10 : (Bool × Unit)) => (some ((), (z10.1, ())))) (fun (z11 : ((ApiPin × Unit) × Unit)) => ((pin_New z11.1.1.check).bind fun r12 => ((passkeyref10_NewPin z11.1.1.check).bind fun r13 => (let v14 : Bool := ((r12.2.1.set == r13.2.1.set) && (decide (r12.2.1.check = r13.2.1.check) && (decide (r12.2.1.retries = r13.2.1.retries) && (decide (r12.2.1.wrong = r13.2.1.wrong) && true))))
 (bif v14 then ((passkeylaw11_awake).bind fun r15 => (some ((), (r15.2.1, ()))))
 else (some ((), (false, ()))))))))))))

def S_passkeylaw11_PinCharges : FSpec T := ⟨[.f (.v (.agg 1)), .f (.v .bool), .f (.v .u16)], [(.v .bool)], fun x => passkeylaw11_PinCharges x.1 x.2.1 x.2.2.1⟩

def E_passkeylaw11_PinCharges : Env T := ⟨tab.find, cd, globs, flc, fun f ds => match f with
    | 8 => some S_pin_Charge
    | 9 => some S_passkeyref10_Charge
    | 10 => some S_pin_Settle
    | 11 => some S_passkeyref10_Settle
    | 12 => some S_pin_New
    | 13 => some S_passkeyref10_NewPin
    | 14 => some S_passkeylaw11_awake
    | _ => none, fun f => match f with
    | 8 => true
    | 9 => true
    | 10 => true
    | 11 => true
    | 12 => true
    | 13 => true
    | 14 => true
    | _ => false⟩

def A_passkeylaw11_PinCharges : Loc2 T := ⟨fun id => match id with
    | 0 => some ⟨[(1, .f (.v .bool)), (3, .ptr [(.v (.agg 1))]), (7, .ptr [(.v (.agg 1))]), (8, .f (.v (.int .i64)))], [(.ret, [(6, .f (.v .bool))]), (.exit 0, [(3, .ptr [(.v (.agg 1))])])], passkeylaw11_PinCharges_L0⟩
    | _ => none, fun r => match r with
    | _ => none, fun r => match r with
    | _ => false⟩

theorem passkeylaw11_PinCharges_L0_eq (y0 : Bool) (y1 : (ApiPin × Unit)) (y2 : (ApiPin × Unit)) (y3 : Int) : run E_passkeylaw11_PinCharges A_passkeylaw11_PinCharges (loopAt 0 (Tryd.f3.body.getD .skip)) (lay cd [(1, .f (.v .bool)), (3, .ptr [(.v (.agg 1))]), (7, .ptr [(.v (.agg 1))]), (8, .f (.v (.int .i64)))] (y0, y1, y2, y3, ())) (roundK cd [(1, .f (.v .bool)), (3, .ptr [(.v (.agg 1))]), (7, .ptr [(.v (.agg 1))]), (8, .f (.v (.int .i64)))] [(.ret, [(6, .f (.v .bool))]), (.exit 0, [(3, .ptr [(.v (.agg 1))])])]) = passkeylaw11_PinCharges_L0b y0 y1 y2 y3 := by kernel_rfl

theorem passkeylaw11_PinCharges_eq (x : tySs T S_passkeylaw11_PinCharges.ps) : run E_passkeylaw11_PinCharges A_passkeylaw11_PinCharges (Tryd.f3.body.getD .skip) (enterT E_passkeylaw11_PinCharges.C S_passkeylaw11_PinCharges.ps x) (retK E_passkeylaw11_PinCharges Tryd.f3.results.toList S_passkeylaw11_PinCharges.ps S_passkeylaw11_PinCharges.rs) = S_passkeylaw11_PinCharges.fn x := by kernel_rfl

theorem passkeylaw11_PinCharges_env : EnvOk Tryd.prog E_passkeylaw11_PinCharges := envOk (E := E_passkeylaw11_PinCharges) cd_ok tys fl_ok fun f ds S h => by
    dsimp only [E_passkeylaw11_PinCharges] at h
    split at h
    · cases h; exact pin_Charge_ok
    · cases h; exact passkeyref10_Charge_ok
    · cases h; exact pin_Settle_ok
    · cases h; exact passkeyref10_Settle_ok
    · cases h; exact pin_New_ok
    · cases h; exact passkeyref10_NewPin_ok
    · cases h; exact passkeylaw11_awake_ok
    · cases h

theorem passkeylaw11_PinCharges_L0_ok : LoopOk Tryd.prog E_passkeylaw11_PinCharges Tryd.f3.ntmps (kqOf S_passkeylaw11_PinCharges.ps 0) (loopAt 0 (Tryd.f3.body.getD .skip)) ⟨[(1, .f (.v .bool)), (3, .ptr [(.v (.agg 1))]), (7, .ptr [(.v (.agg 1))]), (8, .f (.v (.int .i64)))], [(.ret, [(6, .f (.v .bool))]), (.exit 0, [(3, .ptr [(.v (.agg 1))])])], passkeylaw11_PinCharges_L0⟩ :=
  loop_ok (A := A_passkeylaw11_PinCharges) (done := []) (c0 := (Tryd.f3.body.getD .skip)) hmix passkeylaw11_PinCharges_env done_nil rounds (by kernel_rfl) (by kernel_rfl) (fun x => passkeylaw11_PinCharges_L0_eq x.1 x.2.1 x.2.2.1 x.2.2.2.1) (fun _ => rfl)

theorem passkeylaw11_PinCharges_ok : SoundT Tryd.prog cd gdn 3 S_passkeylaw11_PinCharges :=
  sound_fn (E := E_passkeylaw11_PinCharges) (A := A_passkeylaw11_PinCharges) (done := [0]) (c := (Tryd.f3.body.getD .skip)) (S := S_passkeylaw11_PinCharges) (fn := Tryd.f3) hmix passkeylaw11_PinCharges_env Tryd.func3 rfl (by kernel_rfl) (by kernel_rfl) (done_cons rfl passkeylaw11_PinCharges_L0_ok done_nil) (by kernel_rfl) (by kernel_rfl) passkeylaw11_PinCharges_eq

def passkeylaw11_PinBound_L0b (y0 : (List (UInt8))) (y1 : (ApiPin × Unit)) (y2 : Int) (y3 : Int) : Option (((List (UInt8)) × (ApiPin × Unit) × Int × Int × Unit) ⊕ ((Bool × Unit) ⊕ ((ApiPin × Unit) × Int × Unit))) :=
 (bif (decide (y3 < ((y0).length : Int))) then (bif (decide (y3 < (100 : Int))) then ((getI y0 y3).bind fun x2 => (bif (decide ((UInt8.ofBitVec (x2.toBitVec &&& (7 : UInt8).toBitVec)).toBitVec = (7 : UInt8).toBitVec)) then (some (Sum.inl (y0, ((⟨y1.1.set, y1.1.check, y1.1.retries, (0 : Int)⟩ : ApiPin), ()), y2, (IntKind.wrap .i64 (y3 + (1 : Int))), ())))
 else ((pin_Charge y1.1).bind fun r3 => (bif (!decide (r3.2.2.1 = (0 : Int))) then (some (Sum.inl (y0, (y1.1, ()), y2, (IntKind.wrap .i64 (y3 + (1 : Int))), ())))
 else (bif (decide ((8 : Int) < (IntKind.wrap .i64 (y2 + (1 : Int))))) then (some (Sum.inr (Sum.inl (false, ()))))
 else ((getI y0 y3).bind fun x4 => (bif (decide ((UInt8.ofBitVec (x4.toBitVec &&& (7 : UInt8).toBitVec)).toBitVec = (6 : UInt8).toBitVec)) then (some (Sum.inl (y0, ((⟨r3.2.1.set, r3.2.1.check, r3.2.1.retries, (0 : Int)⟩ : ApiPin), ()), (IntKind.wrap .i64 (y2 + (1 : Int))), (IntKind.wrap .i64 (y3 + (1 : Int))), ())))
 else (bif (decide ((UInt8.ofBitVec (x4.toBitVec &&& (7 : UInt8).toBitVec)).toBitVec = (5 : UInt8).toBitVec)) then ((pin_Settle r3.2.1 true).bind fun r5 => (bif (!decide (r5.2.2.1 = (0 : Int))) then (some (Sum.inr (Sum.inl (false, ()))))
 else (some (Sum.inl (y0, (r5.2.1, ()), (0 : Int), (IntKind.wrap .i64 (y3 + (1 : Int))), ())))))
 else ((pin_Settle r3.2.1 false).bind fun r6 => (bif (decide (r6.2.2.1 = (0 : Int))) then (some (Sum.inr (Sum.inl (false, ()))))
 else (some (Sum.inl (y0, (r6.2.1, ()), (IntKind.wrap .i64 (y2 + (1 : Int))), (IntKind.wrap .i64 (y3 + (1 : Int))), ())))))))))))))
 else (some (Sum.inr (Sum.inr ((y1.1, ()), y2, ())))))
 else (some (Sum.inr (Sum.inr ((y1.1, ()), y2, ())))))

def passkeylaw11_PinBound_L0 (y : ((List (UInt8)) × (ApiPin × Unit) × Int × Int × Unit)) : Option ((Bool × Unit) ⊕ ((ApiPin × Unit) × Int × Unit)) := iter (fun (y : ((List (UInt8)) × (ApiPin × Unit) × Int × Int × Unit)) => passkeylaw11_PinBound_L0b y.1 y.2.1 y.2.2.1 y.2.2.2.1) rounds y

def passkeylaw11_PinBound (a0 : (List (UInt8))) : Option ((Unit) × (Bool × Unit)) :=
 ((pin_New (1#64)).bind fun r1 => ((passkeylaw11_PinBound_L0 (a0, (r1.2.1, ()), (0 : Int), (0 : Int), ())).bind (Sum.elim (fun (z7 : (Bool × Unit)) => (some ((), (z7.1, ())))) (fun (z8 : ((ApiPin × Unit) × Int × Unit)) => (bif (decide (z8.1.1.retries = (IntKind.wrap .i64 ((8 : Int) - z8.2.1)))) then ((passkeylaw11_awake).bind fun r9 => (some ((), (r9.2.1, ()))))
 else (some ((), (false, ()))))))))

def S_passkeylaw11_PinBound : FSpec T := ⟨[.f (.v (.rs 0))], [(.v .bool)], fun x => passkeylaw11_PinBound x.1⟩

def E_passkeylaw11_PinBound : Env T := ⟨tab.find, cd, globs, flc, fun f ds => match f with
    | 8 => some S_pin_Charge
    | 10 => some S_pin_Settle
    | 12 => some S_pin_New
    | 14 => some S_passkeylaw11_awake
    | _ => none, fun f => match f with
    | 8 => true
    | 10 => true
    | 12 => true
    | 14 => true
    | _ => false⟩

def A_passkeylaw11_PinBound : Loc2 T := ⟨fun id => match id with
    | 0 => some ⟨[(0, .f (.v (.rs 0))), (3, .ptr [(.v (.agg 1))]), (4, .f (.v (.int .i64))), (5, .f (.v (.int .i64)))], [(.ret, [(2, .f (.v .bool))]), (.exit 0, [(3, .ptr [(.v (.agg 1))]), (4, .f (.v (.int .i64)))])], passkeylaw11_PinBound_L0⟩
    | _ => none, fun r => match r with
    | _ => none, fun r => match r with
    | _ => false⟩

theorem passkeylaw11_PinBound_L0_eq (y0 : (List (UInt8))) (y1 : (ApiPin × Unit)) (y2 : Int) (y3 : Int) : run E_passkeylaw11_PinBound A_passkeylaw11_PinBound (loopAt 0 (Tryd.f4.body.getD .skip)) (lay cd [(0, .f (.v (.rs 0))), (3, .ptr [(.v (.agg 1))]), (4, .f (.v (.int .i64))), (5, .f (.v (.int .i64)))] (y0, y1, y2, y3, ())) (roundK cd [(0, .f (.v (.rs 0))), (3, .ptr [(.v (.agg 1))]), (4, .f (.v (.int .i64))), (5, .f (.v (.int .i64)))] [(.ret, [(2, .f (.v .bool))]), (.exit 0, [(3, .ptr [(.v (.agg 1))]), (4, .f (.v (.int .i64)))])]) = passkeylaw11_PinBound_L0b y0 y1 y2 y3 := by kernel_rfl

theorem passkeylaw11_PinBound_eq (x : tySs T S_passkeylaw11_PinBound.ps) : run E_passkeylaw11_PinBound A_passkeylaw11_PinBound (Tryd.f4.body.getD .skip) (enterT E_passkeylaw11_PinBound.C S_passkeylaw11_PinBound.ps x) (retK E_passkeylaw11_PinBound Tryd.f4.results.toList S_passkeylaw11_PinBound.ps S_passkeylaw11_PinBound.rs) = S_passkeylaw11_PinBound.fn x := by kernel_rfl

theorem passkeylaw11_PinBound_env : EnvOk Tryd.prog E_passkeylaw11_PinBound := envOk (E := E_passkeylaw11_PinBound) cd_ok tys fl_ok fun f ds S h => by
    dsimp only [E_passkeylaw11_PinBound] at h
    split at h
    · cases h; exact pin_Charge_ok
    · cases h; exact pin_Settle_ok
    · cases h; exact pin_New_ok
    · cases h; exact passkeylaw11_awake_ok
    · cases h

theorem passkeylaw11_PinBound_L0_ok : LoopOk Tryd.prog E_passkeylaw11_PinBound Tryd.f4.ntmps (kqOf S_passkeylaw11_PinBound.ps 0) (loopAt 0 (Tryd.f4.body.getD .skip)) ⟨[(0, .f (.v (.rs 0))), (3, .ptr [(.v (.agg 1))]), (4, .f (.v (.int .i64))), (5, .f (.v (.int .i64)))], [(.ret, [(2, .f (.v .bool))]), (.exit 0, [(3, .ptr [(.v (.agg 1))]), (4, .f (.v (.int .i64)))])], passkeylaw11_PinBound_L0⟩ :=
  loop_ok (A := A_passkeylaw11_PinBound) (done := []) (c0 := (Tryd.f4.body.getD .skip)) hmix passkeylaw11_PinBound_env done_nil rounds (by kernel_rfl) (by kernel_rfl) (fun x => passkeylaw11_PinBound_L0_eq x.1 x.2.1 x.2.2.1 x.2.2.2.1) (fun _ => rfl)

theorem passkeylaw11_PinBound_ok : SoundT Tryd.prog cd gdn 4 S_passkeylaw11_PinBound :=
  sound_fn (E := E_passkeylaw11_PinBound) (A := A_passkeylaw11_PinBound) (done := [0]) (c := (Tryd.f4.body.getD .skip)) (S := S_passkeylaw11_PinBound) (fn := Tryd.f4) hmix passkeylaw11_PinBound_env Tryd.func4 rfl (by kernel_rfl) (by kernel_rfl) (done_cons rfl passkeylaw11_PinBound_L0_ok done_nil) (by kernel_rfl) (by kernel_rfl) passkeylaw11_PinBound_eq

def PinCharges_dom (a0 : ApiPin) (a1 : Bool) (a2 : (BitVec 16)) : Prop := ArgD cd [(.agg 1), .bool, .u16] (a0, a1, a2, ())
def PinBound_dom (a0 : (List (UInt8))) : Prop := ArgD cd [(.rs 0)] (a0, ())
end Go.Proofs.YtlbafgkhnhkanaaDoor

/- The functions of the program, as plain functions, and that the program computes them. Written by a program. -/
import Derived.Test.YtjedfmknnkimmaaDoorFns0
set_option linter.unusedVariables false
set_option maxRecDepth 100000
namespace Go.Proofs.YtjedfmknnkimmaaDoor
open Go Go.Abs
def cbor_Lookup_L0b (y0 : (List (ApiItem))) (y1 : (BitVec 64)) (y2 : Int) (y3 : (BitVec 64)) (y4 : (BitVec 64)) : Option (((List (ApiItem)) × (BitVec 64) × Int × (BitVec 64) × (BitVec 64) × Unit) ⊕ (((List (ApiItem)) × Bool × Unit) ⊕ (Unit))) :=
 (bif (decide (y4.toNat < y3.toNat)) then ((cbor_Skip y0 (IntKind.wrap .i64 (y2 + (1 : Int)))).bind fun r4 => (bif (!r4.2.2.1) then (some (Sum.inr (Sum.inl ([], false, ()))))
 else ((getI y0 y2).bind fun x5 => (bif (decide (x5.kind = (1 : Int))) then ((getI y0 y2).bind fun x6 => (bif (decide (x6.number = y1)) then (bif (decide ((0 : Int) ≤ r4.2.1) && decide (r4.2.1 ≤ ((y0).length : Int))) then (bif (decide ((0 : Int) ≤ (IntKind.wrap .i64 (y2 + (1 : Int)))) && decide ((IntKind.wrap .i64 (y2 + (1 : Int))) ≤ ((r4.2.1).toNat : Int))) then (let v7 : List (ApiItem) := (List.drop ((IntKind.wrap .i64 (y2 + (1 : Int)))).toNat (List.take (r4.2.1).toNat y0))
 ((slices_Clone v7).bind fun r8 => (some (Sum.inr (Sum.inl (r8.2.1, true, ()))))))
 else none)
 else none)
 else (some (Sum.inl (y0, y1, r4.2.1, y3, (y4 + 1#64), ())))))
 else (some (Sum.inl (y0, y1, r4.2.1, y3, (y4 + 1#64), ())))))))
 else (some (Sum.inr (Sum.inr ()))))
def cbor_Lookup_L0 (y : ((List (ApiItem)) × (BitVec 64) × Int × (BitVec 64) × (BitVec 64) × Unit)) : Option (((List (ApiItem)) × Bool × Unit) ⊕ (Unit)) := iter (fun (y : ((List (ApiItem)) × (BitVec 64) × Int × (BitVec 64) × (BitVec 64) × Unit)) => cbor_Lookup_L0b y.1 y.2.1 y.2.2.1 y.2.2.2.1 y.2.2.2.2.1) rounds y
def cbor_Lookup (a0 : (List (ApiItem))) (a1 : (BitVec 64)) : Option ((Unit) × ((List (ApiItem)) × Bool × Unit)) :=
 ((cbor_Validate a0).bind fun r1 => (bif (!decide (r1.2.1 = (0 : Int))) then (some ((), ([], false, ())))
 else ((getI a0 (0 : Int)).bind fun x2 => (bif (!decide (x2.kind = (6 : Int))) then (some ((), ([], false, ())))
 else ((getI a0 (0 : Int)).bind fun x3 => ((cbor_Lookup_L0 (a0, a1, (1 : Int), x3.number, 0#64, ())).bind (Sum.elim (fun (z9 : ((List (ApiItem)) × Bool × Unit)) => (some ((), (z9.1, z9.2.1, ())))) (fun (z10 : (Unit)) => (some ((), ([], false, ())))))))))))
def S_cbor_Lookup : FSpec T := ⟨[.f (.v (.rs 1)), .f (.v .u64)], [(.own 1), (.v .bool)], fun x => cbor_Lookup x.1 x.2.1⟩
def E_cbor_Lookup : Env T := ⟨tab.find, cd, globs, flc, fun f ds => match f with
    | 18 => some S_cbor_Validate
    | 29 => some S_cbor_Skip
    | 45 => some S_slices_Clone
    | _ => none, fun f => match f with
    | 18 => true
    | 29 => true
    | _ => false⟩
def A_cbor_Lookup : Loc2 T := ⟨fun id => match id with
    | 0 => some ⟨[(0, .f (.v (.rs 1))), (1, .f (.v .u64)), (6, .f (.v (.int .i64))), (22, .f (.v .u64)), (23, .f (.v .u64))], [(.ret, [(4, .f (.own 1)), (5, .f (.v .bool))]), (.exit 0, [])], cbor_Lookup_L0, []⟩
    | _ => none, fun r => match r with
    | _ => none, fun r => match r with
    | _ => false⟩
theorem cbor_Lookup_L0_eq (y0 : (List (ApiItem))) (y1 : (BitVec 64)) (y2 : Int) (y3 : (BitVec 64)) (y4 : (BitVec 64)) : run E_cbor_Lookup A_cbor_Lookup (loopAt 0 (Tryd.f31.body.getD .skip)) (layC cd [(0, .f (.v (.rs 1))), (1, .f (.v .u64)), (6, .f (.v (.int .i64))), (22, .f (.v .u64)), (23, .f (.v .u64))] [] (y0, y1, y2, y3, y4, ())) (roundK cd [(0, .f (.v (.rs 1))), (1, .f (.v .u64)), (6, .f (.v (.int .i64))), (22, .f (.v .u64)), (23, .f (.v .u64))] [] [(.ret, [(4, .f (.own 1)), (5, .f (.v .bool))]), (.exit 0, [])]) = cbor_Lookup_L0b y0 y1 y2 y3 y4 := by kernel_rfl
theorem cbor_Lookup_eq (x : tySs T S_cbor_Lookup.ps) : run E_cbor_Lookup A_cbor_Lookup (Tryd.f31.body.getD .skip) (enterT E_cbor_Lookup.C S_cbor_Lookup.ps x) (retK E_cbor_Lookup Tryd.f31.results.toList S_cbor_Lookup.ps S_cbor_Lookup.rs) = S_cbor_Lookup.fn x := by kernel_rfl
theorem cbor_Lookup_env : EnvOk Tryd.prog E_cbor_Lookup := envOk (E := E_cbor_Lookup) cd_ok tys fl_ok fun f ds S h => by
    dsimp only [E_cbor_Lookup] at h
    split at h
    · cases h; exact cbor_Validate_ok
    · cases h; exact cbor_Skip_ok
    · cases h; exact slices_Clone_ok
    · cases h
theorem cbor_Lookup_L0_ok : LoopOk Tryd.prog E_cbor_Lookup Tryd.f31.ntmps (kqOf S_cbor_Lookup.ps 0) (loopAt 0 (Tryd.f31.body.getD .skip)) ⟨[(0, .f (.v (.rs 1))), (1, .f (.v .u64)), (6, .f (.v (.int .i64))), (22, .f (.v .u64)), (23, .f (.v .u64))], [(.ret, [(4, .f (.own 1)), (5, .f (.v .bool))]), (.exit 0, [])], cbor_Lookup_L0, []⟩ :=
  loop_ok (A := A_cbor_Lookup) (done := []) (c0 := (Tryd.f31.body.getD .skip)) hmix cbor_Lookup_env done_nil rounds (by kernel_rfl) (by kernel_rfl) (fun x => cbor_Lookup_L0_eq x.1 x.2.1 x.2.2.1 x.2.2.2.1 x.2.2.2.2.1) (fun _ => rfl)
theorem cbor_Lookup_ok : SoundT Tryd.prog cd gdn 31 S_cbor_Lookup :=
  sound_fn (E := E_cbor_Lookup) (A := A_cbor_Lookup) (done := [0]) (c := (Tryd.f31.body.getD .skip)) (S := S_cbor_Lookup) (fn := Tryd.f31) hmix cbor_Lookup_env Tryd.func31 rfl (by kernel_rfl) (by kernel_rfl) (done_cons rfl cbor_Lookup_L0_ok done_nil) (by kernel_rfl) (by kernel_rfl) cbor_Lookup_eq
def passkeyref1_Lookup_L0b (y0 : (List (ApiItem))) (y1 : (BitVec 64)) (y2 : Int) (y3 : (BitVec 64)) : Option (((List (ApiItem)) × (BitVec 64) × Int × (BitVec 64) × Unit) ⊕ (((List (ApiItem)) × Bool × Unit) ⊕ (Unit))) :=
 ((getI y0 (0 : Int)).bind fun x3 => (bif (decide (y3.toNat < x3.number.toNat)) then ((passkeyref1_Skip y0 y2).bind fun r4 => ((passkeyref1_Skip y0 r4.2.1).bind fun r5 => ((getI y0 y2).bind fun x6 => (bif (decide (x6.kind = (1 : Int))) then ((getI y0 y2).bind fun x7 => (bif (decide (x7.number = y1)) then (bif (decide ((0 : Int) ≤ r5.2.1) && decide (r5.2.1 ≤ ((y0).length : Int))) then (bif (decide ((0 : Int) ≤ r4.2.1) && decide (r4.2.1 ≤ ((r5.2.1).toNat : Int))) then (let v8 : List (ApiItem) := (List.drop (r4.2.1).toNat (List.take (r5.2.1).toNat y0))
 (bif small ((v8).length) 32 then (some (Sum.inr (Sum.inl (v8, true, ()))))
 else none))
 else none)
 else none)
 else (some (Sum.inl (y0, y1, r5.2.1, (y3 + 1#64), ())))))
 else (some (Sum.inl (y0, y1, r5.2.1, (y3 + 1#64), ())))))))
 else (some (Sum.inr (Sum.inr ())))))
def passkeyref1_Lookup_L0 (y : ((List (ApiItem)) × (BitVec 64) × Int × (BitVec 64) × Unit)) : Option (((List (ApiItem)) × Bool × Unit) ⊕ (Unit)) := iter (fun (y : ((List (ApiItem)) × (BitVec 64) × Int × (BitVec 64) × Unit)) => passkeyref1_Lookup_L0b y.1 y.2.1 y.2.2.1 y.2.2.2.1) rounds y
def passkeyref1_Lookup (a0 : (List (ApiItem))) (a1 : (BitVec 64)) : Option ((Unit) × ((List (ApiItem)) × Bool × Unit)) :=
 ((passkeyref1_Validate a0).bind fun r1 => (bif (!decide (r1.2.1 = (0 : Int))) then (some ((), ([], false, ())))
 else ((getI a0 (0 : Int)).bind fun x2 => (bif (!decide (x2.kind = (6 : Int))) then (some ((), ([], false, ())))
 else ((passkeyref1_Lookup_L0 (a0, a1, (1 : Int), 0#64, ())).bind (Sum.elim (fun (z9 : ((List (ApiItem)) × Bool × Unit)) => (some ((), (z9.1, z9.2.1, ())))) (fun (z10 : (Unit)) => (some ((), ([], false, ()))))))))))
def S_passkeyref1_Lookup : FSpec T := ⟨[.f (.v (.rs 1)), .f (.v .u64)], [(.own 1), (.v .bool)], fun x => passkeyref1_Lookup x.1 x.2.1⟩
def E_passkeyref1_Lookup : Env T := ⟨tab.find, cd, globs, flc, fun f ds => match f with
    | 19 => some S_passkeyref1_Validate
    | 30 => some S_passkeyref1_Skip
    | _ => none, fun f => match f with
    | 19 => true
    | 30 => true
    | _ => false⟩
def A_passkeyref1_Lookup : Loc2 T := ⟨fun id => match id with
    | 0 => some ⟨[(0, .f (.v (.rs 1))), (1, .f (.v .u64)), (6, .f (.v (.int .i64))), (7, .f (.v .u64))], [(.ret, [(4, .f (.own 1)), (5, .f (.v .bool))]), (.exit 0, [])], passkeyref1_Lookup_L0, []⟩
    | _ => none, fun r => match r with
    | _ => none, fun r => match r with
    | _ => false⟩
theorem passkeyref1_Lookup_L0_eq (y0 : (List (ApiItem))) (y1 : (BitVec 64)) (y2 : Int) (y3 : (BitVec 64)) : run E_passkeyref1_Lookup A_passkeyref1_Lookup (loopAt 0 (Tryd.f32.body.getD .skip)) (layC cd [(0, .f (.v (.rs 1))), (1, .f (.v .u64)), (6, .f (.v (.int .i64))), (7, .f (.v .u64))] [] (y0, y1, y2, y3, ())) (roundK cd [(0, .f (.v (.rs 1))), (1, .f (.v .u64)), (6, .f (.v (.int .i64))), (7, .f (.v .u64))] [] [(.ret, [(4, .f (.own 1)), (5, .f (.v .bool))]), (.exit 0, [])]) = passkeyref1_Lookup_L0b y0 y1 y2 y3 := by kernel_rfl
theorem passkeyref1_Lookup_eq (x : tySs T S_passkeyref1_Lookup.ps) : run E_passkeyref1_Lookup A_passkeyref1_Lookup (Tryd.f32.body.getD .skip) (enterT E_passkeyref1_Lookup.C S_passkeyref1_Lookup.ps x) (retK E_passkeyref1_Lookup Tryd.f32.results.toList S_passkeyref1_Lookup.ps S_passkeyref1_Lookup.rs) = S_passkeyref1_Lookup.fn x := by kernel_rfl
theorem passkeyref1_Lookup_env : EnvOk Tryd.prog E_passkeyref1_Lookup := envOk (E := E_passkeyref1_Lookup) cd_ok tys fl_ok fun f ds S h => by
    dsimp only [E_passkeyref1_Lookup] at h
    split at h
    · cases h; exact passkeyref1_Validate_ok
    · cases h; exact passkeyref1_Skip_ok
    · cases h
theorem passkeyref1_Lookup_L0_ok : LoopOk Tryd.prog E_passkeyref1_Lookup Tryd.f32.ntmps (kqOf S_passkeyref1_Lookup.ps 0) (loopAt 0 (Tryd.f32.body.getD .skip)) ⟨[(0, .f (.v (.rs 1))), (1, .f (.v .u64)), (6, .f (.v (.int .i64))), (7, .f (.v .u64))], [(.ret, [(4, .f (.own 1)), (5, .f (.v .bool))]), (.exit 0, [])], passkeyref1_Lookup_L0, []⟩ :=
  loop_ok (A := A_passkeyref1_Lookup) (done := []) (c0 := (Tryd.f32.body.getD .skip)) hmix passkeyref1_Lookup_env done_nil rounds (by kernel_rfl) (by kernel_rfl) (fun x => passkeyref1_Lookup_L0_eq x.1 x.2.1 x.2.2.1 x.2.2.2.1) (fun _ => rfl)
theorem passkeyref1_Lookup_ok : SoundT Tryd.prog cd gdn 32 S_passkeyref1_Lookup :=
  sound_fn (E := E_passkeyref1_Lookup) (A := A_passkeyref1_Lookup) (done := [0]) (c := (Tryd.f32.body.getD .skip)) (S := S_passkeyref1_Lookup) (fn := Tryd.f32) hmix passkeyref1_Lookup_env Tryd.func32 rfl (by kernel_rfl) (by kernel_rfl) (done_cons rfl passkeyref1_Lookup_L0_ok done_nil) (by kernel_rfl) (by kernel_rfl) passkeyref1_Lookup_eq
def passkeylaw1_CborLookups_L0b (y0 : Int) (y1 : (BitVec 64)) (y2 : (List (ApiItem))) (y3 : (List (ApiItem))) (y4 : (BitVec 64)) : Option ((Int × (BitVec 64) × (List (ApiItem)) × (List (ApiItem)) × (BitVec 64) × Unit) ⊕ ((Bool × Unit) ⊕ ((BitVec 64) × (List (ApiItem)) × Unit))) :=
 (bif (decide (y4.toNat < (3#64).toNat)) then (let v4 : Int := (IntKind.wrap .i64 ((BitVec.ofInt (IntKind.bits .i64) (Int.fdiv y0 (2 ^ (min 20 (IntKind.bits .i64)))) &&& BitVec.ofInt (IntKind.bits .i64) (3 : Int)).toNat : Int))
 ((cbor_Lookup y3 (((BitVec.ofInt 64 v4) * 20#64) + y4)).bind fun r5 => ((passkeyref1_Lookup y3 (((BitVec.ofInt 64 v4) * 20#64) + y4)).bind fun r6 => ((cbor_Lookup y2 (((BitVec.ofInt 64 v4) * 20#64) + y4)).bind fun r7 => ((passkeyref1_Lookup y2 (((BitVec.ofInt 64 v4) * 20#64) + y4)).bind fun r8 => (bif (!(r5.2.2.1 == r6.2.2.1)) then (some (Sum.inr (Sum.inl (false, ()))))
 else ((passkeyref1_SameItems r5.2.1 r6.2.1).bind fun r9 => (bif (!r9.2.1) then (some (Sum.inr (Sum.inl (false, ()))))
 else (bif (!(r7.2.2.1 == r8.2.2.1)) then (some (Sum.inr (Sum.inl (false, ()))))
 else ((passkeyref1_SameItems r7.2.1 r8.2.1).bind fun r10 => (bif (!r10.2.1) then (some (Sum.inr (Sum.inl (false, ()))))
 else (some (Sum.inl (y0, y1, y2, y3, (y4 + 1#64), ()))))))))))))))
 else (some (Sum.inr (Sum.inr (y1, y2, ())))))
def passkeylaw1_CborLookups_L0 (y : (Int × (BitVec 64) × (List (ApiItem)) × (List (ApiItem)) × (BitVec 64) × Unit)) : Option ((Bool × Unit) ⊕ ((BitVec 64) × (List (ApiItem)) × Unit)) := iter (fun (y : (Int × (BitVec 64) × (List (ApiItem)) × (List (ApiItem)) × (BitVec 64) × Unit)) => passkeylaw1_CborLookups_L0b y.1 y.2.1 y.2.2.1 y.2.2.2.1 y.2.2.2.2.1) rounds y
def passkeylaw1_CborLookups (a0 : (List (Int))) (a1 : Int) (a2 : (BitVec 64)) : Option ((Unit) × (Bool × Unit)) :=
 (bif small ((([(31 : Int)] : List (Int))).length + (a0 : List (Int)).length) 8 then ((passkeybase_Tree (([(31 : Int)] : List (Int)) ++ a0)).bind fun r1 => (let v2 : Int := (IntKind.wrap .i64 ((BitVec.ofInt (IntKind.bits .i64) a1 &&& BitVec.ofInt (IntKind.bits .i64) (1048575 : Int)).toNat : Int))
 ((passkeylaw1_spoil r1.2.1 v2).bind fun r3 => ((passkeylaw1_CborLookups_L0 (a1, a2, r1.2.1, r3.2.1, 0#64, ())).bind (Sum.elim (fun (z11 : (Bool × Unit)) => (some ((), (z11.1, ())))) (fun (z12 : ((BitVec 64) × (List (ApiItem)) × Unit)) => ((cbor_Lookup z12.2.1 z12.1).bind fun r13 => ((passkeyref1_Lookup z12.2.1 z12.1).bind fun r14 => (bif (r13.2.2.1 == r14.2.2.1) then ((passkeyref1_SameItems r13.2.1 r14.2.1).bind fun r15 => (bif r15.2.1 then ((passkeylaw1_awake).bind fun r16 => (some ((), (r16.2.1, ()))))
 else (some ((), (false, ())))))
 else (some ((), (false, ()))))))))))))
 else none)
def S_passkeylaw1_CborLookups : FSpec T := ⟨[.f (.v (.rs 7)), .f (.v (.int .i64)), .f (.v .u64)], [(.v .bool)], fun x => passkeylaw1_CborLookups x.1 x.2.1 x.2.2.1⟩
def E_passkeylaw1_CborLookups : Env T := ⟨tab.find, cd, globs, flc, fun f ds => match f with
    | 15 => some S_passkeylaw1_awake
    | 20 => some S_passkeybase_Tree
    | 21 => some S_passkeylaw1_spoil
    | 24 => some S_passkeyref1_SameItems
    | 31 => some S_cbor_Lookup
    | 32 => some S_passkeyref1_Lookup
    | _ => none, fun f => match f with
    | 15 => true
    | 24 => true
    | _ => false⟩
def A_passkeylaw1_CborLookups : Loc2 T := ⟨fun id => match id with
    | 0 => some ⟨[(1, .f (.v (.int .i64))), (2, .f (.v .u64)), (7, .f (.own 1)), (8, .f (.own 1)), (9, .f (.v .u64))], [(.ret, [(6, .f (.v .bool))]), (.exit 0, [(2, .f (.v .u64)), (7, .f (.own 1))])], passkeylaw1_CborLookups_L0, []⟩
    | _ => none, fun r => match r with
    | _ => none, fun r => match r with
    | _ => false⟩
theorem passkeylaw1_CborLookups_L0_eq (y0 : Int) (y1 : (BitVec 64)) (y2 : (List (ApiItem))) (y3 : (List (ApiItem))) (y4 : (BitVec 64)) : run E_passkeylaw1_CborLookups A_passkeylaw1_CborLookups (loopAt 0 (Tryd.f12.body.getD .skip)) (layC cd [(1, .f (.v (.int .i64))), (2, .f (.v .u64)), (7, .f (.own 1)), (8, .f (.own 1)), (9, .f (.v .u64))] [] (y0, y1, y2, y3, y4, ())) (roundK cd [(1, .f (.v (.int .i64))), (2, .f (.v .u64)), (7, .f (.own 1)), (8, .f (.own 1)), (9, .f (.v .u64))] [] [(.ret, [(6, .f (.v .bool))]), (.exit 0, [(2, .f (.v .u64)), (7, .f (.own 1))])]) = passkeylaw1_CborLookups_L0b y0 y1 y2 y3 y4 := by kernel_rfl
theorem passkeylaw1_CborLookups_eq (x : tySs T S_passkeylaw1_CborLookups.ps) : run E_passkeylaw1_CborLookups A_passkeylaw1_CborLookups (Tryd.f12.body.getD .skip) (enterT E_passkeylaw1_CborLookups.C S_passkeylaw1_CborLookups.ps x) (retK E_passkeylaw1_CborLookups Tryd.f12.results.toList S_passkeylaw1_CborLookups.ps S_passkeylaw1_CborLookups.rs) = S_passkeylaw1_CborLookups.fn x := by kernel_rfl
theorem passkeylaw1_CborLookups_env : EnvOk Tryd.prog E_passkeylaw1_CborLookups := envOk (E := E_passkeylaw1_CborLookups) cd_ok tys fl_ok fun f ds S h => by
    dsimp only [E_passkeylaw1_CborLookups] at h
    split at h
    · cases h; exact passkeylaw1_awake_ok
    · cases h; exact passkeybase_Tree_ok
    · cases h; exact passkeylaw1_spoil_ok
    · cases h; exact passkeyref1_SameItems_ok
    · cases h; exact cbor_Lookup_ok
    · cases h; exact passkeyref1_Lookup_ok
    · cases h
theorem passkeylaw1_CborLookups_L0_ok : LoopOk Tryd.prog E_passkeylaw1_CborLookups Tryd.f12.ntmps (kqOf S_passkeylaw1_CborLookups.ps 0) (loopAt 0 (Tryd.f12.body.getD .skip)) ⟨[(1, .f (.v (.int .i64))), (2, .f (.v .u64)), (7, .f (.own 1)), (8, .f (.own 1)), (9, .f (.v .u64))], [(.ret, [(6, .f (.v .bool))]), (.exit 0, [(2, .f (.v .u64)), (7, .f (.own 1))])], passkeylaw1_CborLookups_L0, []⟩ :=
  loop_ok (A := A_passkeylaw1_CborLookups) (done := []) (c0 := (Tryd.f12.body.getD .skip)) hmix passkeylaw1_CborLookups_env done_nil rounds (by kernel_rfl) (by kernel_rfl) (fun x => passkeylaw1_CborLookups_L0_eq x.1 x.2.1 x.2.2.1 x.2.2.2.1 x.2.2.2.2.1) (fun _ => rfl)
theorem passkeylaw1_CborLookups_ok : SoundT Tryd.prog cd gdn 12 S_passkeylaw1_CborLookups :=
  sound_fn (E := E_passkeylaw1_CborLookups) (A := A_passkeylaw1_CborLookups) (done := [0]) (c := (Tryd.f12.body.getD .skip)) (S := S_passkeylaw1_CborLookups) (fn := Tryd.f12) hmix passkeylaw1_CborLookups_env Tryd.func12 rfl (by kernel_rfl) (by kernel_rfl) (done_cons rfl passkeylaw1_CborLookups_L0_ok done_nil) (by kernel_rfl) (by kernel_rfl) passkeylaw1_CborLookups_eq
def passkeyref1_Map_L2b (y0 : (List (BitVec 64))) (y1 : (List (List ApiItem))) (y2 : Int) (y3 : Int) : Option (((List (BitVec 64)) × (List (List ApiItem)) × Int × Int × Unit) ⊕ (((List (ApiItem)) × Int × Unit) ⊕ ((List (BitVec 64)) × (List (List ApiItem)) × Int × Unit))) :=
 (bif (decide (y3 < y2)) then ((getI y0 y3).bind fun x1 => ((getI y0 y2).bind fun x2 => (bif (decide (x1 = x2)) then (some (Sum.inr (Sum.inl ([], (10 : Int), ()))))
 else (some (Sum.inl (y0, y1, y2, (IntKind.wrap .i64 (y3 + (1 : Int))), ()))))))
 else (some (Sum.inr (Sum.inr (y0, y1, y2, ())))))
def passkeyref1_Map_L2 (y : ((List (BitVec 64)) × (List (List ApiItem)) × Int × Int × Unit)) : Option (((List (ApiItem)) × Int × Unit) ⊕ ((List (BitVec 64)) × (List (List ApiItem)) × Int × Unit)) := iter (fun (y : ((List (BitVec 64)) × (List (List ApiItem)) × Int × Int × Unit)) => passkeyref1_Map_L2b y.1 y.2.1 y.2.2.1 y.2.2.2.1) rounds y
def passkeyref1_Map_L0b (y0 : (List (BitVec 64))) (y1 : (List (List ApiItem))) (y2 : Int) : Option (((List (BitVec 64)) × (List (List ApiItem)) × Int × Unit) ⊕ (((List (ApiItem)) × Int × Unit) ⊕ ((List (BitVec 64)) × (List (List ApiItem)) × Unit))) :=
 (bif (decide (y2 < ((y0).length : Int))) then ((passkeyref1_Map_L2 (y0, y1, y2, (0 : Int), ())).bind (Sum.elim (fun (z1 : ((List (ApiItem)) × Int × Unit)) => (some (Sum.inr (Sum.inl (z1.1, z1.2.1, ()))))) (fun (z2 : ((List (BitVec 64)) × (List (List ApiItem)) × Int × Unit)) => (some (Sum.inl (z2.1, z2.2.1, (IntKind.wrap .i64 (z2.2.2.1 + (1 : Int))), ()))))))
 else (some (Sum.inr (Sum.inr (y0, y1, ())))))
def passkeyref1_Map_L0 (y : ((List (BitVec 64)) × (List (List ApiItem)) × Int × Unit)) : Option (((List (ApiItem)) × Int × Unit) ⊕ ((List (BitVec 64)) × (List (List ApiItem)) × Unit)) := iter (fun (y : ((List (BitVec 64)) × (List (List ApiItem)) × Int × Unit)) => passkeyref1_Map_L0b y.1 y.2.1 y.2.2.1) rounds y
def passkeyref1_Map_L4b (y0 : (List (BitVec 64))) (y1 : (List (List ApiItem))) (y2 : Int) : Option (((List (BitVec 64)) × (List (List ApiItem)) × Int × Unit) ⊕ (((List (ApiItem)) × Int × Unit) ⊕ ((List (BitVec 64)) × (List (List ApiItem)) × Unit))) :=
 (bif (decide (y2 < ((y1).length : Int))) then ((getI y1 y2).bind fun x5 => ((passkeyref1_Validate x5).bind fun r6 => (bif (!decide (r6.2.1 = (0 : Int))) then (some (Sum.inr (Sum.inl ([], r6.2.1, ()))))
 else (some (Sum.inl (y0, y1, (IntKind.wrap .i64 (y2 + (1 : Int))), ()))))))
 else (some (Sum.inr (Sum.inr (y0, y1, ())))))
def passkeyref1_Map_L4 (y : ((List (BitVec 64)) × (List (List ApiItem)) × Int × Unit)) : Option (((List (ApiItem)) × Int × Unit) ⊕ ((List (BitVec 64)) × (List (List ApiItem)) × Unit)) := iter (fun (y : ((List (BitVec 64)) × (List (List ApiItem)) × Int × Unit)) => passkeyref1_Map_L4b y.1 y.2.1 y.2.2.1) rounds y
def passkeyref1_Map_L8b (y0 : (List (BitVec 64))) (y1 : (List (List ApiItem))) (y2 : (List (ApiItem))) (y3 : (List (Bool))) (y4 : Int) (y5 : Int) (y6 : Int) (y7 : Int) : Option (((List (BitVec 64)) × (List (List ApiItem)) × (List (ApiItem)) × (List (Bool)) × Int × Int × Int × Int × Unit) ⊕ ((List (BitVec 64)) × (List (List ApiItem)) × (List (ApiItem)) × (List (Bool)) × Int × Int × Int × Unit)) :=
 (bif (decide (y5 < ((y0).length : Int))) then (bif (decide ((0 : Int) ≤ y5) && decide (y5 < ((y3).length : Int))) then (((y3)[(y5).toNat]?).bind fun x11 => (bif (!x11) then (bif (decide (y4 < (0 : Int))) then (some (Sum.inl (y0, y1, y2, y3, y5, (IntKind.wrap .i64 (y5 + (1 : Int))), y6, y7, ())))
 else ((getI y0 y5).bind fun x12 => ((getI y0 y4).bind fun x13 => (bif (decide (x12.toNat < x13.toNat)) then (some (Sum.inl (y0, y1, y2, y3, y5, (IntKind.wrap .i64 (y5 + (1 : Int))), y6, y7, ())))
 else (some (Sum.inl (y0, y1, y2, y3, y4, (IntKind.wrap .i64 (y5 + (1 : Int))), y6, y7, ())))))))
 else (some (Sum.inl (y0, y1, y2, y3, y4, (IntKind.wrap .i64 (y5 + (1 : Int))), y6, y7, ())))))
 else none)
 else (some (Sum.inr (y0, y1, y2, y3, y4, y6, y7, ()))))
def passkeyref1_Map_L8 (y : ((List (BitVec 64)) × (List (List ApiItem)) × (List (ApiItem)) × (List (Bool)) × Int × Int × Int × Int × Unit)) : Option ((List (BitVec 64)) × (List (List ApiItem)) × (List (ApiItem)) × (List (Bool)) × Int × Int × Int × Unit) := iter (fun (y : ((List (BitVec 64)) × (List (List ApiItem)) × (List (ApiItem)) × (List (Bool)) × Int × Int × Int × Int × Unit)) => passkeyref1_Map_L8b y.1 y.2.1 y.2.2.1 y.2.2.2.1 y.2.2.2.2.1 y.2.2.2.2.2.1 y.2.2.2.2.2.2.1 y.2.2.2.2.2.2.2.1) rounds y
def passkeyref1_Map_L6b (y0 : (List (BitVec 64))) (y1 : (List (List ApiItem))) (y2 : (List (ApiItem))) (y3 : (List (Bool))) (y4 : Int) (y5 : Int) : Option (((List (BitVec 64)) × (List (List ApiItem)) × (List (ApiItem)) × (List (Bool)) × Int × Int × Unit) ⊕ ((List (ApiItem)) × Unit)) :=
 (bif (decide (y5 < y4)) then ((passkeyref1_Map_L8 (y0, y1, y2, y3, (-1 : Int), (0 : Int), y4, y5, ())).bind (fun (z11 : ((List (BitVec 64)) × (List (List ApiItem)) × (List (ApiItem)) × (List (Bool)) × Int × Int × Int × Unit)) => (bif (decide ((0 : Int) ≤ z11.2.2.2.2.1) && decide (z11.2.2.2.2.1 < ((z11.2.2.2.1).length : Int))) then (((z11.2.2.2.1)[(z11.2.2.2.2.1).toNat]?).bind fun x12 => (let v13 : List (Bool) := (List.set z11.2.2.2.1 (z11.2.2.2.2.1).toNat true)
 ((getI z11.1 z11.2.2.2.2.1).bind fun x14 => (let v15 : List (ApiItem) := ([(⟨(1 : Int), x14, ([] : List UInt8)⟩ : ApiItem)] : List (ApiItem))
 (bif small ((z11.2.2.1).length + (v15 : List (ApiItem)).length) 32 then ((getI z11.2.1 z11.2.2.2.2.1).bind fun x16 => (bif small (((z11.2.2.1 ++ v15)).length + (x16 : List (ApiItem)).length) 32 then (some (Sum.inl (z11.1, z11.2.1, ((z11.2.2.1 ++ v15) ++ x16), v13, z11.2.2.2.2.2.1, (IntKind.wrap .i64 (z11.2.2.2.2.2.2.1 + (1 : Int))), ())))
 else none))
 else none)))))
 else none)))
 else (some (Sum.inr (y2, ()))))
def passkeyref1_Map_L6 (y : ((List (BitVec 64)) × (List (List ApiItem)) × (List (ApiItem)) × (List (Bool)) × Int × Int × Unit)) : Option ((List (ApiItem)) × Unit) := iter (fun (y : ((List (BitVec 64)) × (List (List ApiItem)) × (List (ApiItem)) × (List (Bool)) × Int × Int × Unit)) => passkeyref1_Map_L6b y.1 y.2.1 y.2.2.1 y.2.2.2.1 y.2.2.2.2.1 y.2.2.2.2.2.1) rounds y
def passkeyref1_Map (a0 : (List (BitVec 64))) (a1 : (List (List ApiItem))) : Option ((Unit) × ((List (ApiItem)) × Int × Unit)) :=
 (bif (!decide (((a0).length : Int) = ((a1).length : Int))) then (some ((), ([], (4 : Int), ())))
 else ((passkeyref1_Map_L0 (a0, a1, (0 : Int), ())).bind (Sum.elim (fun (z3 : ((List (ApiItem)) × Int × Unit)) => (some ((), (z3.1, z3.2.1, ())))) (fun (z4 : ((List (BitVec 64)) × (List (List ApiItem)) × Unit)) => ((passkeyref1_Map_L4 (z4.1, z4.2.1, (0 : Int), ())).bind (Sum.elim (fun (z7 : ((List (ApiItem)) × Int × Unit)) => (some ((), (z7.1, z7.2.1, ())))) (fun (z8 : ((List (BitVec 64)) × (List (List ApiItem)) × Unit)) => (let v9 : List (ApiItem) := ([(⟨(6 : Int), (BitVec.ofInt 64 ((z8.1).length : Int)), ([] : List UInt8)⟩ : ApiItem)] : List (ApiItem))
 (bif (decide ((0 : Int) ≤ ((z8.1).length : Int)) && (decide (((z8.1).length : Int) ≤ ((z8.1).length : Int)) && decide ((1 : Int) * ((z8.1).length : Int) ≤ 281474976710656 ∧ ((z8.1).length : Int) ≤ 9223372036854775807))) then (let v10 : List (Bool) := (List.replicate (((z8.1).length : Int)).toNat false)
 ((passkeyref1_Map_L6 (z8.1, z8.2.1, v9, v10, ((z8.1).length : Int), (0 : Int), ())).bind (fun (z17 : ((List (ApiItem)) × Unit)) => ((passkeyref1_Validate z17.1).bind fun r18 => (bif (!decide (r18.2.1 = (0 : Int))) then (some ((), ([], r18.2.1, ())))
 else (some ((), (z17.1, (0 : Int), ()))))))))
 else none)))))))))
def S_passkeyref1_Map : FSpec T := ⟨[.f (.v (.rs 5)), .f (.v (.rs 6))], [(.own 1), (.v (.int .i64))], fun x => passkeyref1_Map x.1 x.2.1⟩
def E_passkeyref1_Map : Env T := ⟨tab.find, cd, globs, flc, fun f ds => match f with
    | 19 => some S_passkeyref1_Validate
    | _ => none, fun f => match f with
    | 19 => true
    | _ => false⟩
def A_passkeyref1_Map : Loc2 T := ⟨fun id => match id with
    | 2 => some ⟨[(0, .f (.v (.rs 5))), (1, .f (.v (.rs 6))), (6, .f (.v (.int .i64))), (7, .f (.v (.int .i64)))], [(.ret, [(4, .f (.own 1)), (5, .f (.v (.int .i64)))]), (.exit 2, [(0, .f (.v (.rs 5))), (1, .f (.v (.rs 6))), (6, .f (.v (.int .i64)))])], passkeyref1_Map_L2, []⟩
    | 0 => some ⟨[(0, .f (.v (.rs 5))), (1, .f (.v (.rs 6))), (6, .f (.v (.int .i64)))], [(.ret, [(4, .f (.own 1)), (5, .f (.v (.int .i64)))]), (.exit 0, [(0, .f (.v (.rs 5))), (1, .f (.v (.rs 6)))])], passkeyref1_Map_L0, []⟩
    | 4 => some ⟨[(0, .f (.v (.rs 5))), (1, .f (.v (.rs 6))), (8, .f (.v (.int .i64)))], [(.ret, [(4, .f (.own 1)), (5, .f (.v (.int .i64)))]), (.exit 4, [(0, .f (.v (.rs 5))), (1, .f (.v (.rs 6)))])], passkeyref1_Map_L4, []⟩
    | 8 => some ⟨[(0, .f (.v (.rs 5))), (1, .f (.v (.rs 6))), (10, .f (.own 1)), (11, .f (.own 10)), (12, .f (.v (.int .i64))), (13, .f (.v (.int .i64))), (63, .f (.v (.int .i64))), (64, .f (.v (.int .i64)))], [(.exit 8, [(0, .f (.v (.rs 5))), (1, .f (.v (.rs 6))), (10, .f (.own 1)), (11, .f (.own 10)), (12, .f (.v (.int .i64))), (63, .f (.v (.int .i64))), (64, .f (.v (.int .i64)))])], passkeyref1_Map_L8, []⟩
    | 6 => some ⟨[(0, .f (.v (.rs 5))), (1, .f (.v (.rs 6))), (10, .f (.own 1)), (11, .f (.own 10)), (63, .f (.v (.int .i64))), (64, .f (.v (.int .i64)))], [(.exit 6, [(10, .f (.own 1))])], passkeyref1_Map_L6, []⟩
    | _ => none, fun r => match r with
    | _ => none, fun r => match r with
    | 28 => true
    | _ => false⟩
theorem passkeyref1_Map_L2_eq (y0 : (List (BitVec 64))) (y1 : (List (List ApiItem))) (y2 : Int) (y3 : Int) : run E_passkeyref1_Map A_passkeyref1_Map (loopAt 2 (Tryd.f34.body.getD .skip)) (layC cd [(0, .f (.v (.rs 5))), (1, .f (.v (.rs 6))), (6, .f (.v (.int .i64))), (7, .f (.v (.int .i64)))] [] (y0, y1, y2, y3, ())) (roundK cd [(0, .f (.v (.rs 5))), (1, .f (.v (.rs 6))), (6, .f (.v (.int .i64))), (7, .f (.v (.int .i64)))] [] [(.ret, [(4, .f (.own 1)), (5, .f (.v (.int .i64)))]), (.exit 2, [(0, .f (.v (.rs 5))), (1, .f (.v (.rs 6))), (6, .f (.v (.int .i64)))])]) = passkeyref1_Map_L2b y0 y1 y2 y3 := by kernel_rfl
theorem passkeyref1_Map_L0_eq (y0 : (List (BitVec 64))) (y1 : (List (List ApiItem))) (y2 : Int) : run E_passkeyref1_Map A_passkeyref1_Map (loopAt 0 (Tryd.f34.body.getD .skip)) (layC cd [(0, .f (.v (.rs 5))), (1, .f (.v (.rs 6))), (6, .f (.v (.int .i64)))] [] (y0, y1, y2, ())) (roundK cd [(0, .f (.v (.rs 5))), (1, .f (.v (.rs 6))), (6, .f (.v (.int .i64)))] [] [(.ret, [(4, .f (.own 1)), (5, .f (.v (.int .i64)))]), (.exit 0, [(0, .f (.v (.rs 5))), (1, .f (.v (.rs 6)))])]) = passkeyref1_Map_L0b y0 y1 y2 := by kernel_rfl
theorem passkeyref1_Map_L4_eq (y0 : (List (BitVec 64))) (y1 : (List (List ApiItem))) (y2 : Int) : run E_passkeyref1_Map A_passkeyref1_Map (loopAt 4 (Tryd.f34.body.getD .skip)) (layC cd [(0, .f (.v (.rs 5))), (1, .f (.v (.rs 6))), (8, .f (.v (.int .i64)))] [] (y0, y1, y2, ())) (roundK cd [(0, .f (.v (.rs 5))), (1, .f (.v (.rs 6))), (8, .f (.v (.int .i64)))] [] [(.ret, [(4, .f (.own 1)), (5, .f (.v (.int .i64)))]), (.exit 4, [(0, .f (.v (.rs 5))), (1, .f (.v (.rs 6)))])]) = passkeyref1_Map_L4b y0 y1 y2 := by kernel_rfl
theorem passkeyref1_Map_L8_eq (y0 : (List (BitVec 64))) (y1 : (List (List ApiItem))) (y2 : (List (ApiItem))) (y3 : (List (Bool))) (y4 : Int) (y5 : Int) (y6 : Int) (y7 : Int) : run E_passkeyref1_Map A_passkeyref1_Map (loopAt 8 (Tryd.f34.body.getD .skip)) (layC cd [(0, .f (.v (.rs 5))), (1, .f (.v (.rs 6))), (10, .f (.own 1)), (11, .f (.own 10)), (12, .f (.v (.int .i64))), (13, .f (.v (.int .i64))), (63, .f (.v (.int .i64))), (64, .f (.v (.int .i64)))] [] (y0, y1, y2, y3, y4, y5, y6, y7, ())) (roundK cd [(0, .f (.v (.rs 5))), (1, .f (.v (.rs 6))), (10, .f (.own 1)), (11, .f (.own 10)), (12, .f (.v (.int .i64))), (13, .f (.v (.int .i64))), (63, .f (.v (.int .i64))), (64, .f (.v (.int .i64)))] [] [(.exit 8, [(0, .f (.v (.rs 5))), (1, .f (.v (.rs 6))), (10, .f (.own 1)), (11, .f (.own 10)), (12, .f (.v (.int .i64))), (63, .f (.v (.int .i64))), (64, .f (.v (.int .i64)))])]) = passkeyref1_Map_L8b y0 y1 y2 y3 y4 y5 y6 y7 := by kernel_rfl
theorem passkeyref1_Map_L6_eq (y0 : (List (BitVec 64))) (y1 : (List (List ApiItem))) (y2 : (List (ApiItem))) (y3 : (List (Bool))) (y4 : Int) (y5 : Int) : run E_passkeyref1_Map A_passkeyref1_Map (loopAt 6 (Tryd.f34.body.getD .skip)) (layC cd [(0, .f (.v (.rs 5))), (1, .f (.v (.rs 6))), (10, .f (.own 1)), (11, .f (.own 10)), (63, .f (.v (.int .i64))), (64, .f (.v (.int .i64)))] [] (y0, y1, y2, y3, y4, y5, ())) (roundK cd [(0, .f (.v (.rs 5))), (1, .f (.v (.rs 6))), (10, .f (.own 1)), (11, .f (.own 10)), (63, .f (.v (.int .i64))), (64, .f (.v (.int .i64)))] [] [(.exit 6, [(10, .f (.own 1))])]) = passkeyref1_Map_L6b y0 y1 y2 y3 y4 y5 := by kernel_rfl
theorem passkeyref1_Map_eq (x : tySs T S_passkeyref1_Map.ps) : run E_passkeyref1_Map A_passkeyref1_Map (Tryd.f34.body.getD .skip) (enterT E_passkeyref1_Map.C S_passkeyref1_Map.ps x) (retK E_passkeyref1_Map Tryd.f34.results.toList S_passkeyref1_Map.ps S_passkeyref1_Map.rs) = S_passkeyref1_Map.fn x := by kernel_rfl
theorem passkeyref1_Map_env : EnvOk Tryd.prog E_passkeyref1_Map := envOk (E := E_passkeyref1_Map) cd_ok tys fl_ok fun f ds S h => by
    dsimp only [E_passkeyref1_Map] at h
    split at h
    · cases h; exact passkeyref1_Validate_ok
    · cases h
theorem passkeyref1_Map_L2_ok : LoopOk Tryd.prog E_passkeyref1_Map Tryd.f34.ntmps (kqOf S_passkeyref1_Map.ps 0) (loopAt 2 (Tryd.f34.body.getD .skip)) ⟨[(0, .f (.v (.rs 5))), (1, .f (.v (.rs 6))), (6, .f (.v (.int .i64))), (7, .f (.v (.int .i64)))], [(.ret, [(4, .f (.own 1)), (5, .f (.v (.int .i64)))]), (.exit 2, [(0, .f (.v (.rs 5))), (1, .f (.v (.rs 6))), (6, .f (.v (.int .i64)))])], passkeyref1_Map_L2, []⟩ :=
  loop_ok (A := A_passkeyref1_Map) (done := []) (c0 := (Tryd.f34.body.getD .skip)) hmix passkeyref1_Map_env done_nil rounds (by kernel_rfl) (by kernel_rfl) (fun x => passkeyref1_Map_L2_eq x.1 x.2.1 x.2.2.1 x.2.2.2.1) (fun _ => rfl)
theorem passkeyref1_Map_L0_ok : LoopOk Tryd.prog E_passkeyref1_Map Tryd.f34.ntmps (kqOf S_passkeyref1_Map.ps 0) (loopAt 0 (Tryd.f34.body.getD .skip)) ⟨[(0, .f (.v (.rs 5))), (1, .f (.v (.rs 6))), (6, .f (.v (.int .i64)))], [(.ret, [(4, .f (.own 1)), (5, .f (.v (.int .i64)))]), (.exit 0, [(0, .f (.v (.rs 5))), (1, .f (.v (.rs 6)))])], passkeyref1_Map_L0, []⟩ :=
  loop_ok (A := A_passkeyref1_Map) (done := [2]) (c0 := (Tryd.f34.body.getD .skip)) hmix passkeyref1_Map_env (done_cons rfl passkeyref1_Map_L2_ok done_nil) rounds (by kernel_rfl) (by kernel_rfl) (fun x => passkeyref1_Map_L0_eq x.1 x.2.1 x.2.2.1) (fun _ => rfl)
theorem passkeyref1_Map_L4_ok : LoopOk Tryd.prog E_passkeyref1_Map Tryd.f34.ntmps (kqOf S_passkeyref1_Map.ps 0) (loopAt 4 (Tryd.f34.body.getD .skip)) ⟨[(0, .f (.v (.rs 5))), (1, .f (.v (.rs 6))), (8, .f (.v (.int .i64)))], [(.ret, [(4, .f (.own 1)), (5, .f (.v (.int .i64)))]), (.exit 4, [(0, .f (.v (.rs 5))), (1, .f (.v (.rs 6)))])], passkeyref1_Map_L4, []⟩ :=
  loop_ok (A := A_passkeyref1_Map) (done := [2, 0]) (c0 := (Tryd.f34.body.getD .skip)) hmix passkeyref1_Map_env (done_cons rfl passkeyref1_Map_L2_ok (done_cons rfl passkeyref1_Map_L0_ok done_nil)) rounds (by kernel_rfl) (by kernel_rfl) (fun x => passkeyref1_Map_L4_eq x.1 x.2.1 x.2.2.1) (fun _ => rfl)
theorem passkeyref1_Map_L8_ok : LoopOk Tryd.prog E_passkeyref1_Map Tryd.f34.ntmps (kqOf S_passkeyref1_Map.ps 0) (loopAt 8 (Tryd.f34.body.getD .skip)) ⟨[(0, .f (.v (.rs 5))), (1, .f (.v (.rs 6))), (10, .f (.own 1)), (11, .f (.own 10)), (12, .f (.v (.int .i64))), (13, .f (.v (.int .i64))), (63, .f (.v (.int .i64))), (64, .f (.v (.int .i64)))], [(.exit 8, [(0, .f (.v (.rs 5))), (1, .f (.v (.rs 6))), (10, .f (.own 1)), (11, .f (.own 10)), (12, .f (.v (.int .i64))), (63, .f (.v (.int .i64))), (64, .f (.v (.int .i64)))])], passkeyref1_Map_L8, []⟩ :=
  loop_ok (A := A_passkeyref1_Map) (done := [2, 0, 4]) (c0 := (Tryd.f34.body.getD .skip)) hmix passkeyref1_Map_env (done_cons rfl passkeyref1_Map_L2_ok (done_cons rfl passkeyref1_Map_L0_ok (done_cons rfl passkeyref1_Map_L4_ok done_nil))) rounds (by kernel_rfl) (by kernel_rfl) (fun x => passkeyref1_Map_L8_eq x.1 x.2.1 x.2.2.1 x.2.2.2.1 x.2.2.2.2.1 x.2.2.2.2.2.1 x.2.2.2.2.2.2.1 x.2.2.2.2.2.2.2.1) (fun _ => rfl)
theorem passkeyref1_Map_L6_ok : LoopOk Tryd.prog E_passkeyref1_Map Tryd.f34.ntmps (kqOf S_passkeyref1_Map.ps 0) (loopAt 6 (Tryd.f34.body.getD .skip)) ⟨[(0, .f (.v (.rs 5))), (1, .f (.v (.rs 6))), (10, .f (.own 1)), (11, .f (.own 10)), (63, .f (.v (.int .i64))), (64, .f (.v (.int .i64)))], [(.exit 6, [(10, .f (.own 1))])], passkeyref1_Map_L6, []⟩ :=
  loop_ok (A := A_passkeyref1_Map) (done := [2, 0, 4, 8]) (c0 := (Tryd.f34.body.getD .skip)) hmix passkeyref1_Map_env (done_cons rfl passkeyref1_Map_L2_ok (done_cons rfl passkeyref1_Map_L0_ok (done_cons rfl passkeyref1_Map_L4_ok (done_cons rfl passkeyref1_Map_L8_ok done_nil)))) rounds (by kernel_rfl) (by kernel_rfl) (fun x => passkeyref1_Map_L6_eq x.1 x.2.1 x.2.2.1 x.2.2.2.1 x.2.2.2.2.1 x.2.2.2.2.2.1) (fun _ => rfl)
theorem passkeyref1_Map_ok : SoundT Tryd.prog cd gdn 34 S_passkeyref1_Map :=
  sound_fn (E := E_passkeyref1_Map) (A := A_passkeyref1_Map) (done := [2, 0, 4, 8, 6]) (c := (Tryd.f34.body.getD .skip)) (S := S_passkeyref1_Map) (fn := Tryd.f34) hmix passkeyref1_Map_env Tryd.func34 rfl (by kernel_rfl) (by kernel_rfl) (done_cons rfl passkeyref1_Map_L2_ok (done_cons rfl passkeyref1_Map_L0_ok (done_cons rfl passkeyref1_Map_L4_ok (done_cons rfl passkeyref1_Map_L8_ok (done_cons rfl passkeyref1_Map_L6_ok done_nil))))) (by kernel_rfl) (by kernel_rfl) passkeyref1_Map_eq
def cbor_Array_L0b (y0 : (List (ApiItem))) (y1 : (List (List ApiItem))) (y2 : Int) (y3 : Int) : Option (((List (ApiItem)) × (List (List ApiItem)) × Int × Int × Unit) ⊕ ((List (ApiItem)) × Unit)) :=
 (bif (decide (y3 < y2)) then ((getI y1 y3).bind fun x3 => (bif (decide ((512 : Int) < ((y0).length : Int))) then (some (Sum.inr (y0, ())))
 else (bif small ((y0).length + (x3 : List (ApiItem)).length) 32 then (some (Sum.inl ((y0 ++ x3), y1, y2, (IntKind.wrap .i64 (y3 + (1 : Int))), ())))
 else none)))
 else (some (Sum.inr (y0, ()))))
def cbor_Array_L0 (y : ((List (ApiItem)) × (List (List ApiItem)) × Int × Int × Unit)) : Option ((List (ApiItem)) × Unit) := iter (fun (y : ((List (ApiItem)) × (List (List ApiItem)) × Int × Int × Unit)) => cbor_Array_L0b y.1 y.2.1 y.2.2.1 y.2.2.2.1) rounds y
def cbor_Array (a0 : (List (List ApiItem))) : Option ((Unit) × ((List (ApiItem)) × Int × Unit)) :=
 ((cbor_faulty a0).bind fun r1 => (bif (!decide (r1.2.1 = (0 : Int))) then (some ((), ([], r1.2.1, ())))
 else (let v2 : List (ApiItem) := ([(⟨(5 : Int), (BitVec.ofInt 64 ((a0).length : Int)), ([] : List UInt8)⟩ : ApiItem)] : List (ApiItem))
 ((cbor_Array_L0 (v2, a0, ((a0).length : Int), (0 : Int), ())).bind (fun (z4 : ((List (ApiItem)) × Unit)) => ((cbor_checked z4.1).bind fun r5 => (some ((), (r5.2.1, r5.2.2.1, ())))))))))
def S_cbor_Array : FSpec T := ⟨[.f (.v (.rs 6))], [(.v (.rs 1)), (.v (.int .i64))], fun x => cbor_Array x.1⟩
def E_cbor_Array : Env T := ⟨tab.find, cd, globs, flc, fun f ds => match f with
    | 49 => some S_cbor_faulty
    | 50 => some S_cbor_checked
    | _ => none, fun f => match f with
    | 49 => true
    | _ => false⟩
def A_cbor_Array : Loc2 T := ⟨fun id => match id with
    | 0 => some ⟨[(5, .f (.own 1)), (18, .f (.v (.rs 6))), (19, .f (.v (.int .i64))), (20, .f (.v (.int .i64)))], [(.exit 0, [(5, .f (.own 1))])], cbor_Array_L0, []⟩
    | _ => none, fun r => match r with
    | _ => none, fun r => match r with
    | _ => false⟩
theorem cbor_Array_L0_eq (y0 : (List (ApiItem))) (y1 : (List (List ApiItem))) (y2 : Int) (y3 : Int) : run E_cbor_Array A_cbor_Array (loopAt 0 (Tryd.f35.body.getD .skip)) (layC cd [(5, .f (.own 1)), (18, .f (.v (.rs 6))), (19, .f (.v (.int .i64))), (20, .f (.v (.int .i64)))] [] (y0, y1, y2, y3, ())) (roundK cd [(5, .f (.own 1)), (18, .f (.v (.rs 6))), (19, .f (.v (.int .i64))), (20, .f (.v (.int .i64)))] [] [(.exit 0, [(5, .f (.own 1))])]) = cbor_Array_L0b y0 y1 y2 y3 := by kernel_rfl
theorem cbor_Array_eq (x : tySs T S_cbor_Array.ps) : run E_cbor_Array A_cbor_Array (Tryd.f35.body.getD .skip) (enterT E_cbor_Array.C S_cbor_Array.ps x) (retK E_cbor_Array Tryd.f35.results.toList S_cbor_Array.ps S_cbor_Array.rs) = S_cbor_Array.fn x := by kernel_rfl
theorem cbor_Array_env : EnvOk Tryd.prog E_cbor_Array := envOk (E := E_cbor_Array) cd_ok tys fl_ok fun f ds S h => by
    dsimp only [E_cbor_Array] at h
    split at h
    · cases h; exact cbor_faulty_ok
    · cases h; exact cbor_checked_ok
    · cases h
theorem cbor_Array_L0_ok : LoopOk Tryd.prog E_cbor_Array Tryd.f35.ntmps (kqOf S_cbor_Array.ps 0) (loopAt 0 (Tryd.f35.body.getD .skip)) ⟨[(5, .f (.own 1)), (18, .f (.v (.rs 6))), (19, .f (.v (.int .i64))), (20, .f (.v (.int .i64)))], [(.exit 0, [(5, .f (.own 1))])], cbor_Array_L0, []⟩ :=
  loop_ok (A := A_cbor_Array) (done := []) (c0 := (Tryd.f35.body.getD .skip)) hmix cbor_Array_env done_nil rounds (by kernel_rfl) (by kernel_rfl) (fun x => cbor_Array_L0_eq x.1 x.2.1 x.2.2.1 x.2.2.2.1) (fun _ => rfl)
theorem cbor_Array_ok : SoundT Tryd.prog cd gdn 35 S_cbor_Array :=
  sound_fn (E := E_cbor_Array) (A := A_cbor_Array) (done := [0]) (c := (Tryd.f35.body.getD .skip)) (S := S_cbor_Array) (fn := Tryd.f35) hmix cbor_Array_env Tryd.func35 rfl (by kernel_rfl) (by kernel_rfl) (done_cons rfl cbor_Array_L0_ok done_nil) (by kernel_rfl) (by kernel_rfl) cbor_Array_eq
def passkeyref1_Array_L0b (y0 : (List (List ApiItem))) (y1 : (List (ApiItem))) (y2 : Int) : Option (((List (List ApiItem)) × (List (ApiItem)) × Int × Unit) ⊕ (((List (ApiItem)) × Int × Unit) ⊕ ((List (ApiItem)) × Unit))) :=
 (bif (decide (y2 < ((y0).length : Int))) then ((getI y0 y2).bind fun x2 => ((passkeyref1_Validate x2).bind fun r3 => (bif (!decide (r3.2.1 = (0 : Int))) then (some (Sum.inr (Sum.inl ([], r3.2.1, ()))))
 else ((getI y0 y2).bind fun x4 => (bif small ((y1).length + (x4 : List (ApiItem)).length) 32 then (some (Sum.inl (y0, (y1 ++ x4), (IntKind.wrap .i64 (y2 + (1 : Int))), ())))
 else none)))))
 else (some (Sum.inr (Sum.inr (y1, ())))))
def passkeyref1_Array_L0 (y : ((List (List ApiItem)) × (List (ApiItem)) × Int × Unit)) : Option (((List (ApiItem)) × Int × Unit) ⊕ ((List (ApiItem)) × Unit)) := iter (fun (y : ((List (List ApiItem)) × (List (ApiItem)) × Int × Unit)) => passkeyref1_Array_L0b y.1 y.2.1 y.2.2.1) rounds y
def passkeyref1_Array (a0 : (List (List ApiItem))) : Option ((Unit) × ((List (ApiItem)) × Int × Unit)) :=
 (let v1 : List (ApiItem) := ([(⟨(5 : Int), (BitVec.ofInt 64 ((a0).length : Int)), ([] : List UInt8)⟩ : ApiItem)] : List (ApiItem))
 ((passkeyref1_Array_L0 (a0, v1, (0 : Int), ())).bind (Sum.elim (fun (z5 : ((List (ApiItem)) × Int × Unit)) => (some ((), (z5.1, z5.2.1, ())))) (fun (z6 : ((List (ApiItem)) × Unit)) => ((passkeyref1_Validate z6.1).bind fun r7 => (bif (!decide (r7.2.1 = (0 : Int))) then (some ((), ([], r7.2.1, ())))
 else (some ((), (z6.1, (0 : Int), ())))))))))
def S_passkeyref1_Array : FSpec T := ⟨[.f (.v (.rs 6))], [(.own 1), (.v (.int .i64))], fun x => passkeyref1_Array x.1⟩
def E_passkeyref1_Array : Env T := ⟨tab.find, cd, globs, flc, fun f ds => match f with
    | 19 => some S_passkeyref1_Validate
    | _ => none, fun f => match f with
    | 19 => true
    | _ => false⟩
def A_passkeyref1_Array : Loc2 T := ⟨fun id => match id with
    | 0 => some ⟨[(0, .f (.v (.rs 6))), (4, .f (.own 1)), (5, .f (.v (.int .i64)))], [(.ret, [(2, .f (.own 1)), (3, .f (.v (.int .i64)))]), (.exit 0, [(4, .f (.own 1))])], passkeyref1_Array_L0, []⟩
    | _ => none, fun r => match r with
    | _ => none, fun r => match r with
    | _ => false⟩
theorem passkeyref1_Array_L0_eq (y0 : (List (List ApiItem))) (y1 : (List (ApiItem))) (y2 : Int) : run E_passkeyref1_Array A_passkeyref1_Array (loopAt 0 (Tryd.f36.body.getD .skip)) (layC cd [(0, .f (.v (.rs 6))), (4, .f (.own 1)), (5, .f (.v (.int .i64)))] [] (y0, y1, y2, ())) (roundK cd [(0, .f (.v (.rs 6))), (4, .f (.own 1)), (5, .f (.v (.int .i64)))] [] [(.ret, [(2, .f (.own 1)), (3, .f (.v (.int .i64)))]), (.exit 0, [(4, .f (.own 1))])]) = passkeyref1_Array_L0b y0 y1 y2 := by kernel_rfl
theorem passkeyref1_Array_eq (x : tySs T S_passkeyref1_Array.ps) : run E_passkeyref1_Array A_passkeyref1_Array (Tryd.f36.body.getD .skip) (enterT E_passkeyref1_Array.C S_passkeyref1_Array.ps x) (retK E_passkeyref1_Array Tryd.f36.results.toList S_passkeyref1_Array.ps S_passkeyref1_Array.rs) = S_passkeyref1_Array.fn x := by kernel_rfl
theorem passkeyref1_Array_env : EnvOk Tryd.prog E_passkeyref1_Array := envOk (E := E_passkeyref1_Array) cd_ok tys fl_ok fun f ds S h => by
    dsimp only [E_passkeyref1_Array] at h
    split at h
    · cases h; exact passkeyref1_Validate_ok
    · cases h
theorem passkeyref1_Array_L0_ok : LoopOk Tryd.prog E_passkeyref1_Array Tryd.f36.ntmps (kqOf S_passkeyref1_Array.ps 0) (loopAt 0 (Tryd.f36.body.getD .skip)) ⟨[(0, .f (.v (.rs 6))), (4, .f (.own 1)), (5, .f (.v (.int .i64)))], [(.ret, [(2, .f (.own 1)), (3, .f (.v (.int .i64)))]), (.exit 0, [(4, .f (.own 1))])], passkeyref1_Array_L0, []⟩ :=
  loop_ok (A := A_passkeyref1_Array) (done := []) (c0 := (Tryd.f36.body.getD .skip)) hmix passkeyref1_Array_env done_nil rounds (by kernel_rfl) (by kernel_rfl) (fun x => passkeyref1_Array_L0_eq x.1 x.2.1 x.2.2.1) (fun _ => rfl)
theorem passkeyref1_Array_ok : SoundT Tryd.prog cd gdn 36 S_passkeyref1_Array :=
  sound_fn (E := E_passkeyref1_Array) (A := A_passkeyref1_Array) (done := [0]) (c := (Tryd.f36.body.getD .skip)) (S := S_passkeyref1_Array) (fn := Tryd.f36) hmix passkeyref1_Array_env Tryd.func36 rfl (by kernel_rfl) (by kernel_rfl) (done_cons rfl passkeyref1_Array_L0_ok done_nil) (by kernel_rfl) (by kernel_rfl) passkeyref1_Array_eq
def passkeylaw1_CborMaps_L0b (y0 : (List (BitVec 64))) (y1 : (List (Int))) (y2 : Int) (y3 : (List (List ApiItem))) (y4 : Int) : Option (((List (BitVec 64)) × (List (Int)) × Int × (List (List ApiItem)) × Int × Unit) ⊕ ((List (BitVec 64)) × Int × (List (List ApiItem)) × Unit)) :=
 (bif (decide (y4 < ((y0).length : Int))) then (let v2 : Int := (bif decide ((IntKind.wrap .i64 ((2 : Int) * y4)) < ((y1).length : Int)) then (IntKind.wrap .i64 ((2 : Int) * y4)) else ((y1).length : Int))
 (bif (decide ((0 : Int) ≤ v2) && decide (v2 ≤ ((y1).length : Int))) then ((passkeybase_Tree (List.drop (v2).toNat y1)).bind fun r3 => (bif small ((y3).length + (([r3.2.1] : List (List ApiItem)) : List (List ApiItem)).length) 24 then (some (Sum.inl (y0, y1, y2, (y3 ++ ([r3.2.1] : List (List ApiItem))), (IntKind.wrap .i64 (y4 + (1 : Int))), ())))
 else none))
 else none))
 else (some (Sum.inr (y0, y2, y3, ()))))
def passkeylaw1_CborMaps_L0 (y : ((List (BitVec 64)) × (List (Int)) × Int × (List (List ApiItem)) × Int × Unit)) : Option ((List (BitVec 64)) × Int × (List (List ApiItem)) × Unit) := iter (fun (y : ((List (BitVec 64)) × (List (Int)) × Int × (List (List ApiItem)) × Int × Unit)) => passkeylaw1_CborMaps_L0b y.1 y.2.1 y.2.2.1 y.2.2.2.1 y.2.2.2.2.1) rounds y
def passkeylaw1_CborMaps_L2b (y0 : (List (BitVec 64))) (y1 : (List (List ApiItem))) (y2 : (List (ApiItem))) (y3 : Int) (y4 : Int) : Option (((List (BitVec 64)) × (List (List ApiItem)) × (List (ApiItem)) × Int × Int × Unit) ⊕ ((Bool × Unit) ⊕ (Unit))) :=
 (bif (decide (y4 < ((y0).length : Int))) then (bif (decide (y3 = (0 : Int))) then ((getI y0 y4).bind fun x21 => ((cbor_Lookup y2 x21).bind fun r22 => (bif (!r22.2.2.1) then (some (Sum.inr (Sum.inl (false, ()))))
 else ((getI y1 y4).bind fun x23 => ((passkeyref1_SameItems r22.2.1 x23).bind fun r24 => (bif (!r24.2.1) then (some (Sum.inr (Sum.inl (false, ()))))
 else (some (Sum.inl (y0, y1, y2, y3, (IntKind.wrap .i64 (y4 + (1 : Int))), ())))))))))
 else (some (Sum.inr (Sum.inr ()))))
 else (some (Sum.inr (Sum.inr ()))))
def passkeylaw1_CborMaps_L2 (y : ((List (BitVec 64)) × (List (List ApiItem)) × (List (ApiItem)) × Int × Int × Unit)) : Option ((Bool × Unit) ⊕ (Unit)) := iter (fun (y : ((List (BitVec 64)) × (List (List ApiItem)) × (List (ApiItem)) × Int × Int × Unit)) => passkeylaw1_CborMaps_L2b y.1 y.2.1 y.2.2.1 y.2.2.2.1 y.2.2.2.2.1) rounds y
def passkeylaw1_CborMaps (a0 : (List (BitVec 64))) (a1 : (List (Int))) (a2 : Int) : Option ((Unit) × (Bool × Unit)) :=
 (bif (decide ((12 : Int) < ((a0).length : Int))) then ((passkeylaw1_awake).bind fun r1 => (some ((), (r1.2.1, ()))))
 else ((passkeylaw1_CborMaps_L0 (a0, a1, a2, [], (0 : Int), ())).bind (fun (z4 : ((List (BitVec 64)) × Int × (List (List ApiItem)) × Unit)) => ((let v5 : Int := (IntKind.wrap .i64 ((BitVec.ofInt (IntKind.bits .i64) z4.2.1 &&& BitVec.ofInt (IntKind.bits .i64) (15 : Int)).toNat : Int))
 (bif (decide (v5 = (0 : Int))) then ((cbor_Bool true).bind fun r6 => (bif small ((z4.2.2.1).length + (([r6.2.1] : List (List ApiItem)) : List (List ApiItem)).length) 24 then (let v7 : List (List ApiItem) := (z4.2.2.1 ++ ([r6.2.1] : List (List ApiItem)))
 (some (z4.1, z4.2.1, v7, ())))
 else none))
 else (some (z4.1, z4.2.1, z4.2.2.1, ())))).bind (fun (j8 : ((List (BitVec 64)) × Int × (List (List ApiItem)) × Unit)) => ((let v9 : Int := (IntKind.wrap .i64 ((BitVec.ofInt (IntKind.bits .i64) j8.2.1 &&& BitVec.ofInt (IntKind.bits .i64) (15 : Int)).toNat : Int))
 (bif (decide (v9 = (1 : Int))) then (bif (decide ((0 : Int) < ((j8.2.2.1).length : Int))) then (bif decide ((0 : Int) < ((j8.2.2.1).length : Int)) then (((j8.2.2.1)[0]?).bind fun x10 => (let v11 : Int := (IntKind.wrap .i64 ((BitVec.ofInt (IntKind.bits .i64) (Int.fdiv j8.2.1 (2 ^ (min 4 (IntKind.bits .i64)))) &&& BitVec.ofInt (IntKind.bits .i64) (1048575 : Int)).toNat : Int))
 ((passkeylaw1_spoil x10 v11).bind fun r12 => (bif decide ((0 : Int) < ((j8.2.2.1).length : Int)) then (((j8.2.2.1)[0]?).bind fun x13 => (some (j8.1, (List.set j8.2.2.1 0 r12.2.1), ())))
 else none))))
 else none)
 else (some (j8.1, j8.2.2.1, ())))
 else (some (j8.1, j8.2.2.1, ())))).bind (fun (j14 : ((List (BitVec 64)) × (List (List ApiItem)) × Unit)) => ((cbor_Map j14.1 j14.2.1).bind fun r15 => ((passkeyref1_Map j14.1 j14.2.1).bind fun r16 => ((cbor_Array j14.2.1).bind fun r17 => ((passkeyref1_Array j14.2.1).bind fun r18 => (bif (!decide (r15.2.2.1 = r16.2.2.1)) then (some ((), (false, ())))
 else ((passkeyref1_SameItems r15.2.1 r16.2.1).bind fun r19 => (bif (!r19.2.1) then (some ((), (false, ())))
 else (bif (!decide (r17.2.2.1 = r18.2.2.1)) then (some ((), (false, ())))
 else ((passkeyref1_SameItems r17.2.1 r18.2.1).bind fun r20 => (bif (!r20.2.1) then (some ((), (false, ())))
 else ((passkeylaw1_CborMaps_L2 (j14.1, j14.2.1, r15.2.1, r15.2.2.1, (0 : Int), ())).bind (Sum.elim (fun (z25 : (Bool × Unit)) => (some ((), (z25.1, ())))) (fun (z26 : (Unit)) => ((passkeylaw1_awake).bind fun r27 => (some ((), (r27.2.1, ()))))))))))))))))))))))))
def S_passkeylaw1_CborMaps : FSpec T := ⟨[.f (.v (.rs 5)), .f (.v (.rs 7)), .f (.v (.int .i64))], [(.v .bool)], fun x => passkeylaw1_CborMaps x.1 x.2.1 x.2.2.1⟩
def E_passkeylaw1_CborMaps : Env T := ⟨tab.find, cd, globs, flc, fun f ds => match f with
    | 15 => some S_passkeylaw1_awake
    | 20 => some S_passkeybase_Tree
    | 21 => some S_passkeylaw1_spoil
    | 24 => some S_passkeyref1_SameItems
    | 28 => some S_cbor_Bool
    | 31 => some S_cbor_Lookup
    | 33 => some S_cbor_Map
    | 34 => some S_passkeyref1_Map
    | 35 => some S_cbor_Array
    | 36 => some S_passkeyref1_Array
    | _ => none, fun f => match f with
    | 15 => true
    | 24 => true
    | _ => false⟩
def A_passkeylaw1_CborMaps : Loc2 T := ⟨fun id => match id with
    | 0 => some ⟨[(0, .f (.v (.rs 5))), (1, .f (.v (.rs 7))), (2, .f (.v (.int .i64))), (7, .f (.own 6)), (8, .f (.v (.int .i64)))], [(.exit 0, [(0, .f (.v (.rs 5))), (2, .f (.v (.int .i64))), (7, .f (.own 6))])], passkeylaw1_CborMaps_L0, []⟩
    | 2 => some ⟨[(0, .f (.v (.rs 5))), (7, .f (.v (.rs 6))), (9, .f (.v (.rs 1))), (10, .f (.v (.int .i64))), (17, .f (.v (.int .i64)))], [(.ret, [(6, .f (.v .bool))]), (.exit 2, [])], passkeylaw1_CborMaps_L2, []⟩
    | _ => none, fun r => match r with
    | 10 => some ([(0, .f (.v (.rs 5))), (2, .f (.v (.int .i64))), (7, .f (.own 6))], true)
    | 12 => some ([(0, .f (.v (.rs 5))), (7, .f (.own 6))], true)
    | _ => none, fun r => match r with
    | _ => false⟩
theorem passkeylaw1_CborMaps_L0_eq (y0 : (List (BitVec 64))) (y1 : (List (Int))) (y2 : Int) (y3 : (List (List ApiItem))) (y4 : Int) : run E_passkeylaw1_CborMaps A_passkeylaw1_CborMaps (loopAt 0 (Tryd.f13.body.getD .skip)) (layC cd [(0, .f (.v (.rs 5))), (1, .f (.v (.rs 7))), (2, .f (.v (.int .i64))), (7, .f (.own 6)), (8, .f (.v (.int .i64)))] [] (y0, y1, y2, y3, y4, ())) (roundK cd [(0, .f (.v (.rs 5))), (1, .f (.v (.rs 7))), (2, .f (.v (.int .i64))), (7, .f (.own 6)), (8, .f (.v (.int .i64)))] [] [(.exit 0, [(0, .f (.v (.rs 5))), (2, .f (.v (.int .i64))), (7, .f (.own 6))])]) = passkeylaw1_CborMaps_L0b y0 y1 y2 y3 y4 := by kernel_rfl
theorem passkeylaw1_CborMaps_L2_eq (y0 : (List (BitVec 64))) (y1 : (List (List ApiItem))) (y2 : (List (ApiItem))) (y3 : Int) (y4 : Int) : run E_passkeylaw1_CborMaps A_passkeylaw1_CborMaps (loopAt 2 (Tryd.f13.body.getD .skip)) (layC cd [(0, .f (.v (.rs 5))), (7, .f (.v (.rs 6))), (9, .f (.v (.rs 1))), (10, .f (.v (.int .i64))), (17, .f (.v (.int .i64)))] [] (y0, y1, y2, y3, y4, ())) (roundK cd [(0, .f (.v (.rs 5))), (7, .f (.v (.rs 6))), (9, .f (.v (.rs 1))), (10, .f (.v (.int .i64))), (17, .f (.v (.int .i64)))] [] [(.ret, [(6, .f (.v .bool))]), (.exit 2, [])]) = passkeylaw1_CborMaps_L2b y0 y1 y2 y3 y4 := by kernel_rfl
theorem passkeylaw1_CborMaps_eq (x : tySs T S_passkeylaw1_CborMaps.ps) : run E_passkeylaw1_CborMaps A_passkeylaw1_CborMaps (Tryd.f13.body.getD .skip) (enterT E_passkeylaw1_CborMaps.C S_passkeylaw1_CborMaps.ps x) (retK E_passkeylaw1_CborMaps Tryd.f13.results.toList S_passkeylaw1_CborMaps.ps S_passkeylaw1_CborMaps.rs) = S_passkeylaw1_CborMaps.fn x := by kernel_rfl
theorem passkeylaw1_CborMaps_env : EnvOk Tryd.prog E_passkeylaw1_CborMaps := envOk (E := E_passkeylaw1_CborMaps) cd_ok tys fl_ok fun f ds S h => by
    dsimp only [E_passkeylaw1_CborMaps] at h
    split at h
    · cases h; exact passkeylaw1_awake_ok
    · cases h; exact passkeybase_Tree_ok
    · cases h; exact passkeylaw1_spoil_ok
    · cases h; exact passkeyref1_SameItems_ok
    · cases h; exact cbor_Bool_ok
    · cases h; exact cbor_Lookup_ok
    · cases h; exact cbor_Map_ok
    · cases h; exact passkeyref1_Map_ok
    · cases h; exact cbor_Array_ok
    · cases h; exact passkeyref1_Array_ok
    · cases h
theorem passkeylaw1_CborMaps_L0_ok : LoopOk Tryd.prog E_passkeylaw1_CborMaps Tryd.f13.ntmps (kqOf S_passkeylaw1_CborMaps.ps 0) (loopAt 0 (Tryd.f13.body.getD .skip)) ⟨[(0, .f (.v (.rs 5))), (1, .f (.v (.rs 7))), (2, .f (.v (.int .i64))), (7, .f (.own 6)), (8, .f (.v (.int .i64)))], [(.exit 0, [(0, .f (.v (.rs 5))), (2, .f (.v (.int .i64))), (7, .f (.own 6))])], passkeylaw1_CborMaps_L0, []⟩ :=
  loop_ok (A := A_passkeylaw1_CborMaps) (done := []) (c0 := (Tryd.f13.body.getD .skip)) hmix passkeylaw1_CborMaps_env done_nil rounds (by kernel_rfl) (by kernel_rfl) (fun x => passkeylaw1_CborMaps_L0_eq x.1 x.2.1 x.2.2.1 x.2.2.2.1 x.2.2.2.2.1) (fun _ => rfl)
theorem passkeylaw1_CborMaps_L2_ok : LoopOk Tryd.prog E_passkeylaw1_CborMaps Tryd.f13.ntmps (kqOf S_passkeylaw1_CborMaps.ps 0) (loopAt 2 (Tryd.f13.body.getD .skip)) ⟨[(0, .f (.v (.rs 5))), (7, .f (.v (.rs 6))), (9, .f (.v (.rs 1))), (10, .f (.v (.int .i64))), (17, .f (.v (.int .i64)))], [(.ret, [(6, .f (.v .bool))]), (.exit 2, [])], passkeylaw1_CborMaps_L2, []⟩ :=
  loop_ok (A := A_passkeylaw1_CborMaps) (done := [0]) (c0 := (Tryd.f13.body.getD .skip)) hmix passkeylaw1_CborMaps_env (done_cons rfl passkeylaw1_CborMaps_L0_ok done_nil) rounds (by kernel_rfl) (by kernel_rfl) (fun x => passkeylaw1_CborMaps_L2_eq x.1 x.2.1 x.2.2.1 x.2.2.2.1 x.2.2.2.2.1) (fun _ => rfl)
theorem passkeylaw1_CborMaps_ok : SoundT Tryd.prog cd gdn 13 S_passkeylaw1_CborMaps :=
  sound_fn (E := E_passkeylaw1_CborMaps) (A := A_passkeylaw1_CborMaps) (done := [0, 2]) (c := (Tryd.f13.body.getD .skip)) (S := S_passkeylaw1_CborMaps) (fn := Tryd.f13) hmix passkeylaw1_CborMaps_env Tryd.func13 rfl (by kernel_rfl) (by kernel_rfl) (done_cons rfl passkeylaw1_CborMaps_L0_ok (done_cons rfl passkeylaw1_CborMaps_L2_ok done_nil)) (by kernel_rfl) (by kernel_rfl) passkeylaw1_CborMaps_eq
def CborLookups_dom (a0 : (List (Int))) (a1 : Int) (a2 : (BitVec 64)) : Prop := ArgD cd [(.rs 7), (.int .i64), .u64] (a0, a1, a2, ())
def CborMaps_dom (a0 : (List (BitVec 64))) (a1 : (List (Int))) (a2 : Int) : Prop := ArgD cd [(.rs 5), (.rs 7), (.int .i64)] (a0, a1, a2, ())
end Go.Proofs.YtjedfmknnkimmaaDoor

/- The functions of the program, as plain functions, and that the program computes them. Written by a program. -/
import Derived.Test.YtjedfmknnkimmaaDoorFns0
set_option linter.unusedVariables false
set_option maxRecDepth 100000
namespace Go.Proofs.YtjedfmknnkimmaaDoor
open Go Go.Abs
def passkeyref1_reader_head_L1b (y0 : ((List UInt8) × Int × (List (ApiItem)) × Unit)) (y1 : (ApiItem × Unit)) (y2 : Int) (y3 : Int) (y4 : (BitVec 64)) (y5 : Int) : Option ((((List UInt8) × Int × (List (ApiItem)) × Unit) × (ApiItem × Unit) × Int × Int × (BitVec 64) × Int × Unit) ⊕ (((List UInt8) × Int × (List (ApiItem)) × Unit) × (ApiItem × Unit) × Int × Int × (BitVec 64) × Unit)) :=
 (bif (decide (y5 < y3)) then (let v12 : Int := (IntKind.wrap .i64 ((IntKind.wrap .i64 (y0.2.1 + (1 : Int))) + y5))
 ((getI y0.1 v12).bind fun x13 => (some (Sum.inl ((y0.1, y0.2.1, y0.2.2.1, ()), (y1.1, ()), y2, y3, ((y4 <<< 8) ||| (BitVec.setWidth 64 x13.toBitVec)), (IntKind.wrap .i64 (y5 + (1 : Int))), ())))))
 else (some (Sum.inr ((y0.1, y0.2.1, y0.2.2.1, ()), (y1.1, ()), y2, y3, y4, ()))))

def passkeyref1_reader_head_L1 (y : (((List UInt8) × Int × (List (ApiItem)) × Unit) × (ApiItem × Unit) × Int × Int × (BitVec 64) × Int × Unit)) : Option (((List UInt8) × Int × (List (ApiItem)) × Unit) × (ApiItem × Unit) × Int × Int × (BitVec 64) × Unit) := iter (fun (y : (((List UInt8) × Int × (List (ApiItem)) × Unit) × (ApiItem × Unit) × Int × Int × (BitVec 64) × Int × Unit)) => passkeyref1_reader_head_L1b y.1 y.2.1 y.2.2.1 y.2.2.2.1 y.2.2.2.2.1 y.2.2.2.2.2.1) rounds y

def passkeyref1_reader_head (a0 : ((List UInt8) × Int × (List (ApiItem)) × Unit)) : Option ((((List UInt8) × Int × (List (ApiItem)) × Unit) × Unit) × (ApiItem × Int × Unit)) :=
 (bif (decide (((a0.1).length : Int) ≤ a0.2.1)) then (some (((a0.1, a0.2.1, a0.2.2.1, ()), ()), ((⟨(0 : Int), 0#64, ([] : List UInt8)⟩ : ApiItem), (1 : Int), ())))
 else ((getI a0.1 a0.2.1).bind fun x1 => ((bif (decide (x1.toBitVec = (244 : UInt8).toBitVec)) then (bif (decide (x1.toBitVec = (244 : UInt8).toBitVec)) then (let v2 : BitVec 64 := (BitVec.setWidth 64 (UInt8.ofBitVec (x1.toBitVec - (244 : UInt8).toBitVec)).toBitVec)
 (((some (((a0.1, (IntKind.wrap .i64 (a0.2.1 + (1 : Int))), a0.2.2.1, ()), ()), ((⟨(7 : Int), v2, ([] : List UInt8)⟩ : ApiItem), (0 : Int), ())))).bind fun q => some (Sum.inr q)))
 else (bif (decide (x1.toBitVec = (246 : UInt8).toBitVec)) then (((some (((a0.1, (IntKind.wrap .i64 (a0.2.1 + (1 : Int))), a0.2.2.1, ()), ()), ((⟨(8 : Int), 0#64, ([] : List UInt8)⟩ : ApiItem), (0 : Int), ())))).bind fun q => some (Sum.inr q))
 else (some (Sum.inl ((a0.1, a0.2.1, a0.2.2.1, ()), ((⟨(0 : Int), 0#64, ([] : List UInt8)⟩ : ApiItem), ()), x1, ())))))
 else (bif (decide (x1.toBitVec = (245 : UInt8).toBitVec)) then (let v3 : BitVec 64 := (BitVec.setWidth 64 (UInt8.ofBitVec (x1.toBitVec - (244 : UInt8).toBitVec)).toBitVec)
 (((some (((a0.1, (IntKind.wrap .i64 (a0.2.1 + (1 : Int))), a0.2.2.1, ()), ()), ((⟨(7 : Int), v3, ([] : List UInt8)⟩ : ApiItem), (0 : Int), ())))).bind fun q => some (Sum.inr q)))
 else (bif (decide (x1.toBitVec = (246 : UInt8).toBitVec)) then (((some (((a0.1, (IntKind.wrap .i64 (a0.2.1 + (1 : Int))), a0.2.2.1, ()), ()), ((⟨(8 : Int), 0#64, ([] : List UInt8)⟩ : ApiItem), (0 : Int), ())))).bind fun q => some (Sum.inr q))
 else (some (Sum.inl ((a0.1, a0.2.1, a0.2.2.1, ()), ((⟨(0 : Int), 0#64, ([] : List UInt8)⟩ : ApiItem), ()), x1, ())))))).bind (Sum.elim (fun (j4 : (((List UInt8) × Int × (List (ApiItem)) × Unit) × (ApiItem × Unit) × UInt8 × Unit)) => (let v5 : Int := ((UInt8.ofBitVec (j4.2.2.1.toBitVec >>> 5)).toBitVec.toNat : Int)
 (let v6 : UInt8 := (UInt8.ofBitVec (j4.2.2.1.toBitVec &&& (31 : UInt8).toBitVec))
 (bif (decide ((5 : Int) < v5)) then (some (((j4.1.1, j4.1.2.1, j4.1.2.2.1, ()), ()), ((⟨(0 : Int), 0#64, ([] : List UInt8)⟩ : ApiItem), (2 : Int), ())))
 else (bif (decide ((27 : Int) < (v6.toBitVec.toNat : Int))) then (some (((j4.1.1, j4.1.2.1, j4.1.2.2.1, ()), ()), ((⟨(0 : Int), 0#64, ([] : List UInt8)⟩ : ApiItem), (2 : Int), ())))
 else ((bif (decide ((24 : Int) ≤ (v6.toBitVec.toNat : Int))) then (let v7 : BitVec 64 := (BitVec.ofInt 64 (IntKind.wrap .i64 ((v6.toBitVec.toNat : Int) - (24 : Int))))
 (let v8 : Int := (IntKind.wrap .i64 ((1 : Int) * 2 ^ (min v7.toNat (IntKind.bits .i64))))
 (some ((j4.1.1, j4.1.2.1, j4.1.2.2.1, ()), (j4.2.1.1, ()), v5, (v6.toBitVec.toNat : Int), v8, ()))))
 else (some ((j4.1.1, j4.1.2.1, j4.1.2.2.1, ()), (j4.2.1.1, ()), v5, (v6.toBitVec.toNat : Int), (0 : Int), ()))).bind (fun (j9 : (((List UInt8) × Int × (List (ApiItem)) × Unit) × (ApiItem × Unit) × Int × Int × Int × Unit)) => (let v10 : Int := (IntKind.wrap .i64 ((IntKind.wrap .i64 (((j9.1.1).length : Int) - j9.1.2.1)) - (1 : Int)))
 (bif (decide (v10 < j9.2.2.2.2.1)) then (some (((j9.1.1, j9.1.2.1, j9.1.2.2.1, ()), ()), ((⟨(0 : Int), 0#64, ([] : List UInt8)⟩ : ApiItem), (1 : Int), ())))
 else ((bif (decide ((0 : Int) < j9.2.2.2.2.1)) then (some ((j9.1.1, j9.1.2.1, j9.1.2.2.1, ()), (j9.2.1.1, ()), j9.2.2.1, j9.2.2.2.2.1, 0#64, ()))
 else (some ((j9.1.1, j9.1.2.1, j9.1.2.2.1, ()), (j9.2.1.1, ()), j9.2.2.1, j9.2.2.2.2.1, (BitVec.ofInt 64 j9.2.2.2.1), ()))).bind (fun (j11 : (((List UInt8) × Int × (List (ApiItem)) × Unit) × (ApiItem × Unit) × Int × Int × (BitVec 64) × Unit)) => ((passkeyref1_reader_head_L1 ((j11.1.1, j11.1.2.1, j11.1.2.2.1, ()), (j11.2.1.1, ()), j11.2.2.1, j11.2.2.2.1, j11.2.2.2.2.1, (0 : Int), ())).bind (fun (z14 : (((List UInt8) × Int × (List (ApiItem)) × Unit) × (ApiItem × Unit) × Int × Int × (BitVec 64) × Unit)) => (let v15 : List (BitVec 64) := ([0#64, 24#64, 256#64, 0#64, 65536#64, 0#64, 0#64, 0#64, 4294967296#64] : List (BitVec 64))
 (bif (decide ((0 : Int) ≤ z14.2.2.2.1) && decide (z14.2.2.2.1 < (9 : Int))) then (((v15)[(z14.2.2.2.1).toNat]?).bind fun x16 => (bif (decide (z14.2.2.2.2.1.toNat < x16.toNat)) then (some (((z14.1.1, z14.1.2.1, z14.1.2.2.1, ()), ()), ((⟨(0 : Int), 0#64, ([] : List UInt8)⟩ : ApiItem), (2 : Int), ())))
 else (let v17 : Int := (IntKind.wrap .i64 (z14.1.2.1 + (IntKind.wrap .i64 ((1 : Int) + z14.2.2.2.1))))
 (let v18 : List (Int) := ([(1 : Int), (2 : Int), (3 : Int), (4 : Int), (5 : Int), (6 : Int)] : List (Int))
 (bif (decide ((0 : Int) ≤ z14.2.2.1) && decide (z14.2.2.1 < (6 : Int))) then (((v18)[(z14.2.2.1).toNat]?).bind fun x19 => (some (((z14.1.1, v17, z14.1.2.2.1, ()), ()), ((⟨x19, z14.2.2.2.2.1, ([] : List UInt8)⟩ : ApiItem), (0 : Int), ()))))
 else none)))))
 else none))))))))))))))) some))))

def S_passkeyref1_reader_head : FSpec T := ⟨[.ptr [(.v .str), (.v (.int .i64)), (.own 1)]], [(.v (.agg 1)), (.v (.int .i64))], fun x => passkeyref1_reader_head x.1⟩

def E_passkeyref1_reader_head : Env T := ⟨tab.find, cd, globs, flc, fun f ds => match f with
    | _ => none, fun f => match f with
    | _ => false⟩

def A_passkeyref1_reader_head : Loc2 T := ⟨fun id => match id with
    | 1 => some ⟨[(0, .ptr [(.v .str), (.v (.int .i64)), (.own 1)]), (2, .ptr [(.v (.agg 1))]), (5, .f (.v (.int .i64))), (7, .f (.v (.int .i64))), (8, .f (.v .u64)), (9, .f (.v (.int .i64)))], [(.exit 1, [(0, .ptr [(.v .str), (.v (.int .i64)), (.own 1)]), (2, .ptr [(.v (.agg 1))]), (5, .f (.v (.int .i64))), (7, .f (.v (.int .i64))), (8, .f (.v .u64))])], passkeyref1_reader_head_L1, []⟩
    | _ => none, fun r => match r with
    | 12 => some ([(0, .ptr [(.v .str), (.v (.int .i64)), (.own 1)]), (2, .ptr [(.v (.agg 1))]), (4, .f (.v .u8))], false)
    | 18 => some ([(0, .ptr [(.v .str), (.v (.int .i64)), (.own 1)]), (2, .ptr [(.v (.agg 1))]), (5, .f (.v (.int .i64))), (6, .f (.v (.int .i64))), (7, .f (.v (.int .i64)))], true)
    | 23 => some ([(0, .ptr [(.v .str), (.v (.int .i64)), (.own 1)]), (2, .ptr [(.v (.agg 1))]), (5, .f (.v (.int .i64))), (7, .f (.v (.int .i64))), (8, .f (.v .u64))], true)
    | _ => none, fun r => match r with
    | _ => false⟩

theorem passkeyref1_reader_head_L1_eq (y0 : ((List UInt8) × Int × (List (ApiItem)) × Unit)) (y1 : (ApiItem × Unit)) (y2 : Int) (y3 : Int) (y4 : (BitVec 64)) (y5 : Int) : run E_passkeyref1_reader_head A_passkeyref1_reader_head (loopAt 1 (Tryd.f60.body.getD .skip)) (layC cd [(0, .ptr [(.v .str), (.v (.int .i64)), (.own 1)]), (2, .ptr [(.v (.agg 1))]), (5, .f (.v (.int .i64))), (7, .f (.v (.int .i64))), (8, .f (.v .u64)), (9, .f (.v (.int .i64)))] [] (y0, y1, y2, y3, y4, y5, ())) (roundK cd [(0, .ptr [(.v .str), (.v (.int .i64)), (.own 1)]), (2, .ptr [(.v (.agg 1))]), (5, .f (.v (.int .i64))), (7, .f (.v (.int .i64))), (8, .f (.v .u64)), (9, .f (.v (.int .i64)))] [] [(.exit 1, [(0, .ptr [(.v .str), (.v (.int .i64)), (.own 1)]), (2, .ptr [(.v (.agg 1))]), (5, .f (.v (.int .i64))), (7, .f (.v (.int .i64))), (8, .f (.v .u64))])]) = passkeyref1_reader_head_L1b y0 y1 y2 y3 y4 y5 := by kernel_rfl

theorem passkeyref1_reader_head_eq (x : tySs T S_passkeyref1_reader_head.ps) : run E_passkeyref1_reader_head A_passkeyref1_reader_head (Tryd.f60.body.getD .skip) (enterT E_passkeyref1_reader_head.C S_passkeyref1_reader_head.ps x) (retK E_passkeyref1_reader_head Tryd.f60.results.toList S_passkeyref1_reader_head.ps S_passkeyref1_reader_head.rs) = S_passkeyref1_reader_head.fn x := by kernel_rfl

theorem passkeyref1_reader_head_env : EnvOk Tryd.prog E_passkeyref1_reader_head := envOk (E := E_passkeyref1_reader_head) cd_ok tys fl_ok fun f ds S h => by cases h

theorem passkeyref1_reader_head_L1_ok : LoopOk Tryd.prog E_passkeyref1_reader_head Tryd.f60.ntmps (kqOf S_passkeyref1_reader_head.ps 0) (loopAt 1 (Tryd.f60.body.getD .skip)) ⟨[(0, .ptr [(.v .str), (.v (.int .i64)), (.own 1)]), (2, .ptr [(.v (.agg 1))]), (5, .f (.v (.int .i64))), (7, .f (.v (.int .i64))), (8, .f (.v .u64)), (9, .f (.v (.int .i64)))], [(.exit 1, [(0, .ptr [(.v .str), (.v (.int .i64)), (.own 1)]), (2, .ptr [(.v (.agg 1))]), (5, .f (.v (.int .i64))), (7, .f (.v (.int .i64))), (8, .f (.v .u64))])], passkeyref1_reader_head_L1, []⟩ :=
  loop_ok (A := A_passkeyref1_reader_head) (done := []) (c0 := (Tryd.f60.body.getD .skip)) hmix passkeyref1_reader_head_env done_nil rounds (by kernel_rfl) (by kernel_rfl) (fun x => passkeyref1_reader_head_L1_eq x.1 x.2.1 x.2.2.1 x.2.2.2.1 x.2.2.2.2.1 x.2.2.2.2.2.1) (fun _ => rfl)

theorem passkeyref1_reader_head_ok : SoundT Tryd.prog cd gdn 60 S_passkeyref1_reader_head :=
  sound_fn (E := E_passkeyref1_reader_head) (A := A_passkeyref1_reader_head) (done := [1]) (c := (Tryd.f60.body.getD .skip)) (S := S_passkeyref1_reader_head) (fn := Tryd.f60) hmix passkeyref1_reader_head_env Tryd.func60 rfl (by kernel_rfl) (by kernel_rfl) (done_cons rfl passkeyref1_reader_head_L1_ok done_nil) (by kernel_rfl) (by kernel_rfl) passkeyref1_reader_head_eq

def passkeyref1_reader_item_L1b (k_rec : ((List UInt8) × Int × (List (ApiItem)) × Unit) → Int → Bool → (List UInt8) → Option ((((List UInt8) × Int × (List (ApiItem)) × Unit) × Unit) × (Int × Unit))) (y0 : ((List UInt8) × Int × (List (ApiItem)) × Unit)) (y1 : Int) (y2 : (ApiItem × Unit)) (y3 : (BitVec 64)) (y4 : Bool) (y5 : (List UInt8)) (y6 : (BitVec 64)) : Option ((((List UInt8) × Int × (List (ApiItem)) × Unit) × Int × (ApiItem × Unit) × (BitVec 64) × Bool × (List UInt8) × (BitVec 64) × Unit) ⊕ ((((List UInt8) × Int × (List (ApiItem)) × Unit) × Int × Unit) ⊕ (((List UInt8) × Int × (List (ApiItem)) × Unit) × Unit))) :=
 (bif y4 then (bif (decide (y6.toNat < y3.toNat)) then (bif (decide (y2.1.kind = (6 : Int))) then ((k_rec (y0.1, y0.2.1, y0.2.2.1, ()) (IntKind.wrap .i64 (y1 + (1 : Int))) true y5).bind fun r18 => (bif (!decide (r18.2.1 = (0 : Int))) then (some (Sum.inr (Sum.inl ((r18.1.1.1, r18.1.1.2.1, r18.1.1.2.2.1, ()), r18.2.1, ()))))
 else (bif (decide ((0 : Int) ≤ ((y0.2.2.1).length : Int)) && decide (((y0.2.2.1).length : Int) < ((r18.1.1.2.2.1).length : Int))) then (((r18.1.1.2.2.1)[(((y0.2.2.1).length : Int)).toNat]?).bind fun x19 => ((passkeyref1_Bytes x19).bind fun r20 => ((k_rec (r18.1.1.1, r18.1.1.2.1, r18.1.1.2.2.1, ()) (IntKind.wrap .i64 (y1 + (1 : Int))) false ([] : List UInt8)).bind fun r21 => (bif (!decide (r21.2.1 = (0 : Int))) then (some (Sum.inr (Sum.inl ((r21.1.1.1, r21.1.1.2.1, r21.1.1.2.2.1, ()), r21.2.1, ()))))
 else (some (Sum.inl ((r21.1.1.1, r21.1.1.2.1, r21.1.1.2.2.1, ()), y1, (y2.1, ()), y3, y4, r20.2.1, (y6 + 1#64), ())))))))
 else none)))
 else ((k_rec (y0.1, y0.2.1, y0.2.2.1, ()) (IntKind.wrap .i64 (y1 + (1 : Int))) false ([] : List UInt8)).bind fun r22 => (bif (!decide (r22.2.1 = (0 : Int))) then (some (Sum.inr (Sum.inl ((r22.1.1.1, r22.1.1.2.1, r22.1.1.2.2.1, ()), r22.2.1, ()))))
 else (some (Sum.inl ((r22.1.1.1, r22.1.1.2.1, r22.1.1.2.2.1, ()), y1, (y2.1, ()), y3, y4, y5, (y6 + 1#64), ()))))))
 else (some (Sum.inr (Sum.inr ((y0.1, y0.2.1, y0.2.2.1, ()), ())))))
 else (some (Sum.inr (Sum.inr ((y0.1, y0.2.1, y0.2.2.1, ()), ())))))

def passkeyref1_reader_item_L1 (k_rec : ((List UInt8) × Int × (List (ApiItem)) × Unit) → Int → Bool → (List UInt8) → Option ((((List UInt8) × Int × (List (ApiItem)) × Unit) × Unit) × (Int × Unit))) (y : (((List UInt8) × Int × (List (ApiItem)) × Unit) × Int × (ApiItem × Unit) × (BitVec 64) × Bool × (List UInt8) × (BitVec 64) × Unit)) : Option ((((List UInt8) × Int × (List (ApiItem)) × Unit) × Int × Unit) ⊕ (((List UInt8) × Int × (List (ApiItem)) × Unit) × Unit)) := iter (fun (y : (((List UInt8) × Int × (List (ApiItem)) × Unit) × Int × (ApiItem × Unit) × (BitVec 64) × Bool × (List UInt8) × (BitVec 64) × Unit)) => passkeyref1_reader_item_L1b k_rec y.1 y.2.1 y.2.2.1 y.2.2.2.1 y.2.2.2.2.1 y.2.2.2.2.2.1 y.2.2.2.2.2.2.1) rounds y

def passkeyref1_reader_item_R (k_rec : ((List UInt8) × Int × (List (ApiItem)) × Unit) → Int → Bool → (List UInt8) → Option ((((List UInt8) × Int × (List (ApiItem)) × Unit) × Unit) × (Int × Unit))) (a0 : ((List UInt8) × Int × (List (ApiItem)) × Unit)) (a1 : Int) (a2 : Bool) (a3 : (List UInt8)) : Option ((((List UInt8) × Int × (List (ApiItem)) × Unit) × Unit) × (Int × Unit)) :=
 ((passkeyref1_reader_head (a0.1, a0.2.1, a0.2.2.1, ())).bind fun r1 => (bif (!decide (r1.2.2.1 = (0 : Int))) then (some (((r1.1.1.1, r1.1.1.2.1, r1.1.1.2.2.1, ()), ()), (r1.2.2.1, ())))
 else ((bif (decide (r1.2.1.kind = (3 : Int))) then (some ((r1.1.1.1, r1.1.1.2.1, r1.1.1.2.2.1, ()), a1, a2, a3, (r1.2.1, ()), r1.2.1.number, true, ()))
 else (some ((r1.1.1.1, r1.1.1.2.1, r1.1.1.2.2.1, ()), a1, a2, a3, (r1.2.1, ()), r1.2.1.number, (decide (r1.2.1.kind = (4 : Int))), ()))).bind (fun (j2 : (((List UInt8) × Int × (List (ApiItem)) × Unit) × Int × Bool × (List UInt8) × (ApiItem × Unit) × (BitVec 64) × Bool × Unit)) => ((bif (decide (j2.2.2.2.2.1.1.kind = (5 : Int))) then (some ((j2.1.1, j2.1.2.1, j2.1.2.2.1, ()), j2.2.1, j2.2.2.1, j2.2.2.2.1, (j2.2.2.2.2.1.1, ()), j2.2.2.2.2.2.1, j2.2.2.2.2.2.2.1, true, ()))
 else (some ((j2.1.1, j2.1.2.1, j2.1.2.2.1, ()), j2.2.1, j2.2.2.1, j2.2.2.2.1, (j2.2.2.2.2.1.1, ()), j2.2.2.2.2.2.1, j2.2.2.2.2.2.2.1, (decide (j2.2.2.2.2.1.1.kind = (6 : Int))), ()))).bind (fun (j3 : (((List UInt8) × Int × (List (ApiItem)) × Unit) × Int × Bool × (List UInt8) × (ApiItem × Unit) × (BitVec 64) × Bool × Bool × Unit)) => (bif (decide ((512 : Int) ≤ ((j3.1.2.2.1).length : Int))) then (some (((j3.1.1, j3.1.2.1, j3.1.2.2.1, ()), ()), ((8 : Int), ())))
 else ((bif j3.2.2.1 then ((passkeyref1_isKey j3.2.2.2.2.1.1.kind).bind fun r4 => (some ((j3.1.1, j3.1.2.1, j3.1.2.2.1, ()), j3.2.1, j3.2.2.1, j3.2.2.2.1, (j3.2.2.2.2.1.1, ()), j3.2.2.2.2.2.1, j3.2.2.2.2.2.2.1, j3.2.2.2.2.2.2.2.1, (!r4.2.1), ())))
 else (some ((j3.1.1, j3.1.2.1, j3.1.2.2.1, ()), j3.2.1, j3.2.2.1, j3.2.2.2.1, (j3.2.2.2.2.1.1, ()), j3.2.2.2.2.2.1, j3.2.2.2.2.2.2.1, j3.2.2.2.2.2.2.2.1, false, ()))).bind (fun (j5 : (((List UInt8) × Int × (List (ApiItem)) × Unit) × Int × Bool × (List UInt8) × (ApiItem × Unit) × (BitVec 64) × Bool × Bool × Bool × Unit)) => (bif j5.2.2.2.2.2.2.2.2.1 then (some (((j5.1.1, j5.1.2.1, j5.1.2.2.1, ()), ()), ((3 : Int), ())))
 else (bif (decide ((8 : Int) < j5.2.1)) then (some (((j5.1.1, j5.1.2.1, j5.1.2.2.1, ()), ()), ((5 : Int), ())))
 else ((bif j5.2.2.2.2.2.2.1 then (bif (decide ((1024#64).toNat < j5.2.2.2.2.2.1.toNat)) then (some ((j5.1.1, j5.1.2.1, j5.1.2.2.1, ()), j5.2.1, j5.2.2.1, j5.2.2.2.1, (j5.2.2.2.2.1.1, ()), j5.2.2.2.2.2.1, j5.2.2.2.2.2.2.1, j5.2.2.2.2.2.2.2.1, true, ()))
 else (bif j5.2.2.2.2.2.2.2.1 then (some ((j5.1.1, j5.1.2.1, j5.1.2.2.1, ()), j5.2.1, j5.2.2.1, j5.2.2.2.1, (j5.2.2.2.2.1.1, ()), j5.2.2.2.2.2.1, j5.2.2.2.2.2.2.1, j5.2.2.2.2.2.2.2.1, (decide ((512#64).toNat < j5.2.2.2.2.2.1.toNat)), ()))
 else (some ((j5.1.1, j5.1.2.1, j5.1.2.2.1, ()), j5.2.1, j5.2.2.1, j5.2.2.2.1, (j5.2.2.2.2.1.1, ()), j5.2.2.2.2.2.1, j5.2.2.2.2.2.2.1, j5.2.2.2.2.2.2.2.1, false, ()))))
 else (bif j5.2.2.2.2.2.2.2.1 then (some ((j5.1.1, j5.1.2.1, j5.1.2.2.1, ()), j5.2.1, j5.2.2.1, j5.2.2.2.1, (j5.2.2.2.2.1.1, ()), j5.2.2.2.2.2.1, j5.2.2.2.2.2.2.1, j5.2.2.2.2.2.2.2.1, (decide ((512#64).toNat < j5.2.2.2.2.2.1.toNat)), ()))
 else (some ((j5.1.1, j5.1.2.1, j5.1.2.2.1, ()), j5.2.1, j5.2.2.1, j5.2.2.2.1, (j5.2.2.2.2.1.1, ()), j5.2.2.2.2.2.1, j5.2.2.2.2.2.2.1, j5.2.2.2.2.2.2.2.1, false, ())))).bind (fun (j6 : (((List UInt8) × Int × (List (ApiItem)) × Unit) × Int × Bool × (List UInt8) × (ApiItem × Unit) × (BitVec 64) × Bool × Bool × Bool × Unit)) => (bif j6.2.2.2.2.2.2.2.2.1 then (some (((j6.1.1, j6.1.2.1, j6.1.2.2.1, ()), ()), ((8 : Int), ())))
 else ((bif j6.2.2.2.2.2.2.1 then (let v7 : BitVec 64 := (BitVec.ofInt 64 (IntKind.wrap .i64 (((j6.1.1).length : Int) - j6.1.2.1)))
 (some ((j6.1.1, j6.1.2.1, j6.1.2.2.1, ()), j6.2.1, j6.2.2.1, j6.2.2.2.1, (j6.2.2.2.2.1.1, ()), j6.2.2.2.2.2.1, j6.2.2.2.2.2.2.1, j6.2.2.2.2.2.2.2.1, (decide (v7.toNat < j6.2.2.2.2.2.1.toNat)), ())))
 else (some ((j6.1.1, j6.1.2.1, j6.1.2.2.1, ()), j6.2.1, j6.2.2.1, j6.2.2.2.1, (j6.2.2.2.2.1.1, ()), j6.2.2.2.2.2.1, j6.2.2.2.2.2.2.1, j6.2.2.2.2.2.2.2.1, false, ()))).bind (fun (j8 : (((List UInt8) × Int × (List (ApiItem)) × Unit) × Int × Bool × (List UInt8) × (ApiItem × Unit) × (BitVec 64) × Bool × Bool × Bool × Unit)) => (bif j8.2.2.2.2.2.2.2.2.1 then (some (((j8.1.1, j8.1.2.1, j8.1.2.2.1, ()), ()), ((1 : Int), ())))
 else ((bif j8.2.2.2.2.2.2.1 then (let v9 : Int := (IntKind.wrap .i64 (j8.1.2.1 + (IntKind.wrap .i64 (j8.2.2.2.2.2.1.toNat : Int))))
 (bif (decide ((0 : Int) ≤ v9) && decide (v9 ≤ ((j8.1.1).length : Int))) then (bif (decide ((0 : Int) ≤ j8.1.2.1) && decide (j8.1.2.1 ≤ ((v9).toNat : Int))) then (let v10 : Int := (IntKind.wrap .i64 (j8.1.2.1 + (IntKind.wrap .i64 (j8.2.2.2.2.2.1.toNat : Int))))
 (some ((j8.1.1, v10, j8.1.2.2.1, ()), j8.2.1, j8.2.2.1, j8.2.2.2.1, ((⟨j8.2.2.2.2.1.1.kind, 0#64, (List.drop (j8.1.2.1).toNat (List.take (v9).toNat j8.1.1))⟩ : ApiItem), ()), j8.2.2.2.2.2.1, j8.2.2.2.2.2.2.2.1, ())))
 else none)
 else none))
 else (some ((j8.1.1, j8.1.2.1, j8.1.2.2.1, ()), j8.2.1, j8.2.2.1, j8.2.2.2.1, (j8.2.2.2.2.1.1, ()), j8.2.2.2.2.2.1, j8.2.2.2.2.2.2.2.1, ()))).bind (fun (j11 : (((List UInt8) × Int × (List (ApiItem)) × Unit) × Int × Bool × (List UInt8) × (ApiItem × Unit) × (BitVec 64) × Bool × Unit)) => ((bif (decide (j11.2.2.2.2.1.1.kind = (4 : Int))) then ((utf8_ValidString j11.2.2.2.2.1.1.data).bind fun r12 => (some ((j11.1.1, j11.1.2.1, j11.1.2.2.1, ()), j11.2.1, j11.2.2.1, j11.2.2.2.1, (j11.2.2.2.2.1.1, ()), j11.2.2.2.2.2.1, j11.2.2.2.2.2.2.1, (!r12.2.1), ())))
 else (some ((j11.1.1, j11.1.2.1, j11.1.2.2.1, ()), j11.2.1, j11.2.2.1, j11.2.2.2.1, (j11.2.2.2.2.1.1, ()), j11.2.2.2.2.2.1, j11.2.2.2.2.2.2.1, false, ()))).bind (fun (j13 : (((List UInt8) × Int × (List (ApiItem)) × Unit) × Int × Bool × (List UInt8) × (ApiItem × Unit) × (BitVec 64) × Bool × Bool × Unit)) => (bif j13.2.2.2.2.2.2.2.1 then (some (((j13.1.1, j13.1.2.1, j13.1.2.2.1, ()), ()), ((6 : Int), ())))
 else ((bif j13.2.2.1 then (bif (!decide (j13.2.2.2.1 = ([] : List UInt8))) then ((passkeyref1_Bytes j13.2.2.2.2.1.1).bind fun r14 => ((passkeyref1_less j13.2.2.2.1 r14.2.1).bind fun r15 => (some ((j13.1.1, j13.1.2.1, j13.1.2.2.1, ()), j13.2.1, (j13.2.2.2.2.1.1, ()), j13.2.2.2.2.2.1, j13.2.2.2.2.2.2.1, (!r15.2.1), ()))))
 else (some ((j13.1.1, j13.1.2.1, j13.1.2.2.1, ()), j13.2.1, (j13.2.2.2.2.1.1, ()), j13.2.2.2.2.2.1, j13.2.2.2.2.2.2.1, false, ())))
 else (some ((j13.1.1, j13.1.2.1, j13.1.2.2.1, ()), j13.2.1, (j13.2.2.2.2.1.1, ()), j13.2.2.2.2.2.1, j13.2.2.2.2.2.2.1, false, ()))).bind (fun (j16 : (((List UInt8) × Int × (List (ApiItem)) × Unit) × Int × (ApiItem × Unit) × (BitVec 64) × Bool × Bool × Unit)) => (bif j16.2.2.2.2.2.1 then (some (((j16.1.1, j16.1.2.1, j16.1.2.2.1, ()), ()), ((7 : Int), ())))
 else (bif small ((j16.1.2.2.1).length + (([j16.2.2.1.1] : List (ApiItem)) : List (ApiItem)).length) 32 then (let v17 : List (ApiItem) := (j16.1.2.2.1 ++ ([j16.2.2.1.1] : List (ApiItem)))
 ((passkeyref1_reader_item_L1 k_rec ((j16.1.1, j16.1.2.1, v17, ()), j16.2.1, (j16.2.2.1.1, ()), j16.2.2.2.1, j16.2.2.2.2.1, ([] : List UInt8), 0#64, ())).bind (Sum.elim (fun (z23 : (((List UInt8) × Int × (List (ApiItem)) × Unit) × Int × Unit)) => (some (((z23.1.1, z23.1.2.1, z23.1.2.2.1, ()), ()), (z23.2.1, ())))) (fun (z24 : (((List UInt8) × Int × (List (ApiItem)) × Unit) × Unit)) => (some (((z24.1.1, z24.1.2.1, z24.1.2.2.1, ()), ()), ((0 : Int), ())))))))
 else none))))))))))))))))))))))))))

abbrev ps_passkeyref1_reader_item : List Slot := [.ptr [(.v .str), (.v (.int .i64)), (.own 1)], .f (.v (.int .i64)), .f (.v .bool), .f (.v .str)]
abbrev rs_passkeyref1_reader_item : List Fld := [(.v (.int .i64))]

def E_passkeyref1_reader_item (k_rec : ((List UInt8) × Int × (List (ApiItem)) × Unit) → Int → Bool → (List UInt8) → Option ((((List UInt8) × Int × (List (ApiItem)) × Unit) × Unit) × (Int × Unit))) : Env T := ⟨tab.find, cd, globs, flc, fun f ds => match f with
    | 38 => some S_passkeyref1_Bytes
    | 44 => some ⟨ps_passkeyref1_reader_item, rs_passkeyref1_reader_item, fun x => k_rec x.1 x.2.1 x.2.2.1 x.2.2.2.1⟩
    | 60 => some S_passkeyref1_reader_head
    | 61 => some S_passkeyref1_isKey
    | 62 => some S_utf8_ValidString
    | 63 => some S_passkeyref1_less
    | _ => none, fun f => match f with
    | 38 => true
    | 61 => true
    | 62 => true
    | 63 => true
    | _ => false⟩

def A_passkeyref1_reader_item (k_rec : ((List UInt8) × Int × (List (ApiItem)) × Unit) → Int → Bool → (List UInt8) → Option ((((List UInt8) × Int × (List (ApiItem)) × Unit) × Unit) × (Int × Unit))) : Loc2 T := ⟨fun id => match id with
    | 1 => some ⟨[(0, .ptr [(.v .str), (.v (.int .i64)), (.own 1)]), (1, .f (.v (.int .i64))), (9, .ptr [(.v (.agg 1))]), (11, .f (.v .u64)), (13, .f (.v .bool)), (14, .f (.v .str)), (15, .f (.v .u64))], [(.ret, [(0, .ptr [(.v .str), (.v (.int .i64)), (.own 1)]), (8, .f (.v (.int .i64)))]), (.exit 1, [(0, .ptr [(.v .str), (.v (.int .i64)), (.own 1)])])], passkeyref1_reader_item_L1 k_rec, []⟩
    | _ => none, fun r => match r with
    | 6 => some ([(0, .ptr [(.v .str), (.v (.int .i64)), (.own 1)]), (1, .f (.v (.int .i64))), (2, .f (.v .bool)), (3, .f (.v .str)), (9, .ptr [(.v (.agg 1))]), (11, .f (.v .u64)), (12, .f (.v .bool))], true)
    | 7 => some ([(0, .ptr [(.v .str), (.v (.int .i64)), (.own 1)]), (1, .f (.v (.int .i64))), (2, .f (.v .bool)), (3, .f (.v .str)), (9, .ptr [(.v (.agg 1))]), (11, .f (.v .u64)), (12, .f (.v .bool)), (13, .f (.v .bool))], true)
    | 10 => some ([(0, .ptr [(.v .str), (.v (.int .i64)), (.own 1)]), (1, .f (.v (.int .i64))), (2, .f (.v .bool)), (3, .f (.v .str)), (9, .ptr [(.v (.agg 1))]), (11, .f (.v .u64)), (12, .f (.v .bool)), (13, .f (.v .bool)), (52, .f (.v .bool))], true)
    | 14 => some ([(0, .ptr [(.v .str), (.v (.int .i64)), (.own 1)]), (1, .f (.v (.int .i64))), (2, .f (.v .bool)), (3, .f (.v .str)), (9, .ptr [(.v (.agg 1))]), (11, .f (.v .u64)), (12, .f (.v .bool)), (13, .f (.v .bool)), (63, .f (.v .bool))], true)
    | 16 => some ([(0, .ptr [(.v .str), (.v (.int .i64)), (.own 1)]), (1, .f (.v (.int .i64))), (2, .f (.v .bool)), (3, .f (.v .str)), (9, .ptr [(.v (.agg 1))]), (11, .f (.v .u64)), (12, .f (.v .bool)), (13, .f (.v .bool)), (76, .f (.v .bool))], true)
    | 20 => some ([(0, .ptr [(.v .str), (.v (.int .i64)), (.own 1)]), (1, .f (.v (.int .i64))), (2, .f (.v .bool)), (3, .f (.v .str)), (9, .ptr [(.v (.agg 1))]), (11, .f (.v .u64)), (13, .f (.v .bool))], true)
    | 21 => some ([(0, .ptr [(.v .str), (.v (.int .i64)), (.own 1)]), (1, .f (.v (.int .i64))), (2, .f (.v .bool)), (3, .f (.v .str)), (9, .ptr [(.v (.agg 1))]), (11, .f (.v .u64)), (13, .f (.v .bool)), (129, .f (.v .bool))], true)
    | 23 => some ([(0, .ptr [(.v .str), (.v (.int .i64)), (.own 1)]), (1, .f (.v (.int .i64))), (9, .ptr [(.v (.agg 1))]), (11, .f (.v .u64)), (13, .f (.v .bool)), (141, .f (.v .bool))], true)
    | _ => none, fun r => match r with
    | 18 => true
    | 24 => true
    | _ => false⟩

theorem passkeyref1_reader_item_L1_eq (k_rec : ((List UInt8) × Int × (List (ApiItem)) × Unit) → Int → Bool → (List UInt8) → Option ((((List UInt8) × Int × (List (ApiItem)) × Unit) × Unit) × (Int × Unit))) (y0 : ((List UInt8) × Int × (List (ApiItem)) × Unit)) (y1 : Int) (y2 : (ApiItem × Unit)) (y3 : (BitVec 64)) (y4 : Bool) (y5 : (List UInt8)) (y6 : (BitVec 64)) : run (E_passkeyref1_reader_item k_rec) (A_passkeyref1_reader_item k_rec) (loopAt 1 (Tryd.f44.body.getD .skip)) (layC cd [(0, .ptr [(.v .str), (.v (.int .i64)), (.own 1)]), (1, .f (.v (.int .i64))), (9, .ptr [(.v (.agg 1))]), (11, .f (.v .u64)), (13, .f (.v .bool)), (14, .f (.v .str)), (15, .f (.v .u64))] [] (y0, y1, y2, y3, y4, y5, y6, ())) (roundK cd [(0, .ptr [(.v .str), (.v (.int .i64)), (.own 1)]), (1, .f (.v (.int .i64))), (9, .ptr [(.v (.agg 1))]), (11, .f (.v .u64)), (13, .f (.v .bool)), (14, .f (.v .str)), (15, .f (.v .u64))] [] [(.ret, [(0, .ptr [(.v .str), (.v (.int .i64)), (.own 1)]), (8, .f (.v (.int .i64)))]), (.exit 1, [(0, .ptr [(.v .str), (.v (.int .i64)), (.own 1)])])]) = passkeyref1_reader_item_L1b k_rec y0 y1 y2 y3 y4 y5 y6 := by kernel_rfl

theorem passkeyref1_reader_item_eqR (k_rec : ((List UInt8) × Int × (List (ApiItem)) × Unit) → Int → Bool → (List UInt8) → Option ((((List UInt8) × Int × (List (ApiItem)) × Unit) × Unit) × (Int × Unit))) (x : tySs T ps_passkeyref1_reader_item) : run (E_passkeyref1_reader_item k_rec) (A_passkeyref1_reader_item k_rec) (Tryd.f44.body.getD .skip) (enterT (E_passkeyref1_reader_item k_rec).C ps_passkeyref1_reader_item x) (retK (E_passkeyref1_reader_item k_rec) Tryd.f44.results.toList ps_passkeyref1_reader_item rs_passkeyref1_reader_item) = passkeyref1_reader_item_R k_rec x.1 x.2.1 x.2.2.1 x.2.2.2.1 := by kernel_rfl

def passkeyref1_reader_item_n : Nat → ((List UInt8) × Int × (List (ApiItem)) × Unit) → Int → Bool → (List UInt8) → Option ((((List UInt8) × Int × (List (ApiItem)) × Unit) × Unit) × (Int × Unit))
  | 0 => fun _ _ _ _ => none
  | n + 1 => passkeyref1_reader_item_R (passkeyref1_reader_item_n n)

def passkeyref1_reader_item (a0 : ((List UInt8) × Int × (List (ApiItem)) × Unit)) (a1 : Int) (a2 : Bool) (a3 : (List UInt8)) := passkeyref1_reader_item_n 12 a0 a1 a2 a3

def S_passkeyref1_reader_item : FSpec T := ⟨ps_passkeyref1_reader_item, rs_passkeyref1_reader_item, fun x => passkeyref1_reader_item x.1 x.2.1 x.2.2.1 x.2.2.2.1⟩

theorem passkeyref1_reader_item_env (k_rec : ((List UInt8) × Int × (List (ApiItem)) × Unit) → Int → Bool → (List UInt8) → Option ((((List UInt8) × Int × (List (ApiItem)) × Unit) × Unit) × (Int × Unit))) (hk : SoundT Tryd.prog cd gdn 44 ⟨ps_passkeyref1_reader_item, rs_passkeyref1_reader_item, fun x => k_rec x.1 x.2.1 x.2.2.1 x.2.2.2.1⟩) : EnvOk Tryd.prog (E_passkeyref1_reader_item k_rec) := envOk (E := (E_passkeyref1_reader_item k_rec)) cd_ok tys fl_ok fun f ds S h => by
    dsimp only [E_passkeyref1_reader_item] at h
    split at h
    · cases h; exact passkeyref1_Bytes_ok
    · cases h; exact hk
    · cases h; exact passkeyref1_reader_head_ok
    · cases h; exact passkeyref1_isKey_ok
    · cases h; exact utf8_ValidString_ok
    · cases h; exact passkeyref1_less_ok
    · cases h

theorem passkeyref1_reader_item_L1_ok (k_rec : ((List UInt8) × Int × (List (ApiItem)) × Unit) → Int → Bool → (List UInt8) → Option ((((List UInt8) × Int × (List (ApiItem)) × Unit) × Unit) × (Int × Unit))) (hk : SoundT Tryd.prog cd gdn 44 ⟨ps_passkeyref1_reader_item, rs_passkeyref1_reader_item, fun x => k_rec x.1 x.2.1 x.2.2.1 x.2.2.2.1⟩) : LoopOk Tryd.prog (E_passkeyref1_reader_item k_rec) Tryd.f44.ntmps (kqOf ps_passkeyref1_reader_item 0) (loopAt 1 (Tryd.f44.body.getD .skip)) ⟨[(0, .ptr [(.v .str), (.v (.int .i64)), (.own 1)]), (1, .f (.v (.int .i64))), (9, .ptr [(.v (.agg 1))]), (11, .f (.v .u64)), (13, .f (.v .bool)), (14, .f (.v .str)), (15, .f (.v .u64))], [(.ret, [(0, .ptr [(.v .str), (.v (.int .i64)), (.own 1)]), (8, .f (.v (.int .i64)))]), (.exit 1, [(0, .ptr [(.v .str), (.v (.int .i64)), (.own 1)])])], passkeyref1_reader_item_L1 k_rec, []⟩ :=
  loop_ok (A := (A_passkeyref1_reader_item k_rec)) (done := []) (c0 := (Tryd.f44.body.getD .skip)) hmix (passkeyref1_reader_item_env k_rec hk) done_nil rounds (by kernel_rfl) (by kernel_rfl) (fun x => passkeyref1_reader_item_L1_eq k_rec x.1 x.2.1 x.2.2.1 x.2.2.2.1 x.2.2.2.2.1 x.2.2.2.2.2.1 x.2.2.2.2.2.2.1) (fun _ => rfl)

theorem passkeyref1_reader_item_okn : ∀ n : Nat, SoundT Tryd.prog cd gdn 44 ⟨ps_passkeyref1_reader_item, rs_passkeyref1_reader_item, fun x => passkeyref1_reader_item_n n x.1 x.2.1 x.2.2.1 x.2.2.2.1⟩
  | 0 => sound_none ⟨_, Tryd.func44, by kernel_rfl, by kernel_rfl⟩
  | n + 1 => sound_fn (E := E_passkeyref1_reader_item (passkeyref1_reader_item_n n)) (A := A_passkeyref1_reader_item (passkeyref1_reader_item_n n)) (done := [1]) (c := (Tryd.f44.body.getD .skip)) (S := ⟨ps_passkeyref1_reader_item, rs_passkeyref1_reader_item, fun x => passkeyref1_reader_item_n (n + 1) x.1 x.2.1 x.2.2.1 x.2.2.2.1⟩) (fn := Tryd.f44) hmix (passkeyref1_reader_item_env _ (passkeyref1_reader_item_okn n)) Tryd.func44 rfl (by kernel_rfl) (by kernel_rfl) (done_cons rfl (passkeyref1_reader_item_L1_ok _ (passkeyref1_reader_item_okn n)) done_nil) (by kernel_rfl) (by kernel_rfl) (passkeyref1_reader_item_eqR (passkeyref1_reader_item_n n))

theorem passkeyref1_reader_item_ok : SoundT Tryd.prog cd gdn 44 S_passkeyref1_reader_item := passkeyref1_reader_item_okn 12

def passkeyref1_Decode (a0 : (List (UInt8))) : Option ((Unit) × ((List (ApiItem)) × Int × Int × Unit)) :=
 ((passkeyref1_reader_item (a0, (0 : Int), [], ()) (0 : Int) false ([] : List UInt8)).bind fun r1 => (bif (!decide (r1.2.1 = (0 : Int))) then (some ((), ([], (0 : Int), r1.2.1, ())))
 else (some ((), (r1.1.1.2.2.1, r1.1.1.2.1, (0 : Int), ())))))

def S_passkeyref1_Decode : FSpec T := ⟨[.f (.v (.rs 0))], [(.own 1), (.v (.int .i64)), (.v (.int .i64))], fun x => passkeyref1_Decode x.1⟩

def E_passkeyref1_Decode : Env T := ⟨tab.find, cd, globs, flc, fun f ds => match f with
    | 44 => some S_passkeyref1_reader_item
    | _ => none, fun f => match f with
    | _ => false⟩

def A_passkeyref1_Decode : Loc2 T := ⟨fun id => match id with
    | _ => none, fun r => match r with
    | _ => none, fun r => match r with
    | _ => false⟩

theorem passkeyref1_Decode_eq (x : tySs T S_passkeyref1_Decode.ps) : run E_passkeyref1_Decode A_passkeyref1_Decode (Tryd.f23.body.getD .skip) (enterT E_passkeyref1_Decode.C S_passkeyref1_Decode.ps x) (retK E_passkeyref1_Decode Tryd.f23.results.toList S_passkeyref1_Decode.ps S_passkeyref1_Decode.rs) = S_passkeyref1_Decode.fn x := by kernel_rfl

theorem passkeyref1_Decode_env : EnvOk Tryd.prog E_passkeyref1_Decode := envOk (E := E_passkeyref1_Decode) cd_ok tys fl_ok fun f ds S h => by
    dsimp only [E_passkeyref1_Decode] at h
    split at h
    · cases h; exact passkeyref1_reader_item_ok
    · cases h

theorem passkeyref1_Decode_ok : SoundT Tryd.prog cd gdn 23 S_passkeyref1_Decode :=
  sound_fn (E := E_passkeyref1_Decode) (A := A_passkeyref1_Decode) (done := []) (c := (Tryd.f23.body.getD .skip)) (S := S_passkeyref1_Decode) (fn := Tryd.f23) hmix passkeyref1_Decode_env Tryd.func23 rfl (by kernel_rfl) (by kernel_rfl) done_nil (by kernel_rfl) (by kernel_rfl) passkeyref1_Decode_eq

def passkeylaw1_CborDecodes (a0 : (List (UInt8))) (a1 : (List (Int))) (a2 : Int) (a3 : UInt8) : Option ((Unit) × (Bool × Unit)) :=
 (bif (decide ((1000 : Int) < ((a0).length : Int))) then ((passkeylaw1_awake).bind fun r1 => (some ((), (r1.2.1, ()))))
 else ((passkeybase_Tree a1).bind fun r2 => ((passkeyref1_Encode r2.2.1).bind fun r3 => (let v4 : Int := (IntKind.wrap .i64 ((BitVec.ofInt (IntKind.bits .i64) a2 &&& BitVec.ofInt (IntKind.bits .i64) (65535 : Int)).toNat : Int))
 (bif decide (((r3.2.1).length : Int) = 0) then none
 else (bif (decide ((0 : Int) ≤ (Int.tmod v4 ((r3.2.1).length : Int))) && decide ((Int.tmod v4 ((r3.2.1).length : Int)) < ((r3.2.1).length : Int))) then (((r3.2.1)[((Int.tmod v4 ((r3.2.1).length : Int))).toNat]?).bind fun x5 => (bif (decide ((0 : Int) ≤ (Int.tmod v4 ((r3.2.1).length : Int))) && decide ((Int.tmod v4 ((r3.2.1).length : Int)) < ((r3.2.1).length : Int))) then (((r3.2.1)[((Int.tmod v4 ((r3.2.1).length : Int))).toNat]?).bind fun x6 => (let v7 : List (UInt8) := (List.set r3.2.1 ((Int.tmod v4 ((r3.2.1).length : Int))).toNat (UInt8.ofBitVec (x5.toBitVec ^^^ a3.toBitVec)))
 ((cbor_Decode a0).bind fun r8 => ((passkeyref1_Decode a0).bind fun r9 => ((cbor_Decode v7).bind fun r10 => ((passkeyref1_Decode v7).bind fun r11 => (bif (decide (r8.2.2.2.1 = r9.2.2.2.1)) then (bif (decide (r8.2.2.1 = r9.2.2.1)) then ((passkeyref1_SameItems r8.2.1 r9.2.1).bind fun r12 => (bif r12.2.1 then (bif (decide (r10.2.2.2.1 = r11.2.2.2.1)) then (bif (decide (r10.2.2.1 = r11.2.2.1)) then ((passkeyref1_SameItems r10.2.1 r11.2.1).bind fun r13 => (bif r13.2.1 then ((passkeylaw1_awake).bind fun r14 => (some ((), (r14.2.1, ()))))
 else (some ((), (false, ())))))
 else (some ((), (false, ()))))
 else (some ((), (false, ()))))
 else (some ((), (false, ())))))
 else (some ((), (false, ()))))
 else (some ((), (false, ()))))))))))
 else none))
 else none))))))

def S_passkeylaw1_CborDecodes : FSpec T := ⟨[.f (.v (.rs 0)), .f (.v (.rs 7)), .f (.v (.int .i64)), .f (.v .u8)], [(.v .bool)], fun x => passkeylaw1_CborDecodes x.1 x.2.1 x.2.2.1 x.2.2.2.1⟩

def E_passkeylaw1_CborDecodes : Env T := ⟨tab.find, cd, globs, flc, fun f ds => match f with
    | 15 => some S_passkeylaw1_awake
    | 17 => some S_passkeyref1_Encode
    | 20 => some S_passkeybase_Tree
    | 22 => some S_cbor_Decode
    | 23 => some S_passkeyref1_Decode
    | 24 => some S_passkeyref1_SameItems
    | _ => none, fun f => match f with
    | 15 => true
    | 24 => true
    | _ => false⟩

def A_passkeylaw1_CborDecodes : Loc2 T := ⟨fun id => match id with
    | _ => none, fun r => match r with
    | _ => none, fun r => match r with
    | _ => false⟩

theorem passkeylaw1_CborDecodes_eq (x : tySs T S_passkeylaw1_CborDecodes.ps) : run E_passkeylaw1_CborDecodes A_passkeylaw1_CborDecodes (Tryd.f5.body.getD .skip) (enterT E_passkeylaw1_CborDecodes.C S_passkeylaw1_CborDecodes.ps x) (retK E_passkeylaw1_CborDecodes Tryd.f5.results.toList S_passkeylaw1_CborDecodes.ps S_passkeylaw1_CborDecodes.rs) = S_passkeylaw1_CborDecodes.fn x := by kernel_rfl

theorem passkeylaw1_CborDecodes_env : EnvOk Tryd.prog E_passkeylaw1_CborDecodes := envOk (E := E_passkeylaw1_CborDecodes) cd_ok tys fl_ok fun f ds S h => by
    dsimp only [E_passkeylaw1_CborDecodes] at h
    split at h
    · cases h; exact passkeylaw1_awake_ok
    · cases h; exact passkeyref1_Encode_ok
    · cases h; exact passkeybase_Tree_ok
    · cases h; exact cbor_Decode_ok
    · cases h; exact passkeyref1_Decode_ok
    · cases h; exact passkeyref1_SameItems_ok
    · cases h

theorem passkeylaw1_CborDecodes_ok : SoundT Tryd.prog cd gdn 5 S_passkeylaw1_CborDecodes :=
  sound_fn (E := E_passkeylaw1_CborDecodes) (A := A_passkeylaw1_CborDecodes) (done := []) (c := (Tryd.f5.body.getD .skip)) (S := S_passkeylaw1_CborDecodes) (fn := Tryd.f5) hmix passkeylaw1_CborDecodes_env Tryd.func5 rfl (by kernel_rfl) (by kernel_rfl) done_nil (by kernel_rfl) (by kernel_rfl) passkeylaw1_CborDecodes_eq

def passkeylaw1_CborBack (a0 : (List (Int))) (a1 : (List (UInt8))) : Option ((Unit) × (Bool × Unit)) :=
 (bif (decide ((300 : Int) < ((a1).length : Int))) then ((passkeylaw1_awake).bind fun r1 => (some ((), (r1.2.1, ()))))
 else ((passkeybase_Tree a0).bind fun r2 => ((cbor_Encode r2.2.1).bind fun r3 => (bif small ((r3.2.1).length) 1 then (bif small ((r3.2.1).length + (a1 : List (UInt8)).length) 1 then ((cbor_Decode (r3.2.1 ++ a1)).bind fun r4 => (bif (decide (r3.2.2.1 = (0 : Int))) then (bif (decide (r4.2.2.2.1 = (0 : Int))) then (bif (decide (r4.2.2.1 = ((r3.2.1).length : Int))) then ((passkeyref1_SameItems r2.2.1 r4.2.1).bind fun r5 => (bif r5.2.1 then ((passkeylaw1_awake).bind fun r6 => (some ((), (r6.2.1, ()))))
 else (some ((), (false, ())))))
 else (some ((), (false, ()))))
 else (some ((), (false, ()))))
 else (some ((), (false, ())))))
 else none)
 else none))))

def S_passkeylaw1_CborBack : FSpec T := ⟨[.f (.v (.rs 7)), .f (.v (.rs 0))], [(.v .bool)], fun x => passkeylaw1_CborBack x.1 x.2.1⟩

def E_passkeylaw1_CborBack : Env T := ⟨tab.find, cd, globs, flc, fun f ds => match f with
    | 15 => some S_passkeylaw1_awake
    | 16 => some S_cbor_Encode
    | 20 => some S_passkeybase_Tree
    | 22 => some S_cbor_Decode
    | 24 => some S_passkeyref1_SameItems
    | _ => none, fun f => match f with
    | 15 => true
    | 24 => true
    | _ => false⟩

def A_passkeylaw1_CborBack : Loc2 T := ⟨fun id => match id with
    | _ => none, fun r => match r with
    | _ => none, fun r => match r with
    | _ => false⟩

theorem passkeylaw1_CborBack_eq (x : tySs T S_passkeylaw1_CborBack.ps) : run E_passkeylaw1_CborBack A_passkeylaw1_CborBack (Tryd.f6.body.getD .skip) (enterT E_passkeylaw1_CborBack.C S_passkeylaw1_CborBack.ps x) (retK E_passkeylaw1_CborBack Tryd.f6.results.toList S_passkeylaw1_CborBack.ps S_passkeylaw1_CborBack.rs) = S_passkeylaw1_CborBack.fn x := by kernel_rfl

theorem passkeylaw1_CborBack_env : EnvOk Tryd.prog E_passkeylaw1_CborBack := envOk (E := E_passkeylaw1_CborBack) cd_ok tys fl_ok fun f ds S h => by
    dsimp only [E_passkeylaw1_CborBack] at h
    split at h
    · cases h; exact passkeylaw1_awake_ok
    · cases h; exact cbor_Encode_ok
    · cases h; exact passkeybase_Tree_ok
    · cases h; exact cbor_Decode_ok
    · cases h; exact passkeyref1_SameItems_ok
    · cases h

theorem passkeylaw1_CborBack_ok : SoundT Tryd.prog cd gdn 6 S_passkeylaw1_CborBack :=
  sound_fn (E := E_passkeylaw1_CborBack) (A := A_passkeylaw1_CborBack) (done := []) (c := (Tryd.f6.body.getD .skip)) (S := S_passkeylaw1_CborBack) (fn := Tryd.f6) hmix passkeylaw1_CborBack_env Tryd.func6 rfl (by kernel_rfl) (by kernel_rfl) done_nil (by kernel_rfl) (by kernel_rfl) passkeylaw1_CborBack_eq

def passkeylaw1_CborUnique (a0 : (List (UInt8))) : Option ((Unit) × (Bool × Unit)) :=
 (bif (decide ((1000 : Int) < ((a0).length : Int))) then ((passkeylaw1_awake).bind fun r1 => (some ((), (r1.2.1, ()))))
 else ((cbor_Decode a0).bind fun r2 => (bif (!decide (r2.2.2.2.1 = (0 : Int))) then (bif (decide (((r2.2.1).length : Int) = (0 : Int))) then (bif (decide (r2.2.2.1 = (0 : Int))) then ((passkeylaw1_awake).bind fun r3 => (some ((), (r3.2.1, ()))))
 else (some ((), (false, ()))))
 else (some ((), (false, ()))))
 else ((cbor_Encode r2.2.1).bind fun r4 => (bif (decide (r4.2.2.1 = (0 : Int))) then (bif (decide (r2.2.2.1 ≤ ((a0).length : Int))) then (bif (decide ((0 : Int) ≤ r2.2.2.1) && decide (r2.2.2.1 ≤ ((a0).length : Int))) then (bif (decide (r4.2.1 = (List.take (r2.2.2.1).toNat a0))) then ((passkeylaw1_awake).bind fun r5 => (some ((), (r5.2.1, ()))))
 else (some ((), (false, ()))))
 else none)
 else (some ((), (false, ()))))
 else (some ((), (false, ()))))))))

def S_passkeylaw1_CborUnique : FSpec T := ⟨[.f (.v (.rs 0))], [(.v .bool)], fun x => passkeylaw1_CborUnique x.1⟩

def E_passkeylaw1_CborUnique : Env T := ⟨tab.find, cd, globs, flc, fun f ds => match f with
    | 15 => some S_passkeylaw1_awake
    | 16 => some S_cbor_Encode
    | 22 => some S_cbor_Decode
    | _ => none, fun f => match f with
    | 15 => true
    | _ => false⟩

def A_passkeylaw1_CborUnique : Loc2 T := ⟨fun id => match id with
    | _ => none, fun r => match r with
    | _ => none, fun r => match r with
    | _ => false⟩

theorem passkeylaw1_CborUnique_eq (x : tySs T S_passkeylaw1_CborUnique.ps) : run E_passkeylaw1_CborUnique A_passkeylaw1_CborUnique (Tryd.f7.body.getD .skip) (enterT E_passkeylaw1_CborUnique.C S_passkeylaw1_CborUnique.ps x) (retK E_passkeylaw1_CborUnique Tryd.f7.results.toList S_passkeylaw1_CborUnique.ps S_passkeylaw1_CborUnique.rs) = S_passkeylaw1_CborUnique.fn x := by kernel_rfl

theorem passkeylaw1_CborUnique_env : EnvOk Tryd.prog E_passkeylaw1_CborUnique := envOk (E := E_passkeylaw1_CborUnique) cd_ok tys fl_ok fun f ds S h => by
    dsimp only [E_passkeylaw1_CborUnique] at h
    split at h
    · cases h; exact passkeylaw1_awake_ok
    · cases h; exact cbor_Encode_ok
    · cases h; exact cbor_Decode_ok
    · cases h

theorem passkeylaw1_CborUnique_ok : SoundT Tryd.prog cd gdn 7 S_passkeylaw1_CborUnique :=
  sound_fn (E := E_passkeylaw1_CborUnique) (A := A_passkeylaw1_CborUnique) (done := []) (c := (Tryd.f7.body.getD .skip)) (S := S_passkeylaw1_CborUnique) (fn := Tryd.f7) hmix passkeylaw1_CborUnique_env Tryd.func7 rfl (by kernel_rfl) (by kernel_rfl) done_nil (by kernel_rfl) (by kernel_rfl) passkeylaw1_CborUnique_eq

def passkeylaw1_CborCuts_L0b (y0 : (List (UInt8))) (y1 : Int) : Option (((List (UInt8)) × Int × Unit) ⊕ ((Bool × Unit) ⊕ (Unit))) :=
 (bif (decide (y1 < ((y0).length : Int))) then (bif (decide ((0 : Int) ≤ y1) && decide (y1 ≤ ((y0).length : Int))) then (bif decide ((y1).toNat ≤ (y0).length) then ((cbor_Decode (List.take (y1).toNat y0)).bind fun r3 => (bif (!decide (r3.2.2.2.1 = (1 : Int))) then (some (Sum.inr (Sum.inl (false, ()))))
 else (some (Sum.inl (y0, (IntKind.wrap .i64 (y1 + (1 : Int))), ())))))
 else none)
 else none)
 else (some (Sum.inr (Sum.inr ()))))

def passkeylaw1_CborCuts_L0 (y : ((List (UInt8)) × Int × Unit)) : Option ((Bool × Unit) ⊕ (Unit)) := iter (fun (y : ((List (UInt8)) × Int × Unit)) => passkeylaw1_CborCuts_L0b y.1 y.2.1) rounds y

def passkeylaw1_CborCuts (a0 : (List (Int))) : Option ((Unit) × (Bool × Unit)) :=
 ((passkeybase_Tree a0).bind fun r1 => ((cbor_Encode r1.2.1).bind fun r2 => (bif (!decide (r2.2.2.1 = (0 : Int))) then (some ((), (false, ())))
 else (bif (decide (((r2.2.1).length : Int) = (0 : Int))) then (some ((), (false, ())))
 else ((passkeylaw1_CborCuts_L0 (r2.2.1, (0 : Int), ())).bind (Sum.elim (fun (z4 : (Bool × Unit)) => (some ((), (z4.1, ())))) (fun (z5 : (Unit)) => ((passkeylaw1_awake).bind fun r6 => (some ((), (r6.2.1, ())))))))))))

def S_passkeylaw1_CborCuts : FSpec T := ⟨[.f (.v (.rs 7))], [(.v .bool)], fun x => passkeylaw1_CborCuts x.1⟩

def E_passkeylaw1_CborCuts : Env T := ⟨tab.find, cd, globs, flc, fun f ds => match f with
    | 15 => some S_passkeylaw1_awake
    | 16 => some S_cbor_Encode
    | 20 => some S_passkeybase_Tree
    | 22 => some S_cbor_Decode
    | _ => none, fun f => match f with
    | 15 => true
    | _ => false⟩

def A_passkeylaw1_CborCuts : Loc2 T := ⟨fun id => match id with
    | 0 => some ⟨[(3, .f (.own 0)), (5, .f (.v (.int .i64)))], [(.ret, [(2, .f (.v .bool))]), (.exit 0, [])], passkeylaw1_CborCuts_L0, []⟩
    | _ => none, fun r => match r with
    | _ => none, fun r => match r with
    | _ => false⟩

theorem passkeylaw1_CborCuts_L0_eq (y0 : (List (UInt8))) (y1 : Int) : run E_passkeylaw1_CborCuts A_passkeylaw1_CborCuts (loopAt 0 (Tryd.f8.body.getD .skip)) (layC cd [(3, .f (.own 0)), (5, .f (.v (.int .i64)))] [] (y0, y1, ())) (roundK cd [(3, .f (.own 0)), (5, .f (.v (.int .i64)))] [] [(.ret, [(2, .f (.v .bool))]), (.exit 0, [])]) = passkeylaw1_CborCuts_L0b y0 y1 := by kernel_rfl

theorem passkeylaw1_CborCuts_eq (x : tySs T S_passkeylaw1_CborCuts.ps) : run E_passkeylaw1_CborCuts A_passkeylaw1_CborCuts (Tryd.f8.body.getD .skip) (enterT E_passkeylaw1_CborCuts.C S_passkeylaw1_CborCuts.ps x) (retK E_passkeylaw1_CborCuts Tryd.f8.results.toList S_passkeylaw1_CborCuts.ps S_passkeylaw1_CborCuts.rs) = S_passkeylaw1_CborCuts.fn x := by kernel_rfl

theorem passkeylaw1_CborCuts_env : EnvOk Tryd.prog E_passkeylaw1_CborCuts := envOk (E := E_passkeylaw1_CborCuts) cd_ok tys fl_ok fun f ds S h => by
    dsimp only [E_passkeylaw1_CborCuts] at h
    split at h
    · cases h; exact passkeylaw1_awake_ok
    · cases h; exact cbor_Encode_ok
    · cases h; exact passkeybase_Tree_ok
    · cases h; exact cbor_Decode_ok
    · cases h

theorem passkeylaw1_CborCuts_L0_ok : LoopOk Tryd.prog E_passkeylaw1_CborCuts Tryd.f8.ntmps (kqOf S_passkeylaw1_CborCuts.ps 0) (loopAt 0 (Tryd.f8.body.getD .skip)) ⟨[(3, .f (.own 0)), (5, .f (.v (.int .i64)))], [(.ret, [(2, .f (.v .bool))]), (.exit 0, [])], passkeylaw1_CborCuts_L0, []⟩ :=
  loop_ok (A := A_passkeylaw1_CborCuts) (done := []) (c0 := (Tryd.f8.body.getD .skip)) hmix passkeylaw1_CborCuts_env done_nil rounds (by kernel_rfl) (by kernel_rfl) (fun x => passkeylaw1_CborCuts_L0_eq x.1 x.2.1) (fun _ => rfl)

theorem passkeylaw1_CborCuts_ok : SoundT Tryd.prog cd gdn 8 S_passkeylaw1_CborCuts :=
  sound_fn (E := E_passkeylaw1_CborCuts) (A := A_passkeylaw1_CborCuts) (done := [0]) (c := (Tryd.f8.body.getD .skip)) (S := S_passkeylaw1_CborCuts) (fn := Tryd.f8) hmix passkeylaw1_CborCuts_env Tryd.func8 rfl (by kernel_rfl) (by kernel_rfl) (done_cons rfl passkeylaw1_CborCuts_L0_ok done_nil) (by kernel_rfl) (by kernel_rfl) passkeylaw1_CborCuts_eq

def CborItems_dom (a0 : (BitVec 64)) (a1 : (List (UInt8))) (a2 : (List UInt8)) (a3 : Bool) : Prop := ArgD cd [.u64, (.rs 0), .str, .bool] (a0, a1, a2, a3, ())
def CborSkips_dom (a0 : (List (ApiItem))) (a1 : Int) (a2 : (List (Int))) (a3 : Int) : Prop := ArgD cd [(.rs 1), (.int .i64), (.rs 7), (.int .i64)] (a0, a1, a2, a3, ())
def CborDepth_dom (a0 : UInt8) (a1 : (BitVec 16)) : Prop := ArgD cd [.u8, .u16] (a0, a1, ())
def CborValidates_dom (a0 : (List (ApiItem))) : Prop := ArgD cd [(.rs 1)] (a0, ())
def CborEncodes_dom (a0 : (List (Int))) (a1 : Int) : Prop := ArgD cd [(.rs 7), (.int .i64)] (a0, a1, ())
def CborDecodes_dom (a0 : (List (UInt8))) (a1 : (List (Int))) (a2 : Int) (a3 : UInt8) : Prop := ArgD cd [(.rs 0), (.rs 7), (.int .i64), .u8] (a0, a1, a2, a3, ())
def CborBack_dom (a0 : (List (Int))) (a1 : (List (UInt8))) : Prop := ArgD cd [(.rs 7), (.rs 0)] (a0, a1, ())
def CborUnique_dom (a0 : (List (UInt8))) : Prop := ArgD cd [(.rs 0)] (a0, ())
def CborCuts_dom (a0 : (List (Int))) : Prop := ArgD cd [(.rs 7)] (a0, ())
end Go.Proofs.YtjedfmknnkimmaaDoor

/- The levels of a tree of keys: the iterator, whatever the rounds do. -/
import Derived.Test.YteenkpgjcbhonaaGreatDoorFns0
import Derived.Test.YteenkpgjcbhonaaGreatDoorRgA
namespace Go.Proofs.YteenkpgjcbhonaaGreatDoor
set_option linter.unusedVariables false
set_option linter.unusedSimpArgs false
set_option maxRecDepth 100000
open Go Go.Abs Go.RowKit
noncomputable abbrev b36 : Code := bodyOf Tryz.f36
def sqL : Code → Code
  | .seq a _ => a
  | c => c
def sqR : Code → Code
  | .seq _ b => b
  | c => c
def opsIn : Code → Array Oper
  | .region _ o _ => o
  | _ => #[]
noncomputable abbrev cR0 : Code := sqL b36
noncomputable abbrev cS1 : Code := sqL (sqR b36)
noncomputable abbrev cR6 : Code := sqL (sqR (sqR b36))
noncomputable abbrev cB2 : Code := loopAt 2 b36
noncomputable abbrev cP3 : Code := sqR cB2
noncomputable abbrev ops7 : Array Oper := opsIn (sqL (sqL cB2))
theorem b36_eq : b36 = .seq cR0 (.seq cS1 (.seq cR6 (.block 2 (.loop cB2)))) := by kernel_rfl
theorem cB2_eq : cB2 = .seq (.seq (.region 7 ops7 false) (.cond (.tmp 32) .skip (.exit 2))) cP3 := by kernel_rfl
theorem b36_some : Tryz.f36.body = some b36 := by kernel_rfl
abbrev shA : Shape := [(1, .f (.v (.ref (.int .i64)))), (2, .f (.v (.ref .u64)))]
abbrev shB : Shape := [(1, .f (.v (.ref (.int .i64)))), (2, .f (.v (.ref .u64))), (4, .f (.own 2))]
abbrev shC : Shape := [(1, .f (.v (.ref (.int .i64)))), (4, .f (.own 2))]
abbrev shD : Shape := [(1, .f (.v (.ref (.int .i64)))), (4, .f (.own 2)), (6, .f (.v (.int .i64)))]
abbrev shE : Shape := [(1, .f (.v (.ref (.int .i64)))), (4, .f (.own 2)), (6, .f (.v (.int .i64))), (32, .f (.v .bool))]
abbrev E36 : Env T := mE cLev
def lv0 (h : Int) (s : BitVec 64) : Option (Int × BitVec 64 × List (BitVec 64) × Unit) :=
 (bif decide ((0 : Int) ≤ h) then (let v1 : Int := (IntKind.wrap .i64 ((1 : Int) * 2 ^ (min (h).toNat (IntKind.bits .i64))))
 (bif (decide ((0 : Int) ≤ v1) && (decide (v1 ≤ v1) && decide ((8 : Int) * v1 ≤ 281474976710656 ∧ v1 ≤ 9223372036854775807))) then (some (h, s, List.replicate (v1).toNat 0#64, ()))
 else none))
 else none)
def lv1 (h : Int) (s : BitVec 64) (l : List (BitVec 64)) : Option (Int × List (BitVec 64) × Unit) :=
 (treekey_levels_L0 (h, s, l, (l.length : Int), (0 : Int), ())).bind (fun (z : (Int × (List (BitVec 64)) × Unit)) => some (z.1, z.2.1, ()))
def lv3 (h : Int) (l : List (BitVec 64)) (k : Int) : Option (Int × List (BitVec 64) × Int × Unit) :=
 (bif (decide ((0 : Int) ≤ (IntKind.wrap .i64 (Int.tdiv ((l).length : Int) (2 : Int)))) && (decide ((IntKind.wrap .i64 (Int.tdiv ((l).length : Int) (2 : Int))) ≤ (IntKind.wrap .i64 (Int.tdiv ((l).length : Int) (2 : Int)))) && decide ((8 : Int) * (IntKind.wrap .i64 (Int.tdiv ((l).length : Int) (2 : Int))) ≤ 281474976710656 ∧ (IntKind.wrap .i64 (Int.tdiv ((l).length : Int) (2 : Int))) ≤ 9223372036854775807))) then
 ((treekey_levels_L4 (h, l, k, (List.replicate ((IntKind.wrap .i64 (Int.tdiv ((l).length : Int) (2 : Int)))).toNat 0#64), (((IntKind.wrap .i64 (Int.tdiv ((l).length : Int) (2 : Int)))).toNat : Int), (0 : Int), ())).bind (fun (z : (Int × Int × (List (BitVec 64)) × Unit)) => (some (z.1, z.2.2.1, (IntKind.wrap .i64 (z.2.1 + (1 : Int))), ()))))
 else none)
theorem p0 (x : tySs T (Shape.slots shA)) : run E36 A_treekey_levels cR0 (lay E36.C shA x) (pk E36.C shB) = lv0 x.1 x.2.1 := by kernel_rfl
theorem p1 (x : tySs T (Shape.slots shB)) : run E36 A_treekey_levels cS1 (lay E36.C shB x) (pk E36.C shC) = lv1 x.1 x.2.1 x.2.2.1 := by kernel_rfl
theorem p2 (x : tySs T (Shape.slots shC)) : run E36 A_treekey_levels cR6 (lay E36.C shC x) (pk E36.C shD) = some (x.1, x.2.1, (0 : Int), ()) := by kernel_rfl
theorem p3 (x : tySs T (Shape.slots shD)) : run E36 A_treekey_levels cP3 (lay E36.C shD x) (pk E36.C shD) = lv3 x.1 x.2.1 x.2.2.1 := by kernel_rfl
theorem dLev : ∀ id ∈ [0, 4], ∀ S, A_treekey_levels.lp id = some S → LoopOk Tryz.prog E36 Tryz.f36.ntmps [0] (loopAt id b36) S := done_cons rfl treekey_levels_L0_ok (done_cons rfl treekey_levels_L4_ok done_nil)
noncomputable def op0 : Oper := (ops7[0]?).get (by kernel_rfl)
noncomputable def op3 : Oper := (ops7[3]?).get (by kernel_rfl)
theorem op0_eq : ops7[0]? = some ⟨some 24, .move (.tmp 0), op0.type, op0.pos, op0.after, none⟩ := by kernel_rfl
theorem op3_eq : ops7[3]? = some ⟨some 27, .call ⟨.value (.tmp 24), #[.tmp 25, .tmp 26], #[3, 50]⟩, op3.type, op3.pos, op3.after, none⟩ := by kernel_rfl
/-- the state of the tree, level by level. -/
def stAt (h : Int) (s : BitVec 64) : Nat → Option (Int × List (BitVec 64) × Int × Unit)
  | 0 => (lv0 h s).bind fun x => (lv1 x.1 x.2.1 x.2.2.1).bind fun y => some (y.1, y.2.1, 0, ())
  | k + 1 => (stAt h s k).bind fun y => lv3 y.1 y.2.1 y.2.2.1
end Go.Proofs.YteenkpgjcbhonaaGreatDoor

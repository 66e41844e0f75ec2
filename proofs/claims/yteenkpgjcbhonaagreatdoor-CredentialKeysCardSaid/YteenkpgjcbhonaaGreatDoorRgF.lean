/- The levels of a tree of keys: the small functions about the iterator. -/
import Derived.Test.YteenkpgjcbhonaaGreatDoorRgE
import Derived.RangeFuncSeq
import Derived.OwnWalkIn
import Derived.TacticsInMore
import Derived.RegionIn
import Derived.LoopNIn
import Derived.LoopIn
namespace Go.Proofs
open Go.RowKit
set_option linter.unusedVariables false
set_option linter.unusedSimpArgs false
set_option maxRecDepth 100000 in
set_option maxHeartbeats 1000000 in
/-- which heights are no heights. -/
theorem Tryz.high_in (F : Fence) (n : Nat) (h20 : F.fn 20) (hro : F.round = none) (h : Int) (w : World) : CallsIn F n Tryz.prog 20 #[.int .i64 h] w fun e w' => e = .returned (.bool (decide (h < 0) || decide (h > 4))) ∧ w' = w := by
  refine callsIn_of_wp Tryz.func20 rfl h20 ?_ hro
  simp only [Tryz.ntmps20, List.size_toArray, List.length_cons, List.length_nil, Nat.reduceAdd, Nat.reduceSub, Array.replicate_succ, Array.replicate_zero, List.push_toArray, List.append_toArray, List.nil_append, List.cons_append]
  gi_wp2
  · go_ret
    rename_i hl
    exact ⟨by simp [hl], rfl⟩
  · gi_wp2
    go_ret
    rename_i hl
    exact ⟨by simp [hl], rfl⟩
set_option maxHeartbeats 1000000 in
/-- the iterator holds two variables. -/
theorem Tryz.levels_in (F : Fence) (n : Nat) (h21 : F.fn 21) (hro : F.round = none) (s h : Int) (w : World) :
    CallsIn F n Tryz.prog 21 #[.int .u64 s, .int .i64 h] w fun e w' => e = .returned (.func (.func 36) #[] #[.pointer (some ⟨w.heap.size + 1, 0, none⟩), .pointer (some ⟨w.heap.size, 0, none⟩)]) ∧ w' = (w.alloc (.cells #[.int .u64 s] 22)).alloc (.cells #[.int .i64 h] 3) := by
  refine callsIn_of_wp Tryz.func21 rfl h21 ?_ hro
  simp only [Tryz.ntmps21, List.size_toArray, List.length_cons, List.length_nil, Nat.reduceAdd, Nat.reduceSub, Array.replicate_succ, Array.replicate_zero, List.push_toArray, List.append_toArray, List.nil_append, List.cons_append]
  gi_wp2
  go_ret
  exact ⟨rfl, rfl⟩
end Go.Proofs

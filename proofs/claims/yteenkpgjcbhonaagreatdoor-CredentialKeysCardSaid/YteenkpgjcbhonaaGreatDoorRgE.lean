/- The levels of a tree of keys: all rounds, and the iterator as a whole. -/
import Derived.Test.YteenkpgjcbhonaaGreatDoorRgD
namespace Go.Proofs.YteenkpgjcbhonaaGreatDoor
set_option linter.unusedVariables false
set_option linter.unusedSimpArgs false
set_option maxRecDepth 100000
open Go Go.Abs Go.RowKit
/-- all levels are there. -/
def AllSt (h : Int) (s : BitVec 64) : Prop := ∀ k : Nat, (k : Int) ≤ h → ∃ y, stAt h s k = some y ∧ y.1 = h ∧ y.2.2.1 = k ∧ y.2.1 ≠ []
theorem tED (y : Int × List (BitVec 64) × Int × Unit) (b : Bool) : takeK E36.C shD (lay E36.C shE (y.1, y.2.1, y.2.2.1, b, ())) some = some y := by kernel_rfl
section
variable {I0 : Nat → Prop} {w1 : World} {l q : Nat} {h : Int} {s : BitVec 64} {J : Nat → World → Prop} {Q : Exit → Act → World → Prop}
theorem loop2_ok (hY : YieldsOk I0 w1 l h s J q) (hC : CalmJ w1 J) (hA : AllSt h s) (hQ : ∀ a' w', J (h.toNat + 1) w' → w1.heap.size ≤ w'.heap.size → a'.defers = [] → Q (.exit 2) a' w') :
    ∀ (m k : Nat), (k + m : Int) = h → ∀ {I1 I : Nat → Prop} {w0 w : World} {loc : Nat → Nat → Abs.Loc} {L : Nat → Nat → Nat} {a : Act} {y : Int × List (BitVec 64) × Int × Unit}, stAt h s k = some y → J k w → w1.heap.size ≤ w.heap.size → (∀ j, I j → I0 j ∨ w1.heap.size ≤ j) →
      RelT E36 (Own1 w1) I1 w0 Tryz.f36.ntmps (kpl l) I loc L (lay E36.C shD y).f a w → Code.rounds Tryz.prog cB2 Q (m + 1) a w := by
  intro m
  induction m with
  | zero =>
    intro k hkm I1 I w0 w loc L a y hst hJ hsz hII hr
    obtain ⟨y', e1, e2, e3, e4⟩ := hA k (by omega)
    rw [hst] at e1
    have e5 := Option.some.inj e1
    subst e5
    rw [rounds_succ, cB2_eq]
    refine wp_seq (wp_seq (region7_ok hY hC (by omega) hst e3 e4 hJ hsz hII hr fun I' w0' I'' loc' L' a' w' h1 h2 h3 h4 => ?_))
    have hc : a'.eval (.tmp 32) = .bool (decide (y.2.2.1 < y.1)) := by
      have := (evT_ok h1 (.tmp 32)).1
      change V I'' w' (den E36.C (.bool (decide (y.2.2.1 < y.1)))) loc' _ at this
      simpa only [den, V] using this
    refine wp_cond_split hc (fun ht => ?_) (fun _ => ?_)
    · have := of_decide_eq_true ht; omega
    · refine wp_exit (hQ _ _ ?_ h3 h1.defers)
      rw [show h.toNat + 1 = k + 1 by omega]
      exact h2
  | succ m ih =>
    intro k hkm I1 I w0 w loc L a y hst hJ hsz hII hr
    obtain ⟨y', e1, e2, e3, e4⟩ := hA k (by omega)
    rw [hst] at e1
    have e5 := Option.some.inj e1
    subst e5
    obtain ⟨y2, f1, f2, f3, f4⟩ := hA (k + 1) (by omega)
    have hl3 : lv3 y.1 y.2.1 y.2.2.1 = some y2 := by
      have := f1
      unfold stAt at this
      rw [hst] at this
      exact this
    rw [rounds_succ, cB2_eq]
    refine wp_seq (wp_seq (region7_ok hY hC (by omega) hst e3 e4 hJ hsz hII hr fun I' w0' I'' loc' L' a' w' h1 h2 h3 h4 => ?_))
    have hc : a'.eval (.tmp 32) = .bool (decide (y.2.2.1 < y.1)) := by
      have := (evT_ok h1 (.tmp 32)).1
      change V I'' w' (den E36.C (.bool (decide (y.2.2.1 < y.1)))) loc' _ at this
      simpa only [den, V] using this
    refine wp_cond_split hc (fun _ => ?_) (fun hf => ?_)
    · refine wp_skip ?_
      obtain ⟨x, I5, loc5, L5, g1, g2⟩ := takeK_ok cd_ok h1 (tED y _)
      have g3 := Option.some.inj g2
      subst g3
      have hI5 : ∀ j, I5 j → I0 j ∨ w1.heap.size ≤ j := fun j hj => (g1.imm1 j hj).elim (h4 j) .inr
      have g1 := g1.world (W := w') (fun _ _ => rfl) rfl (fun _ => Nat.le_refl _)
      refine piece_ok hmix oLev (A := A_treekey_levels) (kq := [0]) (done := [0, 4]) (c0 := b36) (by simp) dLev (by kernel_rfl) (by kernel_rfl) p3 g1 hl3 fun I6 loc6 L6 a6 w6 h6 => ?_
      exact ih (k + 1) (by omega) f1 (hC _ _ _ h6.fr h3 h2) (Nat.le_trans h3 h6.fr.size) (fun j hj => (h6.imm1 j hj).elim (hI5 j) .inr) h6
    · have := of_decide_eq_false hf
      omega
/-- THE ITERATOR: called with yield and the two variables that it holds, it has all rounds be done. -/
theorem levels1_ok (hY : YieldsOk I0 w1 l h s J q) (hC : CalmJ w1 J) (hA : AllSt h s) (h0 : 0 ≤ h) (hI : ∀ k, I0 k → k < w1.heap.size) (hG : Glob gdn I0 w1) (hJ : J 0 w1) {q1 q2 : Value} (v1 : V I0 w1 (.rp [.int .i64 h]) Abs.free q1) (v2 : V I0 w1 (.rp [.int .u64 s.toNat]) Abs.free q2) :
    Calls Tryz.prog 36 #[yv l, q1, q2] w1 fun e w' => (∃ v, e = .returned v) ∧ J (h.toNat + 1) w' ∧ w1.heap.size ≤ w'.heap.size := by
  refine calls_of_wp Tryz.func36 b36_some ?_
  have hr : RelT E36 (Own1 w1) I0 w1 Tryz.f36.ntmps (kpl l) I0 Abs.free (fun _ _ => 0) (lay E36.C shA (h, s, ())).f { tmps := #[yv l, q1, q2] ++ Array.replicate (Tryz.f36.ntmps - (#[yv l, q1, q2] : Array Value).size) undef, defers := [] } w1 := by
    have get : ∀ i, (#[yv l, q1, q2] ++ Array.replicate (Tryz.f36.ntmps - (#[yv l, q1, q2] : Array Value).size) undef).getD i undef = [yv l, q1, q2].getD i undef := fun i => by
      rcases i with _ | _ | _ | i
      · simp [Array.getD_eq_getD_getElem?]
      · simp [Array.getD_eq_getD_getElem?]
      · simp [Array.getD_eq_getD_getElem?]
      · simp only [Array.getD_eq_getD_getElem?, Array.getElem?_append, List.size_toArray, List.length_cons, List.length_nil]
        rw [if_neg (by omega), Array.getElem?_replicate]
        simp only [List.getD_eq_getElem?_getD]
        split <;> simp
    refine ⟨by rw [n36]; simp, rfl, fun i => ?_, fun i => ?_, empty_ok hI (fun k h => h), fun b => trivial, hG, .refl _ _, fun _ => Nat.le_refl _, fun _ h => h, fun _ h => .inl h, fun p hp => ?_⟩
    · rw [get]
      rcases i with _ | _ | _ | i
      · exact trivial
      · exact v1
      · exact v2
      · have e : (lay E36.C shA (h, s, ())).f.t (i + 3) = .dead := rfl
        rw [e]; exact trivial
    · rcases i with _ | _ | _ | i <;> exact trivial
    · simp only [List.mem_singleton] at hp
      subst hp
      exact get 0
  obtain ⟨y, e1, e2, e3, e4⟩ := hA 0 h0
  have e1' := e1
  unfold stAt at e1'
  rw [Option.bind_eq_some_iff] at e1'
  obtain ⟨x, x1, x2⟩ := e1'
  rw [Option.bind_eq_some_iff] at x2
  obtain ⟨z, z1, z2⟩ := x2
  rw [b36_eq]
  refine wp_seq (piece_ok hmix oLev (A := A_treekey_levels) (kq := [0]) (done := [0, 4]) (c0 := b36) (by simp) dLev (by kernel_rfl) (by kernel_rfl) p0 hr x1 fun Ia loca La aa wa ha => ?_)
  refine wp_seq (piece_ok hmix oLev (A := A_treekey_levels) (kq := [0]) (done := [0, 4]) (c0 := b36) (by simp) dLev (by kernel_rfl) (by kernel_rfl) p1 ha z1 fun Ib locb Lb ab wb hb => ?_)
  refine wp_seq (piece_ok hmix oLev (A := A_treekey_levels) (kq := [0]) (done := [0, 4]) (c0 := b36) (by simp) dLev (by kernel_rfl) (by kernel_rfl) p2 hb rfl fun Ic locc Lc ac wc hc => ?_)
  have hz := Option.some.inj z2
  subst hz
  refine wp_block (wp_loop_rounds (h.toNat + 1) (loop2_ok hY hC hA (fun a' w' j1 j2 j3 => ?_) h.toNat 0 (by omega) e1 (hC _ _ _ hc.fr (Nat.le_refl _) hJ) hc.fr.size (fun j hj => hc.imm1 j hj) hc))
  simp only [Exit.inBlock]
  rw [if_pos trivial]
  exact ⟨j3, .tuple #[], (by kernel_rfl : (results Tryz.f36 a'.tmps).run Tryz.prog w' = .ok (.tuple #[]) w'), ⟨_, rfl⟩, j1, j2⟩
end
end Go.Proofs.YteenkpgjcbhonaaGreatDoor

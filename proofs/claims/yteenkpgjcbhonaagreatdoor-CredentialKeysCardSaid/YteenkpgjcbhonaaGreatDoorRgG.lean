/- The public key of a seed: one round of the loop over the levels. -/
import Derived.Test.YteenkpgjcbhonaaGreatDoorRgF
namespace Go.Proofs
open Go.RowKit
set_option linter.unusedVariables false
set_option linter.unusedSimpArgs false
set_option maxRecDepth 100000
open Go.Proofs.YteenkpgjcbhonaaGreatDoor (sqL sqR)
def rfA : Code → Code
  | .rangeFunc _ _ a _ => a
  | c => c
def rfB : Code → Code
  | .rangeFunc _ _ _ b => b
  | c => c
def bkC : Code → Code
  | .block _ b => b
  | c => c
noncomputable def pkF : Code := bkC (sqR (sqL (sqR (sqR (sqR (Go.Abs.bodyOf Tryz.f13))))))
noncomputable abbrev pkA : Code := rfA pkF
noncomputable abbrev pkB : Code := rfB pkF
theorem pkA_eq : ∃ o5 o6, pkA = .seq (.region 5 #[⟨some 7, .assign (.tmp 17), 3, o5, #[], none⟩] false) (.region 6 #[⟨some 8, .assign (.tmp 18), 50, o6, #[], none⟩] false) := ⟨_, _, rfl⟩
theorem pkB_eq : ∃ o1 o2 o3 o4 o5 o6 o7 o8 x1 x2 x3 x4 x5, pkB = .block 1 (.seq (.region 7 #[⟨some 19, .move (.tmp 7), 3, o1, #[], none⟩, ⟨some 20, .load 3 (.tmp 3), 3, o2, #[], none⟩, ⟨some 21, .binOp .eql 3 (.tmp 19) (.tmp 20) 3, 4, o3, x1, none⟩] false)
    (.cond (.tmp 21) (.region 8 #[⟨some 22, .move (.tmp 8), 50, o4, #[], none⟩, ⟨some 23, .indexAddr 50 (.tmp 22) (.const (.int .i64 0)), 0, o5, x2, none⟩, ⟨some 24, .load 22 (.tmp 23), 22, o6, x3, none⟩, ⟨some 25, .fieldAddr 28 (.tmp 6) 1, 0, o7, x4, none⟩, ⟨none, .store 22 (.tmp 25) (.tmp 24), 0, o8, x5, none⟩] false) .skip)) :=
  ⟨_, _, _, _, _, _, _, _, _, _, _, _, _, rfl⟩
noncomputable def pkRec (fn : FuncId) (s h : Int) (N D : Nat) (st : LoopState) (pend : Option Code) : Loop :=
  { state := st, pending := pend, fn, tmps := #[.int .u64 s, .int .i64 h, undef, .pointer (some ⟨N, 0, none⟩), .pointer (some ⟨N + 1, 0, none⟩), .int .i64 0, .pointer (some ⟨N + 1 + 1, 0, none⟩), undef, undef, .int .i64 h, .bool false, undef, .int .i64 h, .agg #[.int .i64 h, .int .u64 0], .int .u64 s, .int .i64 h,
      .func (.func 36) #[] #[.pointer (some ⟨N + 1 + 1 + 1 + 1, 0, none⟩), .pointer (some ⟨N + 1 + 1 + 1, 0, none⟩)], undef, undef, undef, undef, undef, undef, undef, undef, undef, undef], params := #[17, 18], assign := pkA, body := pkB, defers := D }
/-- what the caller keeps between two rounds: r is the root, once it is known. -/
structure PkAt (w : World) (fn : FuncId) (s h : Int) (l D : Nat) (r : Nat → Int) (k : Nat) (W : World) : Prop where
  L : W.heap[l]? = some (.loop (pkRec fn s h w.heap.size D .ready none))
  K : W.heap[D]? = some (.deferred (some []))
  c3 : W.heap[w.heap.size]? = some (.cells #[.int .i64 h] 3)
  c4 : W.heap[w.heap.size + 1]? = some (.cells #[.int .i64 0, .int .u64 0] 28)
  c6 : W.heap[w.heap.size + 1 + 1]? = some (.cells #[.int .i64 h, .int .u64 (r k)] 28)
  os : W.os = w.os
  tape : W.tape = w.tape
  output : W.output = w.output
  old : ∀ j, j < w.heap.size → W.heap[j]? = w.heap[j]?
set_option maxHeartbeats 1000000 in
theorem Tryz.pk_round (w : World) (m : Nat) (fn : FuncId) (s h : Int) (l D : Nat) (r : Nat → Int) (hl : w.heap.size + 5 ≤ l) (hD : w.heap.size + 5 ≤ D) (hne : l ≠ D) (k : Nat) (B len cap : Nat) (W : World) (hJ : PkAt w fn s h l D r k W) (hB : w.heap.size + 5 ≤ B) (hBl : B ≠ l) (hBD : B ≠ D)
    (hr1 : (k : Int) ≠ h → r (k + 1) = r k) (hr2 : (k : Int) = h → 0 < len ∧ W.cell? ⟨B, 0, none⟩ = some (.int .u64 (r (k + 1)))) :
    YieldAt Fence.wide m Tryz.prog l #[.int .i64 (k : Int), .slice (some ⟨B, 0, none⟩) len cap] W fun e W' =>
      e = .returned (.bool true) ∧ PkAt w fn s h l D r (k + 1) W' ∧ (∀ j, j ≠ l → j ≠ w.heap.size + 1 + 1 → W'.heap[j]? = W.heap[j]?) ∧ W'.heap.size = W.heap.size ∧ ∀ b, Go.Abs.rowSize W b ≤ Go.Abs.rowSize W' b := by
  refine ⟨fn, #[.int .u64 s, .int .i64 h, undef, .pointer (some ⟨w.heap.size, 0, none⟩), .pointer (some ⟨w.heap.size + 1, 0, none⟩), .int .i64 0, .pointer (some ⟨w.heap.size + 1 + 1, 0, none⟩), undef, undef, .int .i64 h, .bool false, undef, .int .i64 h, .agg #[.int .i64 h, .int .u64 0], .int .u64 s, .int .i64 h,
      .func (.func 36) #[] #[.pointer (some ⟨w.heap.size + 1 + 1 + 1 + 1, 0, none⟩), .pointer (some ⟨w.heap.size + 1 + 1 + 1, 0, none⟩)], .int .i64 (k : Int), .slice (some ⟨B, 0, none⟩) len cap, undef, undef, undef, undef, undef, undef, undef, undef], pkA, pkB, by simpa [pkRec] using run_yield (P := Tryz.prog) (args := #[.int .i64 (k : Int), .slice (some ⟨B, 0, none⟩) len cap]) hJ.L rfl, roundIn_of_wpIn trivial ?_⟩
  have hlt : l < W.heap.size := (Array.getElem?_eq_some_iff.1 hJ.L).1
  have hbr := run_beginRound (P := Tryz.prog) hJ.L rfl
  obtain ⟨W2, hW2⟩ : ∃ W2, W.putObj l (.loop { pkRec fn s h w.heap.size D .ready none with state := .busy }) = W2 := ⟨_, rfl⟩
  rw [hW2] at hbr
  have hoth : ∀ j, j ≠ l → W2.heap[j]? = W.heap[j]? := fun j hj => by rw [← hW2]; exact World.putObj_heap_other hj
  have hsz2 : W2.heap.size = W.heap.size := by rw [← hW2]; simp [World.putObj]
  have hos : W2.os = W.os ∧ W2.tape = W.tape ∧ W2.output = W.output := by rw [← hW2]; exact ⟨rfl, rfl, rfl⟩
  have hL2 : W2.heap[l]? = some (.loop { pkRec fn s h w.heap.size D .ready none with state := .busy }) := by rw [← hW2]; exact World.putObj_heap_same hlt
  have c3 : W2.cell? ⟨w.heap.size, 0, none⟩ = some (.int .i64 h) := by
    unfold World.cell?; rw [show W2.heap[(⟨w.heap.size, 0, none⟩ : Addr).block]? = W.heap[w.heap.size]? from hoth w.heap.size (by omega), hJ.c3]; rfl
  have c6 : W2.heap[w.heap.size + 1 + 1]? = some (.cells #[.int .i64 h, .int .u64 (r k)] 28) := (hoth _ (by omega)).trans hJ.c6
  have c6' : W2.cell? ⟨w.heap.size + 1 + 1, 1, none⟩ = some (.int .u64 (r k)) := by
    unfold World.cell?; rw [c6]; rfl
  have f6 : W2.frozen? ⟨w.heap.size + 1 + 1, 1, none⟩ = false := by
    unfold World.frozen?; rw [c6]; rfl
  clear hW2
  obtain ⟨a1, a2, ea⟩ := pkA_eq
  rw [ea]
  obtain ⟨o1, o2, o3, o4, o5, o6, o7, o8, x1, x2, x3, x4, x5, eb⟩ := pkB_eq
  have fin : ∀ (W3 : World) (a3 : Act), W3.heap.size = W2.heap.size → (∀ j, j ≠ w.heap.size + 1 + 1 → W3.heap[j]? = W2.heap[j]?) → W3.heap[w.heap.size + 1 + 1]? = some (.cells #[.int .i64 h, .int .u64 (r (k + 1))] 28) → W3.os = W2.os → W3.tape = W2.tape → W3.output = W2.output →
      roundPost Tryz.prog l (fun e W' => e = .returned (.bool true) ∧ PkAt w fn s h l D r (k + 1) W' ∧ (∀ j, j ≠ l → j ≠ w.heap.size + 1 + 1 → W'.heap[j]? = W.heap[j]?) ∧ W'.heap.size = W.heap.size ∧ ∀ b, Go.Abs.rowSize W b ≤ Go.Abs.rowSize W' b) .normal a3 W3 := by
    intro W3 a3 z1 z2 z3 z4 z5 z6
    have hL3 : W3.heap[l]? = some (.loop { pkRec fn s h w.heap.size D .ready none with state := .busy }) := (z2 l (by omega)).trans hL2
    have hl3 : l < W3.heap.size := (Array.getElem?_eq_some_iff.1 hL3).1
    have ho : ∀ j, j ≠ l → (W3.putObj l (.loop (pkRec fn s h w.heap.size D .ready none))).heap[j]? = W3.heap[j]? := fun j hj => World.putObj_heap_other hj
    have hall : ∀ j, j ≠ l → j ≠ w.heap.size + 1 + 1 → (W3.putObj l (.loop (pkRec fn s h w.heap.size D .ready none))).heap[j]? = W.heap[j]? := fun j h1 h2 => (ho j h1).trans ((z2 j h2).trans (hoth j h1))
    have hLf : (W3.putObj l (.loop (pkRec fn s h w.heap.size D .ready none))).heap[l]? = some (.loop (pkRec fn s h w.heap.size D .ready none)) := World.putObj_heap_same hl3
    have h6f := (ho (w.heap.size + 1 + 1) (by omega)).trans z3
    refine ⟨_, W3.putObj l (.loop (pkRec fn s h w.heap.size D .ready none)), run_endRound none hL3, rfl, ⟨hLf, ?_, ?_, ?_, h6f, ?_, ?_, ?_, fun j hj => ?_⟩, hall, ?_, fun b => ?_⟩
    · exact (hall D (Ne.symm hne) (by omega)).trans hJ.K
    · exact (hall _ (by omega) (by omega)).trans hJ.c3
    · exact (hall _ (by omega) (by omega)).trans hJ.c4
    · exact (show _ = W3.os from rfl).trans (z4.trans (hos.1.trans hJ.os))
    · exact (show _ = W3.tape from rfl).trans (z5.trans (hos.2.1.trans hJ.tape))
    · exact (show _ = W3.output from rfl).trans (z6.trans (hos.2.2.trans hJ.output))
    · exact (hall j (by omega) (by omega)).trans (hJ.old j hj)
    · have : (W3.putObj l (.loop (pkRec fn s h w.heap.size D .ready none))).heap.size = W3.heap.size := by simp [World.putObj]
      omega
    · by_cases e1 : b = l
      · subst e1; unfold Go.Abs.rowSize; rw [hJ.L, hLf]; exact Nat.le_refl _
      · by_cases e2 : b = w.heap.size + 1 + 1
        · subst e2; unfold Go.Abs.rowSize; rw [hJ.c6, h6f]; exact Nat.le_refl _
        · unfold Go.Abs.rowSize; rw [hall b e1 e2]; exact Nat.le_refl _
  by_cases hk : (k : Int) = h
  · obtain ⟨hlen, hcell⟩ := hr2 hk
    have cB : W2.cell? ⟨B, 0, none⟩ = some (.int .u64 (r (k + 1))) := by
      rw [← hcell]; exact World.cell?_of_block (hoth _ hBl)
    gi_wp2_with (rw [Oper.semAt_eq _ _ _ (fun c h => by cases h)]; go_simp; try go_bits)
    refine fin _ _ (by simp [World.setCell]) (fun j hj => Below.heap_setCell W2 _ _ j hj) ?_ rfl rfl rfl
    unfold World.setCell
    simp only [Array.getElem?_modify, if_true, c6, Option.map_some]
    rfl
  · gi_wp2_with (rw [Oper.semAt_eq _ _ _ (fun c h => by cases h)]; go_simp; try go_bits)
    refine fin _ _ rfl (fun j _ => rfl) ?_ rfl rfl rfl
    rw [c6, hr1 hk]
end Go.Proofs

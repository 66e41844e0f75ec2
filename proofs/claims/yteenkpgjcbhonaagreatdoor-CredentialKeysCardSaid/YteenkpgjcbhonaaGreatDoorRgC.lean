/- The public key of a seed: its contract. -/
import Derived.Test.YteenkpgjcbhonaaGreatDoorRgG
import Derived.Test.YteenkpgjcbhonaaGreatDoorRgH
namespace Go.Proofs
open Go.RowKit
set_option linter.unusedVariables false
set_option linter.unusedSimpArgs false
set_option maxRecDepth 100000
open Go.Proofs.YteenkpgjcbhonaaGreatDoor
theorem pk_frame {w W : World} (h : ∀ j, j < w.heap.size → W.heap[j]? = w.heap[j]?) : ∀ b, b < w.heap.size → Go.Abs.rowSize W b = Go.Abs.rowSize w b := fun b hb => by unfold Go.Abs.rowSize; rw [h b hb]
theorem pk_rows {w W : World} (h : ∀ j, j < w.heap.size → W.heap[j]? = w.heap[j]?) (b : Nat) : Go.Abs.rowSize w b ≤ Go.Abs.rowSize W b := by
  by_cases hb : b < w.heap.size
  · rw [pk_frame h b hb]; exact Nat.le_refl _
  · have e : Go.Abs.rowSize w b = 0 := by
      unfold Go.Abs.rowSize
      rw [Array.getElem?_eq_none (by omega)]
    rw [e]; exact Nat.zero_le _
theorem five {w W : World} {a b c d e : Obj} (h : ((((w.alloc a).alloc b).alloc c).alloc d).alloc e = W) : W.heap[w.heap.size]? = some a ∧ W.heap[w.heap.size + 1]? = some b ∧ W.heap[w.heap.size + 1 + 1]? = some c ∧ W.heap[w.heap.size + 1 + 1 + 1]? = some d ∧ W.heap[w.heap.size + 1 + 1 + 1 + 1]? = some e := by
  have hh : W.heap = ((((w.heap.push a).push b).push c).push d).push e := by rw [← h]; rfl
  rw [hh]
  simp only [Array.getElem?_push, Array.size_push]
  refine ⟨?_, ?_, ?_, ?_, ?_⟩ <;> repeat (first | rw [if_pos trivial] | rw [if_pos (by omega)] | rw [if_neg (by omega)])
set_option maxHeartbeats 4000000 in
theorem Tryz.public_good (s : BitVec 64) (h : Int) (w : World) (Ig : Nat → Prop) (hIg : ∀ k, Ig k → k < w.heap.size) (hG : Go.Abs.Glob gdn Ig w) (hh : (decide (h < 0) || decide (h > 4)) = false) {y : Int × List (BitVec 64) × Int × Unit} {x : BitVec 64} (hy : stAt h s h.toNat = some y) (hx : y.2.1[0]? = some x) :
    CallsIn Fence.wide 3 Tryz.prog 13 #[.int .u64 s.toNat, .int .i64 h] w fun e w' => e = .returned (.tuple #[.agg #[.int .i64 h, .int .u64 x.toNat], .int .i64 0]) ∧ Below w.heap.size w w' := by
  have h04 : 0 ≤ h ∧ h ≤ 4 := by
    simp only [Bool.or_eq_false_iff, decide_eq_false_iff_not] at hh
    omega
  have hne : y.2.1 ≠ [] := by intro e; rw [e] at hx; cases hx
  have hA : AllSt h s := allSt_of h04.1 h04.2 hy hne
  obtain ⟨F, hF⟩ : ∃ F, (fun _ : Unit => F) = fun _ => Fence.wide := ⟨_, rfl⟩
  obtain ⟨n, hn⟩ : ∃ n : Nat, (fun _ : Unit => n) = fun _ => 3 := ⟨_, rfl⟩
  have hF1 : F = Fence.wide := congrFun hF ()
  have hn1 : n = 3 := congrFun hn ()
  rw [← hF1, ← hn1]
  have hfn : ∀ f, F.fn f := fun f => by rw [hF1]; trivial
  have hro : F.round = none := by rw [hF1]; rfl
  have h1 : 1 ≤ n := by omega
  clear hF1 hn1
  refine callsIn_of_wp_marks Tryz.func13 rfl (hfn 13) ?_ hro
  simp only [Tryz.ntmps13, List.size_toArray, List.length_cons, List.length_nil, Nat.reduceAdd, Nat.reduceSub, Array.replicate_succ, Array.replicate_zero, List.push_toArray, List.append_toArray, List.nil_append, List.cons_append]
  have h20 := hfn 20
  have h21 := hfn 21
  gi_wp2
  refine (Tryz.high_in F (n - 1) h20 hro h _).mono ?_
  rintro e w' ⟨rfl, rfl⟩
  rw [hh]
  gi_wp2_with (gi_at_call 21; refine (Tryz.levels_in F (n - 1) h21 hro _ _ _).mono ?_; rintro e w' ⟨rfl, rfl⟩)
  refine wpIn_rangeFunc ?_
  intro fn _
  obtain ⟨W0, hW0⟩ : ∃ W0, (((((w.alloc (Obj.cells #[Value.int IntKind.i64 h] 3)).alloc (Obj.cells #[Value.int IntKind.i64 0, Value.int IntKind.u64 0] 28)).alloc (Obj.cells #[Value.int IntKind.i64 h, Value.int IntKind.u64 0] 28)).alloc (Obj.cells #[Value.int IntKind.u64 s.toNat] 22)).alloc (Obj.cells #[Value.int IntKind.i64 h] 3)) = W0 := ⟨_, rfl⟩
  rw [hW0]
  have hs0 : W0.heap.size = w.heap.size + 5 := by rw [← hW0]; simp
  obtain ⟨w3, w4, w6, w7, w8⟩ := five hW0
  have wold : ∀ j, j < w.heap.size → W0.heap[j]? = w.heap[j]? := fun j hj => by
    rw [← hW0]
    exact (Below.heap_alloc _ _ j (by simp; omega)).trans ((Below.heap_alloc _ _ j (by simp; omega)).trans ((Below.heap_alloc _ _ j (by simp; omega)).trans ((Below.heap_alloc _ _ j (by simp; omega)).trans (Below.heap_alloc _ _ j hj))))
  have wos : W0.os = w.os ∧ W0.tape = w.tape ∧ W0.output = w.output := by rw [← hW0]; exact ⟨rfl, rfl, rfl⟩
  clear hW0
  obtain ⟨W1, hW1⟩ : ∃ W1, (W0.alloc (.deferred (some []))).alloc (.loop (pkRec fn s.toNat h w.heap.size W0.heap.size .ready none)) = W1 := ⟨_, rfl⟩
  have hs1 : W1.heap.size = w.heap.size + 7 := by rw [← hW1]; simp [hs0]
  have hold : ∀ k, k < W0.heap.size → W1.heap[k]? = W0.heap[k]? := fun k hk => by
    rw [← hW1]; exact (Below.heap_alloc _ _ k (by simp; omega)).trans (Below.heap_alloc _ _ k hk)
  have hL1 : W1.heap[W0.heap.size + 1]? = some (.loop (pkRec fn s.toNat h w.heap.size W0.heap.size .ready none)) := by
    rw [← hW1]; have := World.alloc_heap_new (W0.alloc (.deferred (some []))) (.loop (pkRec fn s.toNat h w.heap.size W0.heap.size .ready none)); rwa [World.size_alloc] at this
  have hK1 : W1.heap[W0.heap.size]? = some (.deferred (some [])) := by rw [← hW1]; exact (Below.heap_alloc _ _ _ (by simp)).trans (World.alloc_heap_new W0 _)
  have hos1 : W1.os = w.os ∧ W1.tape = w.tape ∧ W1.output = w.output := by rw [← hW1]; exact wos
  have hold1 : ∀ j, j < w.heap.size → W1.heap[j]? = w.heap[j]? := fun j hj => (hold j (by omega)).trans (wold j hj)
  obtain ⟨r, hr⟩ : ∃ r : Nat → Int, r = fun k => if k ≤ h.toNat then 0 else (x.toNat : Int) := ⟨_, rfl⟩
  have hJ0 : PkAt w fn s.toNat h (W0.heap.size + 1) W0.heap.size r 0 W1 :=
    ⟨hL1, hK1, (hold _ (by omega)).trans w3, (hold _ (by omega)).trans w4, by rw [hr]; simpa using (hold _ (by omega)).trans w6, hos1.1, hos1.2.1, hos1.2.2, hold1⟩
  obtain ⟨I0, hI0⟩ : ∃ I0 : Nat → Prop, I0 = fun k => Ig k ∨ k = w.heap.size + 1 + 1 + 1 ∨ k = w.heap.size + 1 + 1 + 1 + 1 := ⟨_, rfl⟩
  have hIlt : ∀ k, I0 k → k < W1.heap.size := fun k hk => by
    rw [hI0] at hk
    rcases hk with hk | rfl | rfl
    · have := hIg k hk; omega
    · omega
    · omega
  have hG1 : Go.Abs.Glob gdn I0 W1 := Go.Abs.Glob_mono hG ⟨fun b hb => by rw [hI0]; exact .inl hb, fun b hb => hold1 b (hIg b hb), fun b => pk_rows hold1 b⟩
  have v1 : Go.Abs.V I0 W1 (.rp [.int .i64 h]) Go.Abs.free (.pointer (some ⟨w.heap.size + 1 + 1 + 1 + 1, 0, none⟩)) := by
    simp only [Go.Abs.V, Go.Abs.VC]
    refine ⟨_, 0, rfl, by rw [hI0]; exact .inr (.inr rfl), ⟨_, ?_, rfl, rfl⟩, trivial⟩
    unfold World.cell?
    rw [show W1.heap[(⟨w.heap.size + 1 + 1 + 1 + 1, 0, none⟩ : Addr).block]? = _ from (hold (w.heap.size + 1 + 1 + 1 + 1) (by omega)).trans w8]; rfl
  have v2 : Go.Abs.V I0 W1 (.rp [.int .u64 s.toNat]) Go.Abs.free (.pointer (some ⟨w.heap.size + 1 + 1 + 1, 0, none⟩)) := by
    simp only [Go.Abs.V, Go.Abs.VC]
    refine ⟨_, 0, rfl, by rw [hI0]; exact .inr (.inl rfl), ⟨_, ?_, rfl, rfl⟩, trivial⟩
    unfold World.cell?
    rw [show W1.heap[(⟨w.heap.size + 1 + 1 + 1, 0, none⟩ : Addr).block]? = _ from (hold (w.heap.size + 1 + 1 + 1) (by omega)).trans w7]; rfl
  have hC : CalmJ W1 (PkAt w fn s.toNat h (W0.heap.size + 1) W0.heap.size r) := by
    intro k W W' hfr hsz hJ
    have same : ∀ j, j < W1.heap.size → W'.heap[j]? = W.heap[j]? := fun j hj => hfr.block j (by omega) (by unfold Own1; omega)
    exact ⟨(same _ (by omega)).trans hJ.L, (same _ (by omega)).trans hJ.K, (same _ (by omega)).trans hJ.c3, (same _ (by omega)).trans hJ.c4, (same _ (by omega)).trans hJ.c6, hfr.os.trans hJ.os, hfr.tape.trans hJ.tape, hfr.output.trans hJ.output, fun j hj => (same j (by omega)).trans (hJ.old j hj)⟩
  have hY : YieldsOk I0 W1 (W0.heap.size + 1) h s (PkAt w fn s.toNat h (W0.heap.size + 1) W0.heap.size r) 0 := by
    intro k y' B cap W hk hst hJ hB hWs hcap hcells
    obtain ⟨q1, q2, q3, q4, q5, q6⟩ := Tryz.pk_round w 0 fn s.toNat h (W0.heap.size + 1) W0.heap.size r (by omega) (by omega) (by omega) k B y'.2.1.length cap W hJ (by omega) (by omega) (by omega)
      (fun hne => by rw [hr]; simp only; rw [if_pos (by omega), if_pos (by omega)])
      (fun he => by
        have e1 : h.toNat = k := by omega
        rw [e1, hst] at hy
        have e2 := Option.some.inj hy
        subst e2
        refine ⟨List.length_pos_iff.2 hne, ?_⟩
        rw [hcells 0 x hx, hr]
        simp only
        rw [if_neg (by omega)])
    refine ⟨q1, q2, q3, q4, q5, q6.mono ?_⟩
    rintro e W' ⟨rfl, z1, z2, z3, z4⟩
    refine ⟨rfl, z1, fun j hj => ?_, z3, z4⟩
    rcases hj with hj | hj
    · exact z2 j (by omega) (by omega)
    · rw [hI0] at hj
      rcases hj with hj | rfl | rfl
      · have := hIg j hj
        exact z2 j (by omega) (by omega)
      · exact z2 _ (by omega) (by omega)
      · exact z2 _ (by omega) (by omega)
  have hcall := levels1_ok hY hC hA h04.1 hIlt hG1 hJ0 v1 v2
  refine ⟨W0.heap.size + 1, [{ target := .collected W0.heap.size, args := #[] }], W1, { target := .fn (.func 36) #[.pointer (some ⟨w.heap.size + 1 + 1 + 1 + 1, 0, none⟩), .pointer (some ⟨w.heap.size + 1 + 1 + 1, 0, none⟩)], args := #[yv (W0.heap.size + 1)] }, W1, 36,
    #[yv (W0.heap.size + 1), .pointer (some ⟨w.heap.size + 1 + 1 + 1 + 1, 0, none⟩), .pointer (some ⟨w.heap.size + 1 + 1 + 1, 0, none⟩)], W1, ?_, ?_, ?_, ?_, fun _ => h1, ?_⟩
  · rw [← hW1, hro]; exact run_enterLoop_outer _ _ _ _ _
  · simp [resolve, go_sem]
  · intro f' hf'; exact hfn f'
  · simp [invoke, go_sem]
  · have hcall2 : CallsIn F (n - 1) Tryz.prog 36 #[yv (W0.heap.size + 1), .pointer (some ⟨w.heap.size + 1 + 1 + 1 + 1, 0, none⟩), .pointer (some ⟨w.heap.size + 1 + 1 + 1, 0, none⟩)] W1 (fun e w' => (∃ v, e = .returned v) ∧ PkAt w fn s.toNat h (W0.heap.size + 1) W0.heap.size r (h.toNat + 1) w' ∧ W1.heap.size ≤ w'.heap.size) := by
      rw [show F = Fence.wide from congrFun hF ()]; exact callsIn_wide.2 hcall
    refine hcall2.mono ?_
    rintro e W2 ⟨⟨v, rfl⟩, hJf, hsz⟩
    have hend := run_endLoop (P := Tryz.prog) hJf.L (by simp [pkRec])
    obtain ⟨W3, hW3⟩ : ∃ W3, W2.putObj (W0.heap.size + 1) (.loop { pkRec fn s.toNat h w.heap.size W0.heap.size .ready none with state := .exhausted }) = W3 := ⟨_, rfl⟩
    rw [hW3] at hend
    have hoth : ∀ j, j ≠ W0.heap.size + 1 → W3.heap[j]? = W2.heap[j]? := fun j hj => by rw [← hW3]; exact World.putObj_heap_other hj
    have hsz3 : W3.heap.size = W2.heap.size := by rw [← hW3]; simp [World.putObj]
    have hos3 : W3.os = w.os ∧ W3.tape = w.tape ∧ W3.output = w.output := by rw [← hW3]; exact ⟨hJf.os, hJf.tape, hJf.output⟩
    have hold3 : ∀ j, j < w.heap.size → W3.heap[j]? = w.heap[j]? := fun j hj => (hoth j (by omega)).trans (hJf.old j hj)
    have hK3 : W3.heap[W0.heap.size]? = some (.deferred (some [])) := (hoth _ (by omega)).trans hJf.K
    have e4 : W3.heap[w.heap.size + 1]? = some (.cells #[.int .i64 0, .int .u64 0] 28) := (hoth _ (by omega)).trans hJf.c4
    have e6 : W3.heap[w.heap.size + 1 + 1]? = some (.cells #[.int .i64 h, .int .u64 x.toNat] 28) := by
      rw [hoth _ (by omega), hJf.c6, hr]
      simp only
      rw [if_neg (by omega)]
    have k60 : W3.cell? ⟨w.heap.size + 1 + 1, 0, none⟩ = some (.int .i64 h) := by unfold World.cell?; rw [e6]; rfl
    have k61 : W3.cell? ⟨w.heap.size + 1 + 1, 1, none⟩ = some (.int .u64 x.toNat) := by unfold World.cell?; rw [e6]; rfl
    have k40 : W3.cell? ⟨w.heap.size + 1, 0, none⟩ = some (.int .i64 0) := by unfold World.cell?; rw [e4]; rfl
    have k41 : W3.cell? ⟨w.heap.size + 1, 1, none⟩ = some (.int .u64 0) := by unfold World.cell?; rw [e4]; rfl
    have f40 : W3.frozen? ⟨w.heap.size + 1, 0, none⟩ = false := by unfold World.frozen?; rw [e4]; rfl
    have f41 : W3.frozen? ⟨w.heap.size + 1, 1, none⟩ = false := by unfold World.frozen?; rw [e4]; rfl
    clear hW3
    refine ⟨none, W3, hend, ?_⟩
    gi_wp2
    obtain ⟨W4, hW4⟩ : ∃ W4, ((W3.setCell ⟨w.heap.size + 1, 0, none⟩ (Value.int IntKind.i64 h)).setCell ⟨w.heap.size + 1, 1, none⟩ (Value.int IntKind.u64 x.toNat)) = W4 := ⟨_, rfl⟩
    rw [hW4, ← hs0]
    have hoth4 : ∀ j, j ≠ w.heap.size + 1 → W4.heap[j]? = W3.heap[j]? := fun j hj => by
      rw [← hW4]; exact (Below.heap_setCell _ _ _ j hj).trans (Below.heap_setCell _ _ _ j hj)
    have e44 : W4.heap[w.heap.size + 1]? = some (.cells #[.int .i64 h, .int .u64 x.toNat] 28) := by
      rw [← hW4]
      unfold World.setCell
      simp only [Array.getElem?_modify, if_true, e4, Option.map_some]
      rfl
    have hos4 : W4.os = w.os ∧ W4.tape = w.tape ∧ W4.output = w.output := by rw [← hW4]; exact hos3
    have hsz4 : W4.heap.size = W3.heap.size := by rw [← hW4]; simp [World.setCell]
    have hK4 : W4.heap[W0.heap.size]? = some (.deferred (some [])) := (hoth4 _ (by omega)).trans hK3
    clear hW4
    refine ⟨by simp, .inl ⟨_, _, rfl, run_takeDeferred hK4, ?_⟩⟩
    obtain ⟨W5, hW5⟩ : ∃ W5, W4.putObj W0.heap.size (.deferred none) = W5 := ⟨_, rfl⟩
    rw [hW5]
    have hoth5 : ∀ j, j ≠ W0.heap.size → W5.heap[j]? = W4.heap[j]? := fun j hj => by rw [← hW5]; exact World.putObj_heap_other hj
    have e45 : W5.heap[w.heap.size + 1]? = some (.cells #[.int .i64 h, .int .u64 x.toNat] 28) := (hoth5 _ (by omega)).trans e44
    have k0 : W5.cell? ⟨w.heap.size + 1, 0, none⟩ = some (.int .i64 h) := by unfold World.cell?; rw [e45]; rfl
    have k1 : W5.cell? ⟨w.heap.size + 1, 1, none⟩ = some (.int .u64 x.toNat) := by unfold World.cell?; rw [e45]; rfl
    have hos5 : W5.os = w.os ∧ W5.tape = w.tape ∧ W5.output = w.output := by rw [← hW5]; exact hos4
    have hsz5 : W5.heap.size = W4.heap.size := by rw [← hW5]; simp [World.putObj]
    clear hW5
    refine ⟨.tuple #[.agg #[.int .i64 h, .int .u64 x.toNat], .int .i64 0], ?_, rfl, hos5.1, hos5.2.1, hos5.2.2, by omega, fun j hj => (hoth5 j (by omega)).trans ((hoth4 j (by omega)).trans (hold3 j hj))⟩
    have hrs : Tryz.f13.results = #[.cell 4 28, .tmp 5] := by kernel_rfl
    have hlc : (loadCells ⟨w.heap.size + 1, 0, none⟩ 2).run Tryz.prog W5 = .ok #[.int .i64 h, .int .u64 x.toNat] W5 := by
      refine run_loadCells_list (P := Tryz.prog) W5 ⟨w.heap.size + 1, 0, none⟩ [.int .i64 h, .int .u64 x.toNat] fun j z hj => ?_
      rcases j with _ | _ | j
      · simp only [List.getElem?_cons_zero, Option.some.injEq] at hj; subst hj; simpa [Go.Abs.addr_add] using k0
      · simp only [List.getElem?_cons_succ, List.getElem?_cons_zero, Option.some.injEq] at hj; subst hj; simpa [Go.Abs.addr_add] using k1
      · simp at hj
    simp [results, hrs, loadVar, asAddr, Tryz.isAgg28, Tryz.sizeOf28, hlc]
set_option maxHeartbeats 4000000 in
theorem Tryz.public_bad (s : BitVec 64) (h : Int) (w : World) (hh : (decide (h < 0) || decide (h > 4)) = true) :
    CallsIn Fence.wide 3 Tryz.prog 13 #[.int .u64 s.toNat, .int .i64 h] w fun e w' => e = .returned (.tuple #[.agg #[.int .i64 0, .int .u64 0], .int .i64 9]) ∧ Below w.heap.size w w' := by
  obtain ⟨F, hF⟩ : ∃ F, (fun _ : Unit => F) = fun _ => Fence.wide := ⟨_, rfl⟩
  obtain ⟨n, hn⟩ : ∃ n : Nat, (fun _ : Unit => n) = fun _ => 3 := ⟨_, rfl⟩
  have hF1 : F = Fence.wide := congrFun hF ()
  have hn1 : n = 3 := congrFun hn ()
  rw [← hF1, ← hn1]
  have hfn : ∀ f, F.fn f := fun f => by rw [hF1]; trivial
  have hro : F.round = none := by rw [hF1]; rfl
  have h1 : 1 ≤ n := by omega
  clear hF1 hn1
  refine callsIn_of_wp_marks Tryz.func13 rfl (hfn 13) ?_ hro
  simp only [Tryz.ntmps13, List.size_toArray, List.length_cons, List.length_nil, Nat.reduceAdd, Nat.reduceSub, Array.replicate_succ, Array.replicate_zero, List.push_toArray, List.append_toArray, List.nil_append, List.cons_append]
  have h20 := hfn 20
  have h21 := hfn 21
  gi_wp2
  refine (Tryz.high_in F (n - 1) h20 hro h _).mono ?_
  rintro e w' ⟨rfl, rfl⟩
  rw [hh]
  gi_wp2
  have e0 : (((w.alloc (Obj.cells #[Value.int IntKind.i64 h] 3)).alloc (Obj.cells #[Value.int IntKind.i64 0, Value.int IntKind.u64 0] 28))).heap[w.heap.size + 1]? = some (.cells #[.int .i64 0, .int .u64 0] 28) := by
    have := World.alloc_heap_new (w.alloc (Obj.cells #[Value.int IntKind.i64 h] 3)) (Obj.cells #[Value.int IntKind.i64 0, Value.int IntKind.u64 0] 28)
    rwa [World.size_alloc] at this
  obtain ⟨W5, hW5⟩ : ∃ W5, ((w.alloc (Obj.cells #[Value.int IntKind.i64 h] 3)).alloc (Obj.cells #[Value.int IntKind.i64 0, Value.int IntKind.u64 0] 28)) = W5 := ⟨_, rfl⟩
  rw [hW5] at e0 ⊢
  have hb : Below w.heap.size w W5 := by
    rw [← hW5]
    exact ((Below.refl _ w).alloc (Nat.le_refl _) _).alloc (by simp) _
  clear hW5
  have k0 : W5.cell? ⟨w.heap.size + 1, 0, none⟩ = some (.int .i64 0) := by unfold World.cell?; rw [e0]; rfl
  have k1 : W5.cell? ⟨w.heap.size + 1, 1, none⟩ = some (.int .u64 0) := by unfold World.cell?; rw [e0]; rfl
  refine ⟨.tuple #[.agg #[.int .i64 0, .int .u64 0], .int .i64 9], ?_, rfl, hb⟩
  have hrs : Tryz.f13.results = #[.cell 4 28, .tmp 5] := by kernel_rfl
  have hlc : (loadCells ⟨w.heap.size + 1, 0, none⟩ 2).run Tryz.prog W5 = .ok #[.int .i64 0, .int .u64 0] W5 := by
    refine run_loadCells_list (P := Tryz.prog) W5 ⟨w.heap.size + 1, 0, none⟩ [.int .i64 0, .int .u64 0] fun j z hj => ?_
    rcases j with _ | _ | j
    · simp only [List.getElem?_cons_zero, Option.some.injEq] at hj; subst hj; simpa [Go.Abs.addr_add] using k0
    · simp only [List.getElem?_cons_succ, List.getElem?_cons_zero, Option.some.injEq] at hj; subst hj; simpa [Go.Abs.addr_add] using k1
    · simp at hj
  simp [results, hrs, loadVar, asAddr, Tryz.isAgg28, Tryz.sizeOf28, hlc]
end Go.Proofs
namespace Go.Proofs.YteenkpgjcbhonaaGreatDoor
open Go Go.Abs
def treekey_Public (s : BitVec 64) (h : Int) : Option (Unit × (ApiPublicKey × Int × Unit)) :=
  bif (decide (h < 0) || decide (h > 4)) then some ((), ⟨0, 0#64⟩, 9, ()) else (stAt h s h.toNat).bind fun y => (y.2.1[0]?).bind fun x => some ((), ⟨h, x⟩, 0, ())
def S_treekey_Public : FSpec T := ⟨[.f (.v .u64), .f (.v (.int .i64))], [.v (.agg 5), .v (.int .i64)], fun x => treekey_Public x.1 x.2.1⟩
theorem sound_belowI {T : Nat → Type} {C : Cd T} {P : Program} {G : Nat → Option (List D)} {f : FuncId} {vts : List VT} {rts : List VT} {F : tySs T (slots vts) → Option (tyO T (slots vts) × tyFs T (rts.map Fld.v))}
    (hfn : ∃ fn, P.funcs[f]? = some fn ∧ fn.body.isSome = true ∧ (fn.name == "runtime.NumGoroutine") = false)
    (h : ∀ (I own : Nat → Prop) (w : World) (args : List Value) (x : tySs T (slots vts)) (r : tyO T (slots vts) × tyFs T (rts.map Fld.v)), (∀ k, I k → k < w.heap.size) → Glob G I w → SVSs C I w (slots vts) x args own → F x = some r →
      ∃ vs, (∀ (I' : Nat → Prop) (w' : World), SVVs C I' w' (rts.map Fld.v) r.2 vs none') ∧ Calls P f args.toArray w fun e w' => e = .returned (resV vs) ∧ RowKit.Below w.heap.size w w') :
    SoundT P C G f ⟨slots vts, rts.map Fld.v, F⟩ := by
  refine ⟨hfn, fun I own w args x r hI hown hG hv hF => ?_⟩
  obtain ⟨vs, h1, h2⟩ := h I own w args x r hI hG hv hF
  refine h2.mono ?_
  rintro e w' ⟨rfl, hb⟩
  refine ⟨vs, I, none', none', rfl, ⟨hb.os, hb.tape, hb.output, hb.size, fun b hb1 _ => hb.block b hb1⟩, ?_, fun _ h => h, fun _ h => .inl h, fun k hk => Nat.lt_of_lt_of_le (hI k hk) hb.size, fun k hk => by rcases hk with hk | hk <;> exact hk.elim, fun k hk => hk.elim, outs_none vts _ _ _ hv, h1 I w'⟩
  intro b
  by_cases hlt : b < w.heap.size
  · unfold rowSize; rw [hb.block b hlt]; exact Nat.le_refl _
  · unfold rowSize
    have : w.heap[b]? = none := by simp; omega
    simp [this]
theorem pk_value (k : ApiPublicKey) (e : Int) (I' : Nat → Prop) (w' : World) : SVVs cd I' w' [.v (.agg 5), .v (.int .i64)] (k, e, ()) [.agg #[.int .i64 k.height, .int .u64 k.root.toNat], .int .i64 e] none' := by
  refine ⟨_, _, none', none', rfl, (show V I' w' (.agg [.int .i64 k.height, .int .u64 k.root.toNat]) Abs.free _ from ?_), ⟨_, _, none', none', rfl, (show V I' w' (.int .i64 e) Abs.free _ by simp [V]), rfl, fun _ h => h, fun _ h => h, fun _ h => h.elim⟩, fun _ h => h, fun _ h => h, fun _ h => h.elim⟩
  simp only [V]
  refine ⟨[.int .i64 k.height, .int .u64 k.root.toNat], rfl, fun x hx => ?_, _, _, rfl, ?_, _, _, rfl, ?_, ?_⟩
  · simp only [List.mem_cons, List.not_mem_nil, or_false] at hx
    rcases hx with rfl | rfl <;> rfl
  · simp only [V]
  · simp only [V]
  · simp only [VL]
theorem treekey_Public_at (s : BitVec 64) (h : Int) (r) (I : Nat → Prop) (w : World) (hI : ∀ k, I k → k < w.heap.size) (hG : Glob gdn I w) (hF : treekey_Public s h = some r) :
    ∃ vs, (∀ (I' : Nat → Prop) (w' : World), SVVs cd I' w' [.v (.agg 5), .v (.int .i64)] r.2 vs none') ∧ Calls Tryz.prog 13 #[.int .u64 s.toNat, .int .i64 h] w fun e w' => e = .returned (resV vs) ∧ RowKit.Below w.heap.size w w' := by
  unfold treekey_Public at hF
  cases hh : (decide (h < 0) || decide (h > 4))
  · rw [hh] at hF
    simp only [cond_false] at hF
    rw [Option.bind_eq_some_iff] at hF
    obtain ⟨y, hy, hF⟩ := hF
    rw [Option.bind_eq_some_iff] at hF
    obtain ⟨z, hz, hF⟩ := hF
    have hr := Option.some.inj hF
    subst hr
    exact ⟨_, fun I' w' => pk_value ⟨h, z⟩ 0 I' w', callsIn_wide.1 (Tryz.public_good s h w I hI hG hh hy hz)⟩
  · rw [hh] at hF
    have hr := Option.some.inj hF
    subst hr
    exact ⟨_, fun I' w' => pk_value ⟨0, 0#64⟩ 9 I' w', callsIn_wide.1 (Tryz.public_bad s h w hh)⟩
theorem treekey_Public_ok : SoundT Tryz.prog cd gdn 13 S_treekey_Public := by
  refine sound_belowI (vts := [.u64, .int .i64]) (rts := [.agg 5, .int .i64]) ⟨_, Tryz.func13, by kernel_rfl, by kernel_rfl⟩ fun I own w args x r hI hG hv hF => ?_
  obtain ⟨v, vr, _, _, rfl, h1, ⟨v2, vr2, _, _, rfl, h2, rfl, _⟩, _⟩ := hv
  change V I w (.int .u64 (BitVec.toNat (w := 64) x.1)) Abs.free v at h1
  change V I w (.int .i64 x.2.1) Abs.free v2 at h2
  simp only [V] at h1 h2
  subst h1; subst h2
  exact treekey_Public_at x.1 x.2.1 r I w hI hG hF
end Go.Proofs.YteenkpgjcbhonaaGreatDoor

/- The public key of a seed: the levels of the tree as lists. -/
import Derived.Test.YteenkpgjcbhonaaGreatDoorRgE
import Derived.Test.YteenkpgjcbhonaaGreatDoorLib8
namespace Go.Proofs.YteenkpgjcbhonaaGreatDoor
set_option linter.unusedVariables false
set_option linter.unusedSimpArgs false
set_option maxRecDepth 100000
open Go Go.Abs
theorem bifs {α : Type} {c : Bool} {a : Option α} {x : α} (h : (bif c then a else none) = some x) : a = some x := by
  cases c
  · cases h
  · exact h
theorem L0bG_inl (kP : BitVec 64 → Int → Option (Unit × (BitVec 64 × Unit))) (kQ : Int → BitVec 64 → BitVec 64 → Option (Unit × (BitVec 64 × Unit))) {y0 : Int} {y1 : BitVec 64} {y2 : List (BitVec 64)} {y3 y4 : Int} {t} (ht : treekey_levels_L0bG kP kQ y0 y1 y2 y3 y4 = some (.inl t)) : t.1 = y0 ∧ t.2.2.1.length = y2.length := by
  unfold treekey_levels_L0bG at ht
  cases hc : decide (y4 < y3) <;> simp only [hc, cond_true, cond_false] at ht
  · cases ht
  · rw [Option.bind_eq_some_iff] at ht
    obtain ⟨r3, _, ht⟩ := ht
    replace ht := bifs ht
    rw [Option.bind_eq_some_iff] at ht
    obtain ⟨x4, _, ht⟩ := ht
    simp only [Option.some.injEq, Sum.inl.injEq] at ht
    subst ht
    exact ⟨rfl, by simp⟩
theorem L0bG_inr (kP : BitVec 64 → Int → Option (Unit × (BitVec 64 × Unit))) (kQ : Int → BitVec 64 → BitVec 64 → Option (Unit × (BitVec 64 × Unit))) {y0 : Int} {y1 : BitVec 64} {y2 : List (BitVec 64)} {y3 y4 : Int} {t} (ht : treekey_levels_L0bG kP kQ y0 y1 y2 y3 y4 = some (.inr t)) : t.1 = y0 ∧ t.2.1.length = y2.length := by
  unfold treekey_levels_L0bG at ht
  cases hc : decide (y4 < y3) <;> simp only [hc, cond_true, cond_false] at ht
  · simp only [Option.some.injEq, Sum.inr.injEq] at ht
    subst ht
    exact ⟨rfl, rfl⟩
  · rw [Option.bind_eq_some_iff] at ht
    obtain ⟨r3, _, ht⟩ := ht
    replace ht := bifs ht
    rw [Option.bind_eq_some_iff] at ht
    obtain ⟨x4, _, ht⟩ := ht
    cases ht
theorem L4bG_inl (kP : BitVec 64 → Int → Option (Unit × (BitVec 64 × Unit))) (kQ : Int → BitVec 64 → BitVec 64 → Option (Unit × (BitVec 64 × Unit))) {y0 : Int} {y1 : List (BitVec 64)} {y2 : Int} {y3 : List (BitVec 64)} {y4 y5 : Int} {t} (ht : treekey_levels_L4bG kP kQ y0 y1 y2 y3 y4 y5 = some (.inl t)) : t.1 = y0 ∧ t.2.2.1 = y2 ∧ t.2.2.2.1.length = y3.length := by
  unfold treekey_levels_L4bG at ht
  cases hc : decide (y5 < y4) <;> simp only [hc, cond_true, cond_false] at ht
  · cases ht
  · replace ht := bifs ht
    rw [Option.bind_eq_some_iff] at ht
    obtain ⟨x8, _, ht⟩ := ht
    replace ht := bifs ht
    rw [Option.bind_eq_some_iff] at ht
    obtain ⟨x10, _, ht⟩ := ht
    rw [Option.bind_eq_some_iff] at ht
    obtain ⟨r11, _, ht⟩ := ht
    replace ht := bifs ht
    rw [Option.bind_eq_some_iff] at ht
    obtain ⟨x12, _, ht⟩ := ht
    simp only [Option.some.injEq, Sum.inl.injEq] at ht
    subst ht
    exact ⟨rfl, rfl, by simp⟩
theorem L4bG_inr (kP : BitVec 64 → Int → Option (Unit × (BitVec 64 × Unit))) (kQ : Int → BitVec 64 → BitVec 64 → Option (Unit × (BitVec 64 × Unit))) {y0 : Int} {y1 : List (BitVec 64)} {y2 : Int} {y3 : List (BitVec 64)} {y4 y5 : Int} {t} (ht : treekey_levels_L4bG kP kQ y0 y1 y2 y3 y4 y5 = some (.inr t)) : t.1 = y0 ∧ t.2.1 = y2 ∧ t.2.2.1.length = y3.length := by
  unfold treekey_levels_L4bG at ht
  cases hc : decide (y5 < y4) <;> simp only [hc, cond_true, cond_false] at ht
  · simp only [Option.some.injEq, Sum.inr.injEq] at ht
    subst ht
    exact ⟨rfl, rfl, rfl⟩
  · replace ht := bifs ht
    rw [Option.bind_eq_some_iff] at ht
    obtain ⟨x8, _, ht⟩ := ht
    replace ht := bifs ht
    rw [Option.bind_eq_some_iff] at ht
    obtain ⟨x10, _, ht⟩ := ht
    rw [Option.bind_eq_some_iff] at ht
    obtain ⟨r11, _, ht⟩ := ht
    replace ht := bifs ht
    rw [Option.bind_eq_some_iff] at ht
    obtain ⟨x12, _, ht⟩ := ht
    cases ht
theorem L0b_G (y0 : Int) (y1 : BitVec 64) (y2 : List (BitVec 64)) (y3 y4 : Int) : treekey_levels_L0b y0 y1 y2 y3 y4 = treekey_levels_L0bG onetime_Public treekey_parent y0 y1 y2 y3 y4 := rfl
theorem L4b_G (y0 : Int) (y1 : List (BitVec 64)) (y2 : Int) (y3 : List (BitVec 64)) (y4 y5 : Int) : treekey_levels_L4b y0 y1 y2 y3 y4 y5 = treekey_levels_L4bG onetime_Public treekey_parent y0 y1 y2 y3 y4 y5 := rfl
theorem L0_inv {h : Int} {s : BitVec 64} {l : List (BitVec 64)} {n : Int} {z : Int × List (BitVec 64) × Unit} (e : treekey_levels_L0 (h, s, l, n, (0 : Int), ()) = some z) : z.1 = h ∧ z.2.1.length = l.length := by
  unfold treekey_levels_L0 at e
  refine iter_inv (fun y => y.1 = h ∧ y.2.2.1.length = l.length) (fun b => b.1 = h ∧ b.2.1.length = l.length) (fun y t hs ht => ?_) (fun y b hs ht => ?_) rounds _ z ⟨rfl, rfl⟩ e
  · obtain ⟨h1, h2⟩ := L0bG_inl onetime_Public treekey_parent ((L0b_G _ _ _ _ _).symm.trans ht)
    exact ⟨h1.trans hs.1, h2.trans hs.2⟩
  · obtain ⟨h1, h2⟩ := L0bG_inr onetime_Public treekey_parent ((L0b_G _ _ _ _ _).symm.trans ht)
    exact ⟨h1.trans hs.1, h2.trans hs.2⟩
theorem L4_inv {h k n : Int} {l v : List (BitVec 64)} {z : Int × Int × List (BitVec 64) × Unit} (e : treekey_levels_L4 (h, l, k, v, n, (0 : Int), ()) = some z) : z.1 = h ∧ z.2.1 = k ∧ z.2.2.1.length = v.length := by
  unfold treekey_levels_L4 at e
  refine iter_inv (fun y => y.1 = h ∧ y.2.2.1 = k ∧ y.2.2.2.1.length = v.length) (fun b => b.1 = h ∧ b.2.1 = k ∧ b.2.2.1.length = v.length) (fun y t hs ht => ?_) (fun y b hs ht => ?_) rounds _ z ⟨rfl, rfl, rfl⟩ e
  · obtain ⟨h1, h2, h3⟩ := L4bG_inl onetime_Public treekey_parent ((L4b_G _ _ _ _ _ _).symm.trans ht)
    exact ⟨h1.trans hs.1, h2.trans hs.2.1, h3.trans hs.2.2⟩
  · obtain ⟨h1, h2, h3⟩ := L4bG_inr onetime_Public treekey_parent ((L4b_G _ _ _ _ _ _).symm.trans ht)
    exact ⟨h1.trans hs.1, h2.trans hs.2.1, h3.trans hs.2.2⟩
theorem lv3_inv {h k : Int} {l : List (BitVec 64)} {y : Int × List (BitVec 64) × Int × Unit} (e : lv3 h l k = some y) : y.1 = h ∧ y.2.2.1 = IntKind.wrap .i64 (k + 1) ∧ (y.2.1 ≠ [] → l ≠ []) := by
  unfold lv3 at e
  generalize hq : IntKind.wrap .i64 (Int.tdiv ((l).length : Int) (2 : Int)) = q at e
  cases hc : (decide ((0 : Int) ≤ q) && (decide (q ≤ q) && decide ((8 : Int) * q ≤ 281474976710656 ∧ q ≤ 9223372036854775807))) <;> simp only [hc, cond_true, cond_false] at e
  · cases e
  rw [Option.bind_eq_some_iff] at e
  obtain ⟨z, hz, e⟩ := e
  obtain ⟨z1, z2, z3⟩ := L4_inv hz
  simp only [Option.some.injEq] at e
  subst e
  refine ⟨z1, by rw [← z2], fun hne hl => hne ?_⟩
  subst hl
  have : q = 0 := by rw [← hq]; rfl
  subst this
  apply List.length_eq_zero_iff.1
  rw [z3]; rfl
theorem stAt_ok {h : Int} {s : BitVec 64} : ∀ (k : Nat) (y : Int × List (BitVec 64) × Int × Unit), (k : Int) ≤ 4 → stAt h s k = some y → y.1 = h ∧ y.2.2.1 = k
  | 0, y, _, e => by
    unfold stAt at e
    rw [Option.bind_eq_some_iff] at e
    obtain ⟨x, hx, e⟩ := e
    rw [Option.bind_eq_some_iff] at e
    obtain ⟨z, hz, e⟩ := e
    simp only [Option.some.injEq] at e
    subst e
    have h1 : x.1 = h := by
      unfold lv0 at hx
      cases hc : decide ((0 : Int) ≤ h) <;> simp only [hc, cond_true, cond_false] at hx
      · cases hx
      cases hd : (decide ((0 : Int) ≤ IntKind.wrap .i64 ((1 : Int) * 2 ^ (min (h).toNat (IntKind.bits .i64)))) && (decide (IntKind.wrap .i64 ((1 : Int) * 2 ^ (min (h).toNat (IntKind.bits .i64))) ≤ IntKind.wrap .i64 ((1 : Int) * 2 ^ (min (h).toNat (IntKind.bits .i64)))) && decide ((8 : Int) * IntKind.wrap .i64 ((1 : Int) * 2 ^ (min (h).toNat (IntKind.bits .i64))) ≤ 281474976710656 ∧ IntKind.wrap .i64 ((1 : Int) * 2 ^ (min (h).toNat (IntKind.bits .i64))) ≤ 9223372036854775807))) <;> simp only [hd, cond_true, cond_false] at hx
      · cases hx
      simp only [Option.some.injEq] at hx
      rw [← hx]
    unfold lv1 at hz
    rw [Option.bind_eq_some_iff] at hz
    obtain ⟨u, hu, hz⟩ := hz
    simp only [Option.some.injEq] at hz
    subst hz
    exact ⟨(L0_inv hu).1.trans h1, rfl⟩
  | k + 1, y, hk, e => by
    unfold stAt at e
    rw [Option.bind_eq_some_iff] at e
    obtain ⟨x, hx, e⟩ := e
    obtain ⟨i1, i2⟩ := stAt_ok k x (by omega) hx
    obtain ⟨e1, e2, _⟩ := lv3_inv e
    refine ⟨e1.trans i1, ?_⟩
    rw [e2, i2, wrap_id (by omega) (by omega)]; rfl
theorem stAt_down {h : Int} {s : BitVec 64} : ∀ (m k : Nat) (y : Int × List (BitVec 64) × Int × Unit), stAt h s (k + m) = some y → y.2.1 ≠ [] → ∃ x, stAt h s k = some x ∧ x.2.1 ≠ []
  | 0, k, y, e, hn => ⟨y, e, hn⟩
  | m + 1, k, y, e, hn => by
    have e2 : stAt h s ((k + m) + 1) = some y := e
    unfold stAt at e2
    rw [Option.bind_eq_some_iff] at e2
    obtain ⟨x, hx, e2⟩ := e2
    exact stAt_down m k x hx ((lv3_inv e2).2.2 hn)
theorem allSt_of {h : Int} {s : BitVec 64} {y : Int × List (BitVec 64) × Int × Unit} (h0 : 0 ≤ h) (h4 : h ≤ 4) (e : stAt h s h.toNat = some y) (hn : y.2.1 ≠ []) : AllSt h s := by
  intro k hk
  obtain ⟨x, hx, hne⟩ := stAt_down (h.toNat - k) k y (by rw [show k + (h.toNat - k) = h.toNat by omega]; exact e) hn
  obtain ⟨a, b⟩ := stAt_ok k x (by omega) hx
  exact ⟨x, hx, a, b, hne⟩
end Go.Proofs.YteenkpgjcbhonaaGreatDoor

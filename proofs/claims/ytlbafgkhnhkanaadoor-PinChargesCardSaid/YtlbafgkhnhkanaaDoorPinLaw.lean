/- The laws PinCharges and PinBound, plainly. -/
import Derived.Test.YtlbafgkhnhkanaaDoorFns
import Derived.Test.YtlbafgkhnhkanaaDoorTyZc
set_option linter.unusedVariables false
set_option maxRecDepth 100000
namespace Go.Proofs.YtlbafgkhnhkanaaDoor
open Go Go.Abs
theorem valid1 : Lib.validD [49, 50, 51, 52] = true := by kernel_rfl
theorem awake_ok : passkeylaw11_awake = some ((), true, ()) := by kernel_rfl

theorem charge_same (p : ApiPin) : passkeyref10_Charge p = pin_Charge p := rfl
theorem settle_same (p : ApiPin) (r : Bool) : passkeyref10_Settle p r = pin_Settle p r := by
  unfold passkeyref10_Settle pin_Settle
  cases r
  · simp only [cond_false]
    by_cases h : p.wrong < 3
    · have h2 : ¬ (2 : Int) < p.wrong := by omega
      simp only [h, h2, decide_true, decide_false, cond_true, cond_false, Option.bind_some]
    · have h2 : (2 : Int) < p.wrong := by omega
      simp only [h, h2, decide_true, decide_false, cond_true, cond_false, Option.bind_some]
      rfl
  · rfl
theorem charge_some (p : ApiPin) : ∃ q e, pin_Charge p = some ((), q, e, ()) := by
  unfold pin_Charge
  cases p.set <;> by_cases h : p.retries < 1 <;> by_cases h2 : 3 ≤ p.wrong <;> simp [h, h2]
theorem settle_some (p : ApiPin) (r : Bool) : ∃ q e, pin_Settle p r = some ((), q, e, ()) := by
  unfold pin_Settle
  cases r
  · dsimp only [cond_false]
    generalize (bif decide ((2 : Int) < p.wrong) then (2 : Int) else p.wrong) = v
    by_cases h : p.retries < 1 <;> by_cases h2 : 3 ≤ IntKind.wrap .i64 (v + 1) <;> simp [h, h2]
  · exact ⟨_, _, rfl⟩

theorem charges_L0 (r : Bool) (p q : ApiPin) : Ok (passkeylaw11_PinCharges_L0 (r, (p, ()), (q, ()), 0, ())) fun z => z = .inr ((p, ()), ()) := by
  unfold passkeylaw11_PinCharges_L0
  refine Ok.iter (fun s => s.2.1.1 = p ∧ 0 ≤ s.2.2.2.1 ∧ s.2.2.2.1 ≤ 2) (fun s => (2 - s.2.2.2.1).toNat) ⟨rfl, by simp, by simp⟩ (by rw [rounds_eq]; simp) ?_
  rintro ⟨r, ⟨p', u⟩, ⟨q, u2⟩, i, u3⟩ ⟨h1, h2, h3⟩
  dsimp only at *
  subst h1
  simp only [passkeylaw11_PinCharges_L0b]
  refine Ok.cond ?_ ?_ <;> intro hc
  · simp only [decide_eq_true_eq] at hc
    simp only [h2, hc, decide_true, Bool.and_self, cond_true]
    refine Ok.get (by simp; omega) ?_
    intro x
    obtain ⟨a, e, ha⟩ := charge_some x
    obtain ⟨b, f, hb⟩ := settle_some x r
    simp only [charge_same, settle_same, ha, hb, Option.bind_some, BEq.rfl, decide_true, Bool.and_self, Bool.not_true, cond_false]
    rw [wrap_id (by omega) (by omega)]
    exact Ok.some ⟨⟨rfl, by dsimp only; omega, by dsimp only; omega⟩, by dsimp only; omega⟩
  · exact Ok.some rfl

theorem PinCharges_plain (a0 : ApiPin) (a1 : Bool) (a2 : BitVec 16) (hd : PinCharges_dom a0 a1 a2) : Ok (passkeylaw11_PinCharges a0 a1 a2) fun r => r.2.1 = true := by
  unfold passkeylaw11_PinCharges
  refine Ok.bind ((charges_L0 a1 a0 _).mono ?_)
  rintro z rfl
  simp only [Sum.elim_inr, pin_New, passkeyref10_NewPin, Option.bind_some, BEq.rfl, decide_true, Bool.and_self, cond_true, awake_ok]
  exact Ok.some rfl

theorem charge_spec (p : ApiPin) (hs : p.set = true) (h0 : 0 ≤ p.retries) (h1 : p.retries ≤ 8) : (∃ q e, pin_Charge p = some ((), q, e, ()) ∧ e ≠ 0) ∨ (1 ≤ p.retries ∧ pin_Charge p = some ((), ⟨p.set, p.check, p.retries - 1, p.wrong⟩, 0, ())) := by
  unfold pin_Charge
  rw [hs]
  by_cases h : p.retries < 1
  · left; simp [h]; exact ⟨_, _, ⟨rfl, rfl⟩, by decide⟩
  · by_cases h2 : 3 ≤ p.wrong
    · left; simp [h, h2]; exact ⟨_, _, ⟨rfl, rfl⟩, by decide⟩
    · right
      refine ⟨by omega, ?_⟩
      simp only [h, h2, Bool.not_true, decide_false, cond_false]
      rw [wrap_id (by omega) (by omega)]
theorem settle_false (p : ApiPin) : ∃ w e, pin_Settle p false = some ((), ⟨p.set, p.check, p.retries, w⟩, e, ()) ∧ e ≠ 0 := by
  unfold pin_Settle
  dsimp only [cond_false]
  generalize (bif decide ((2 : Int) < p.wrong) then (2 : Int) else p.wrong) = v
  by_cases h : p.retries < 1 <;> by_cases h2 : 3 ≤ IntKind.wrap .i64 (v + 1) <;> simp [h, h2] <;> exact ⟨_, _, ⟨rfl, rfl⟩, by decide⟩

theorem bound_L0 (l : List UInt8) : Ok (passkeylaw11_PinBound_L0 (l, ((⟨true, 1#64, 8, 0⟩ : ApiPin), ()), 0, 0, ())) fun z => ∃ p made, z = .inr ((p, ()), made, ()) ∧ p.retries = 8 - made ∧ 0 ≤ made ∧ made ≤ 8 := by
  unfold passkeylaw11_PinBound_L0
  refine Ok.iter (fun s => s.1 = l ∧ s.2.1.1.set = true ∧ s.2.1.1.retries = 8 - s.2.2.1 ∧ 0 ≤ s.2.2.1 ∧ s.2.2.1 ≤ 8 ∧ 0 ≤ s.2.2.2.1 ∧ s.2.2.2.1 ≤ 100) (fun s => (100 - s.2.2.2.1).toNat) ⟨rfl, rfl, by simp, by simp, by simp, by simp, by simp⟩ (by rw [rounds_eq]; simp) ?_
  rintro ⟨y0, ⟨p, u⟩, made, i, u3⟩ ⟨h1, h2, h3, h4, h5, h6, h7⟩
  dsimp only at *
  subst h1
  simp only [passkeylaw11_PinBound_L0b]
  refine Ok.cond ?_ ?_ <;> intro hc
  · simp only [decide_eq_true_eq] at hc
    refine Ok.cond ?_ ?_ <;> intro hc2
    · simp only [decide_eq_true_eq] at hc2
      rw [getI_some h6 hc, wrap_id (n := i + 1) (by omega) (by omega)]
      simp only [Option.bind_some]
      refine Ok.cond ?_ ?_ <;> intro hc3
      · exact Ok.some ⟨⟨rfl, h2, h3, h4, h5, by dsimp only; omega, by dsimp only; omega⟩, by dsimp only; omega⟩
      · rcases charge_spec p h2 (by omega) (by omega) with ⟨q, e, hq, he⟩ | ⟨hr, hq⟩
        · rw [hq]
          simp only [Option.bind_some, he, decide_false, Bool.not_false, cond_true]
          exact Ok.some ⟨⟨rfl, h2, h3, h4, h5, by dsimp only; omega, by dsimp only; omega⟩, by dsimp only; omega⟩
        · rw [hq]
          simp only [Option.bind_some, decide_true, Bool.not_true, cond_false]
          rw [wrap_id (n := made + 1) (by omega) (by omega)]
          have hm : ¬ (8 : Int) < made + 1 := by omega
          simp only [hm, decide_false, cond_false]
          refine Ok.cond ?_ ?_ <;> intro hc4
          · exact Ok.some ⟨⟨rfl, h2, by dsimp only; omega, by dsimp only; omega, by dsimp only; omega, by dsimp only; omega, by dsimp only; omega⟩, by dsimp only; omega⟩
          · refine Ok.cond ?_ ?_ <;> intro hc5
            · simp only [pin_Settle, cond_true, Option.bind_some, decide_true, Bool.not_true, cond_false]
              exact Ok.some ⟨⟨rfl, h2, by dsimp only; omega, by dsimp only; omega, by dsimp only; omega, by dsimp only; omega, by dsimp only; omega⟩, by dsimp only; omega⟩
            · obtain ⟨w, e, hs, he⟩ := settle_false ⟨p.set, p.check, p.retries - 1, p.wrong⟩
              rw [hs]
              simp only [Option.bind_some, he, decide_false, cond_false]
              exact Ok.some ⟨⟨rfl, h2, by dsimp only; omega, by dsimp only; omega, by dsimp only; omega, by dsimp only; omega, by dsimp only; omega⟩, by dsimp only; omega⟩
    · exact Ok.some ⟨p, made, rfl, h3, h4, h5⟩
  · exact Ok.some ⟨p, made, rfl, h3, h4, h5⟩

theorem PinBound_plain (a0 : List UInt8) (hd : PinBound_dom a0) : Ok (passkeylaw11_PinBound a0) fun r => r.2.1 = true := by
  unfold passkeylaw11_PinBound
  simp only [pin_New, Option.bind_some]
  refine Ok.bind ((bound_L0 a0).mono ?_)
  rintro z ⟨p, made, rfl, h1, h2, h3⟩
  simp only [Sum.elim_inr]
  rw [wrap_id (by omega) (by omega)]
  simp only [h1, decide_true, cond_true, awake_ok, Option.bind_some]
  exact Ok.some rfl
end Go.Proofs.YtlbafgkhnhkanaaDoor

/- The laws HostNames, HostRules and HostPublic, plainly. No condition. -/
import Derived.Test.YtbdpgpnfpjodfaaDoorHostD
set_option linter.unusedVariables false
set_option linter.unusedSimpArgs false
set_option maxRecDepth 100000
namespace Go.Proofs.YtbdpgpnfpjodfaaDoor
open Go Go.Abs

theorem awakeB {β : Type} (K : Bool → Option β) : (passkeylaw23_awake.bind fun r => K r.2.1) = K true := by rw [awake_ok]; rfl
theorem awakeOk : Ok (passkeylaw23_awake.bind fun r => some ((), (r.2.1, ()))) fun r => r.2.1 = true := by
  rw [awake_ok]; exact ⟨_, rfl, rfl⟩

/-! ### what is drawn -/
theorem Mod_ok (v : Int) (m : Nat) (h0 : 0 < m) (h1 : m < 1000000) : ∃ k : Nat, k < m ∧ passkeycast_Mod v (m : Int) = some ((), (k : Int), ()) := by
  unfold passkeycast_Mod
  have e : (BitVec.ofInt 64 (m : Int)).toNat = m := by
    rw [BitVec.ofInt_natCast, BitVec.toNat_ofNat, Nat.mod_eq_of_lt (by omega)]
  have hz : decide (BitVec.ofInt 64 (m : Int) = 0) = false := by
    rw [decide_eq_false_iff_not]
    intro h
    rw [h] at e
    simp at e
    omega
  rw [hz]
  have hlt : (BitVec.ofInt 64 v % BitVec.ofInt 64 (m : Int)).toNat < m := by
    rw [BitVec.toNat_umod, e]
    exact Nat.mod_lt _ h0
  exact ⟨_, hlt, by dsimp only; rw [wrap_id (by omega) (by omega)]; rfl⟩
theorem Host_ok (n : Int) : ∃ h, passkeycast_Host n = some ((), h, ()) ∧ h.length ≤ 30 := by
  obtain ⟨k, hk, e⟩ := Mod_ok n 28 (by omega) (by omega)
  unfold passkeycast_Host
  rw [show ((28 : Nat) : Int) = 28 from rfl] at e
  rw [e]
  simp only [bindS]
  rw [show (decide ((0 : Int) ≤ (k : Int)) && decide ((k : Int) < 28)) = true by simp; omega]
  simp only [cond_true, Int.toNat_natCast]
  generalize hL : ([[101, 120, 97, 109, 112, 108, 101, 46, 99, 111, 109], [108, 111, 103, 105, 110, 46, 101, 120, 97, 109, 112, 108, 101, 46, 99, 111, 109], [97, 46, 98, 46, 99, 111, 46, 117, 107], [98, 46, 99, 111, 46, 117, 107], [99, 111, 46, 117, 107], [117, 107], [120, 46, 121, 46, 99, 107], [119, 119, 119, 46, 99, 107], [99, 107], [108, 111, 99, 97, 108, 104, 111, 115, 116], [101, 118, 105, 108, 46, 116, 101, 115, 116], [101, 120, 97, 109, 112, 108, 101, 46, 99, 111, 109, 46, 101, 118, 105, 108, 46, 116, 101, 115, 116], [97, 46, 108, 111, 103, 105, 110, 46, 101, 120, 97, 109, 112, 108, 101, 46, 99, 111, 109], [120, 97, 109, 112, 108, 101, 46, 99, 111, 109], [121, 46, 99, 107], [122, 46, 120, 46, 121, 46, 99, 107], [103, 105, 116, 104, 117, 98, 46, 105, 111], [109, 101, 46, 103, 105, 116, 104, 117, 98, 46, 105, 111], [121, 111, 117, 46, 103, 105, 116, 104, 117, 98, 46, 105, 111], [105, 111], [49, 46, 50, 46, 51, 46, 52], [], [97, 46, 46, 98], [69, 120, 97, 109, 112, 108, 101, 46, 99, 111, 109], [45, 97, 46, 99, 111, 109], [97, 46, 99, 111, 109, 46], [97, 45, 98, 46, 99, 49], [99, 49]] : List (List UInt8)) = L
  have hl : L.length = 28 := by rw [← hL]; rfl
  have hb : ∀ x ∈ L, x.length ≤ 30 := by rw [← hL]; decide
  rw [List.getElem?_eq_getElem (by omega)]
  exact ⟨_, rfl, hb _ (List.getElem_mem _)⟩
def all8 : List ApiSuffix := [⟨[[99, 111, 109]], false, false⟩, ⟨[[117, 107]], false, false⟩, ⟨[[99, 111], [117, 107]], false, false⟩, ⟨[[99, 107]], true, false⟩, ⟨[[119, 119, 119], [99, 107]], false, true⟩, ⟨[[103, 105, 116, 104, 117, 98], [105, 111]], false, false⟩, ⟨[[116, 101, 115, 116]], false, false⟩, ⟨[[98], [99, 111], [117, 107]], false, true⟩]
def incl (n : Int) (i : Int) : Bool := decide (IntKind.wrap .i64 ((BitVec.ofInt (IntKind.bits .i64) (Int.fdiv n (2 ^ (min (BitVec.ofInt 64 i).toNat (IntKind.bits .i64)))) &&& BitVec.ofInt (IntKind.bits .i64) (1 : Int)).toNat : Int) = 0)
theorem small32 {n : Nat} (h : n < 10000000) : small n 32 = true := by
  unfold small
  simp only [decide_eq_true_eq]
  omega
theorem Rules_ok (n : Int) : ∃ r, passkeycast_Rules n = some ((), r, ()) ∧ r.length ≤ 8 ∧ ∀ s ∈ r, ∃ j : Nat, all8[j]? = some s ∧ incl n j = true := by
  have : Ok (passkeycast_Rules_L0 (n, all8, [], 0, ())) fun z => z.1.length ≤ 8 ∧ ∀ s ∈ z.1, ∃ j : Nat, all8[j]? = some s ∧ incl n j = true := by
    unfold passkeycast_Rules_L0
    refine Ok.iter (fun q => q.1 = n ∧ q.2.1 = all8 ∧ 0 ≤ q.2.2.2.1 ∧ q.2.2.2.1 ≤ 8 ∧ (q.2.2.1.length : Int) ≤ q.2.2.2.1 ∧ ∀ s ∈ q.2.2.1, ∃ j : Nat, all8[j]? = some s ∧ incl n j = true) (fun q => 8 - q.2.2.2.1.toNat) ⟨rfl, rfl, by simp, by simp, by simp, by simp⟩ (by rw [rounds_eq]; dsimp only; omega) ?_
    rintro ⟨y0, y1, y2, i, u⟩ ⟨h1, h2, h3, h4, h5, h6⟩
    dsimp only at *
    subst h1; subst h2
    have hl8 : all8.length = 8 := rfl
    simp only [passkeycast_Rules_L0b]
    by_cases hi : i < 8
    · rw [hl8, show decide (i < ((8 : Nat) : Int)) = true by simp; omega, wrap_id (n := i + 1) (by omega) (by omega)]
      simp only [cond_true]
      refine Ok.cond (fun hc => ?_) (fun hc => ?_)
      · rw [show (decide ((0 : Int) ≤ i) && true) = true by simp; omega]
        have hlt : i.toNat < all8.length := by omega
        rw [List.getElem?_eq_getElem hlt]
        simp only [cond_true, bindS]
        rw [small32 (by simp; omega)]
        refine Ok.some ?_
        dsimp only
        refine ⟨⟨rfl, rfl, by omega, by omega, by simp; omega, ?_⟩, by omega⟩
        intro s hs
        rcases List.mem_append.1 hs with hs | hs
        · exact h6 s hs
        · simp only [List.mem_singleton] at hs
          refine ⟨i.toNat, by rw [hs, List.getElem?_eq_getElem hlt], ?_⟩
          rw [show ((i.toNat : Nat) : Int) = i by omega]
          exact hc
      · refine Ok.some ?_
        dsimp only
        exact ⟨⟨rfl, rfl, by omega, by omega, by omega, h6⟩, by omega⟩
    · rw [hl8, show decide (i < ((8 : Nat) : Int)) = false by simp; omega]
      refine Ok.some ?_
      dsimp only
      exact ⟨by omega, h6⟩
  obtain ⟨⟨r, u⟩, h1, h2, h3⟩ := this
  refine ⟨r, ?_, h2, h3⟩
  show (passkeycast_Rules_L0 (n, all8, [], 0, ())).bind _ = _
  rw [h1]
  rfl
theorem all8_len {s : ApiSuffix} {j : Nat} (h : all8[j]? = some s) : s.labels.length ≤ 3 := by
  have : ∀ x ∈ all8, x.labels.length ≤ 3 := by decide
  exact this s (List.mem_of_getElem? h)

/-! ### HostNames -/
theorem same_ok (a b : List UInt8) : passkeylaw23_same a b = some ((), true, ()) := by
  unfold passkeylaw23_same
  have h1 := (labs_len a).1
  simp only [Validate_ok, rValidate_ok, Labels_ok, rLabels_ok, bindS, Within_ok, rWithin_ok, decide_true, cond_true]
  rw [SameTexts_ok _ _ (by omega)]
  simp
theorem HostNames_plain (a0 a1 : List UInt8) (a2 a3 : Int) (hd : HostNames_dom a0 a1 a2 a3) : Ok (passkeylaw23_HostNames a0 a1 a2 a3) fun r => r.2.1 = true := by
  unfold passkeylaw23_HostNames
  refine Ok.cond (fun _ => awakeOk) (fun h0 => ?_)
  refine Ok.cond (fun _ => awakeOk) (fun h1 => ?_)
  have h0 : a0.length ≤ 300 := by simp at h0; omega
  obtain ⟨x, hx, hxl⟩ := Host_ok a2
  rw [hx]
  simp only [bindS]
  refine Ok.bind ?_
  unfold passkeylaw23_HostNames_L0
  obtain ⟨k, hk, ek⟩ := Mod_ok a3 70 (by omega) (by omega)
  rw [show ((70 : Nat) : Int) = 70 from rfl] at ek
  refine Ok.mono (Q := fun z => z.1 = a0 ∧ z.2.1 = a1 ∧ z.2.2.1 = a3 ∧ z.2.2.2.1 = x ∧ z.2.2.2.2.1.length ≤ 100) (Ok.iter (fun q => q.1 = a0 ∧ q.2.1 = a1 ∧ q.2.2.1 = a3 ∧ q.2.2.2.1 = x ∧ 0 ≤ q.2.2.2.2.2.1 ∧ q.2.2.2.2.2.1 ≤ 70 ∧ (q.2.2.2.2.1.length : Int) ≤ q.2.2.2.2.2.1 + 1) (fun q => 70 - q.2.2.2.2.2.1.toNat) ⟨rfl, rfl, rfl, rfl, by simp, by simp, by simp⟩ (by rw [rounds_eq]; dsimp only; omega) ?_) ?_
  · rintro ⟨y0, y1, y2, y3, y4, i, u⟩ ⟨e1, e2, e3, e4, e5, e6, e7⟩
    dsimp only at *
    subst e1; subst e2; subst e3; subst e4
    simp only [passkeylaw23_HostNames_L0b, ek, bindS]
    refine Ok.cond (fun hc => ?_) (fun hc => ?_)
    · simp only [decide_eq_true_eq] at hc
      rw [ble_of (by simp; omega), wrap_id (n := i + 1) (by omega) (by omega)]
      refine Ok.some ?_
      dsimp only
      exact ⟨⟨rfl, rfl, rfl, rfl, by omega, by omega, by simp; omega⟩, by omega⟩
    · refine Ok.some ?_
      dsimp only
      exact ⟨rfl, rfl, rfl, rfl, by omega⟩
  · rintro ⟨z0, z1, z2, z3, z4, u⟩ ⟨e1, e2, e3, e4, e5⟩
    dsimp only at *
    subst e1; subst e2; subst e3; subst e4
    obtain ⟨y, hy, hyl⟩ := Host_ok z2
    simp only [hy, same_ok, bindS, cond_true]
    rw [ble_of (show z3.length + ([46] : List UInt8).length ≤ 9223372036854775807 by simp; omega), ble_of (show (z3 ++ ([46] : List UInt8)).length + y.length ≤ 9223372036854775807 by simp; omega), ble_of (show z4.length + ([46] : List UInt8).length ≤ 9223372036854775807 by simp; omega), ble_of (show (z4 ++ ([46] : List UInt8)).length + z4.length ≤ 9223372036854775807 by simp; omega), ble_of (show z0.length + ([46, 99, 111, 109] : List UInt8).length ≤ 9223372036854775807 by simp; omega)]
    simp only [cond_true]
    exact awakeOk

/-! ### HostRules -/
theorem parse_len (t : List UInt8) : (parse t).1.labels.length ≤ 101 := by
  have h : ∀ r w e, (ruleOf (labs r) w e).1.labels.length ≤ 101 := fun r w e => by
    unfold ruleOf
    have := (labs_len r).1
    cases (decide (labs r = []) || (e && decide ((labs r).length < 2)))
    · exact this
    · simp
  unfold parse
  split <;> exact h _ _ _
theorem HostRules_L2_ok (s : ApiSuffix) (y : List (List UInt8) × Bool × Bool × Unit) (t1 t2 : List UInt8) : passkeylaw23_HostRules_L2 ((s, ()), y, [t1, t2], 2, 0, ()) = some (.inr ((s, ()), y, ())) := by
  unfold passkeylaw23_HostRules_L2
  have step : ∀ (i : Int) (t : List UInt8), 0 ≤ i → i < 2 → ([t1, t2] : List (List UInt8))[i.toNat]? = some t → passkeylaw23_HostRules_L2b (s, ()) y [t1, t2] 2 i = some (.inl ((s, ()), y, [t1, t2], 2, i + 1, ())) := fun i t h1 h2 ht => by
    simp only [passkeylaw23_HostRules_L2b]
    have hl := parse_len t
    rw [show decide (i < 2) = true by simpa using h2, show (decide ((0 : Int) ≤ i) && decide (i < (([t1, t2] : List (List UInt8)).length : Int))) = true by simp; omega, ht, wrap_id (n := i + 1) (by omega) (by omega)]
    simp only [cond_true, bindS, ParseRule_ok, rParseRule_ok]
    rw [SameRule_ok _ _ (by omega)]
    simp
  rw [rounds_eq]
  rw [show (1180591620717411303424 : Nat) = 1180591620717411303421 + 1 + 1 + 1 from rfl]
  rw [iter_succ, step 0 t1 (by omega) (by omega) rfl, bindS, Sum.elim_inl, iter_succ]
  rw [show ((0 : Int) + 1) = 1 from rfl, step 1 t2 (by omega) (by omega) rfl, bindS, Sum.elim_inl, iter_succ]
  rfl
theorem HostRules_plain (a0 : List UInt8) (a1 : ApiSuffix) (a2 a3 : Int) (hd : HostRules_dom a0 a1 a2 a3) : Ok (passkeylaw23_HostRules a0 a1 a2 a3) fun r => r.2.1 = true := by
  unfold passkeylaw23_HostRules
  refine Ok.cond (fun _ => awakeOk) (fun h0 => ?_)
  refine Ok.cond (fun _ => awakeOk) (fun h1 => ?_)
  have h0 : a0.length ≤ 200 := by simp at h0; omega
  have h1 : a1.labels.length ≤ 20 := by simp at h1; omega
  refine Ok.bind ?_
  unfold passkeylaw23_HostRules_L0
  refine Ok.mono (Q := fun z => z = .inl (true, ()) ∨ z = .inr (a0, a2, a3, (a1, ()), ())) (Ok.iter (fun q => q.1 = a0 ∧ q.2.1 = a2 ∧ q.2.2.1 = a3 ∧ q.2.2.2.1 = (a1, ()) ∧ 0 ≤ q.2.2.2.2.1 ∧ q.2.2.2.2.1 ≤ a1.labels.length) (fun q => a1.labels.length - q.2.2.2.2.1.toNat) ⟨rfl, rfl, rfl, rfl, by simp, by simp⟩ (by rw [rounds_eq]; dsimp only; omega) ?_) ?_
  · rintro ⟨y0, y1, y2, ⟨y3, u3⟩, i, u⟩ ⟨e1, e2, e3, e4, e5, e6⟩
    dsimp only at *
    simp only [Prod.mk.injEq, and_true] at e4
    subst e1; subst e2; subst e3; subst e4
    simp only [passkeylaw23_HostRules_L0b]
    refine Ok.cond (fun hc => ?_) (fun hc => ?_)
    · simp only [decide_eq_true_eq] at hc
      rw [getI_some e5 hc]
      simp only [bindS]
      refine Ok.cond (fun _ => ?_) (fun _ => ?_)
      · rw [awake_ok]
        simp only [bindS]
        refine Ok.some ?_
        dsimp only
        exact .inl rfl
      · rw [wrap_id (n := i + 1) (by omega) (by omega)]
        refine Ok.some ?_
        dsimp only
        exact ⟨⟨rfl, rfl, rfl, rfl, by omega, by omega⟩, by omega⟩
    · refine Ok.some ?_
      dsimp only
      exact .inr rfl
  · rintro z (rfl | rfl)
    · exact Ok.some rfl
    · simp only [Sum.elim_inr]
      obtain ⟨x, hx, hxl⟩ := Host_ok a2
      have hll := (labs_len x).1
      obtain ⟨k, hk, ek⟩ := Mod_ok a3 5 (by omega) (by omega)
      rw [show ((5 : Nat) : Int) = 5 from rfl] at ek
      simp only [hx, ek, bindS, rLabels_ok]
      rw [show (decide ((0 : Int) ≤ (k : Int)) && decide ((k : Int) < 5)) = true by simp; omega]
      simp only [cond_true, Int.toNat_natCast]
      generalize hL : ([[], [42, 46], [33], [42], [33, 42, 46]] : List (List UInt8)) = L
      have hl : L.length = 5 := by rw [← hL]; rfl
      have hb : ∀ x ∈ L, x.length ≤ 30 := by rw [← hL]; decide
      have hm := hb L[k] (List.getElem_mem (by omega))
      rw [List.getElem?_eq_getElem (by omega)]
      simp only [bindS]
      rw [ble_of (show L[k].length + x.length ≤ 9223372036854775807 by omega), HostRules_L2_ok]
      simp only [cond_true, bindS, Sum.elim_inr, FormatRule_ok]
      rw [rFormatRule_ok a1 (by omega), rFormatRule_ok _ (by dsimp only; omega)]
      simp only [bindS, decide_true, cond_true]
      exact awakeOk

/-! ### HostPublic -/
theorem HostPublic_L6_ok (l r m : List ApiSuffix) (x : List UInt8) (Y : List (List UInt8)) (n k : Int) (hl : ∀ s ∈ l, s.labels.length ≤ 1000000) (hr : ∀ s ∈ r, s.labels.length ≤ 1000000) (hm : ∀ s ∈ m, s.labels.length ≤ 1000000) :
    passkeylaw23_HostPublic_L6 (l, r, m, x, Y, n, k, [l, r, m], 3, 0, ()) = some (.inr (l, r, m, Y, n, k, ())) := by
  unfold passkeylaw23_HostPublic_L6
  have step : ∀ (i : Int) (t : List ApiSuffix), 0 ≤ i → i < 3 → ([l, r, m] : List (List ApiSuffix))[i.toNat]? = some t → (∀ s ∈ t, s.labels.length ≤ 1000000) → passkeylaw23_HostPublic_L6b l r m x Y n k [l, r, m] 3 i = some (.inl (l, r, m, x, Y, n, k, [l, r, m], 3, i + 1, ())) := fun i t h1 h2 ht hb => by
    simp only [passkeylaw23_HostPublic_L6b]
    rw [show decide (i < 3) = true by simpa using h2, show (decide ((0 : Int) ≤ i) && decide (i < (([l, r, m] : List (List ApiSuffix)).length : Int))) = true by simp; omega, ht, wrap_id (n := i + 1) (by omega) (by omega)]
    simp only [cond_true, bindS, Registrable_ok, Public_ok]
    rw [rRegistrable_ok t x hb, rPublic_ok t x hb]
    simp
  rw [rounds_eq]
  rw [show (1180591620717411303424 : Nat) = 1180591620717411303420 + 1 + 1 + 1 + 1 from rfl]
  rw [iter_succ, step 0 l (by omega) (by omega) rfl hl, bindS, Sum.elim_inl, iter_succ]
  rw [show ((0 : Int) + 1) = 1 from rfl, step 1 r (by omega) (by omega) rfl hr, bindS, Sum.elim_inl, iter_succ]
  rw [show ((1 : Int) + 1) = 2 from rfl, step 2 m (by omega) (by omega) rfl hm, bindS, Sum.elim_inl, iter_succ]
  rfl
theorem HostPublic_L4_ok (l r m : List ApiSuffix) (x1 x2 x3 : List UInt8) (hl : ∀ s ∈ l, s.labels.length ≤ 1000000) (hr : ∀ s ∈ r, s.labels.length ≤ 1000000) (hm : ∀ s ∈ m, s.labels.length ≤ 1000000) :
    passkeylaw23_HostPublic_L4 (l, r, m, [x1, x2, x3], 3, 0, ()) = some (.inr ()) := by
  unfold passkeylaw23_HostPublic_L4
  have step : ∀ (i : Int) (t : List UInt8), 0 ≤ i → i < 3 → ([x1, x2, x3] : List (List UInt8))[i.toNat]? = some t → passkeylaw23_HostPublic_L4b l r m [x1, x2, x3] 3 i = some (.inl (l, r, m, [x1, x2, x3], 3, i + 1, ())) := fun i t h1 h2 ht => by
    simp only [passkeylaw23_HostPublic_L4b]
    rw [show decide (i < 3) = true by simpa using h2, show (decide ((0 : Int) ≤ i) && decide (i < (([x1, x2, x3] : List (List UInt8)).length : Int))) = true by simp; omega, ht]
    simp only [cond_true, bindS]
    rw [HostPublic_L6_ok l r m t _ _ _ hl hr hm]
    simp only [bindS, Sum.elim_inr]
    rw [wrap_id (n := i + 1) (by omega) (by omega)]
  rw [rounds_eq]
  rw [show (1180591620717411303424 : Nat) = 1180591620717411303420 + 1 + 1 + 1 + 1 from rfl]
  rw [iter_succ, step 0 x1 (by omega) (by omega) rfl, bindS, Sum.elim_inl, iter_succ]
  rw [show ((0 : Int) + 1) = 1 from rfl, step 1 x2 (by omega) (by omega) rfl, bindS, Sum.elim_inl, iter_succ]
  rw [show ((1 : Int) + 1) = 2 from rfl, step 2 x3 (by omega) (by omega) rfl, bindS, Sum.elim_inl, iter_succ]
  rfl
theorem HostPublic_L2_ok (l : List ApiSuffix) (x : List UInt8) (n m i : Int) (h0 : 0 ≤ i) (hi : i < l.length) : Ok (passkeylaw23_HostPublic_L2 (l, x, n, m, i, 0, 0, ())) fun z => z = .inl (true, ()) ∨ (z = .inr (l, x, n, m, i, ()) ∧ (ati l i).labels.length ≤ 500) := by
  unfold passkeylaw23_HostPublic_L2
  refine Ok.iter (fun q => q.1 = l ∧ q.2.1 = x ∧ q.2.2.1 = n ∧ q.2.2.2.1 = m ∧ q.2.2.2.2.1 = i ∧ 0 ≤ q.2.2.2.2.2.2.1 ∧ q.2.2.2.2.2.2.1 ≤ (ati l i).labels.length ∧ q.2.2.2.2.2.2.1 ≤ q.2.2.2.2.2.1 ∧ q.2.2.2.2.2.1 ≤ 500) (fun q => (501 - q.2.2.2.2.2.1).toNat) ⟨rfl, rfl, rfl, rfl, rfl, by simp, by simp, by simp, by simp⟩ (by rw [rounds_eq]; dsimp only; omega) ?_
  rintro ⟨y0, y1, y2, y3, y4, y5, y6, u⟩ ⟨e1, e2, e3, e4, e5, e6, e7, e8, e9⟩
  dsimp only at *
  subst e1; subst e2; subst e3; subst e4; subst e5
  simp only [passkeylaw23_HostPublic_L2b]
  rw [getI_some h0 hi]
  simp only [bindS]
  refine Ok.cond (fun hc => ?_) (fun hc => ?_)
  · simp only [decide_eq_true_eq] at hc
    rw [getI_some e6 hc]
    simp only [bindS]
    obtain ⟨v, hv, hv0, hv1⟩ : ∃ v : Int, (bif decide ((500 : Int) < ((ati (ati y0 y4).labels y6).length : Int)) then (500 : Int) else ((ati (ati y0 y4).labels y6).length : Int)) = v ∧ 0 ≤ v ∧ v ≤ 500 := by
      refine ⟨_, rfl, ?_, ?_⟩
      · by_cases h : (500 : Int) < ((ati (ati y0 y4).labels y6).length : Int) <;> simp [h]
      · by_cases h : (500 : Int) < ((ati (ati y0 y4).labels y6).length : Int)
        · simp [h]
        · simp only [h, decide_false, cond_false]; omega
    rw [hv, wrap_id (n := v + 1) (by omega) (by omega), wrap_id (n := y5 + (v + 1)) (by omega) (by omega), wrap_id (n := y6 + 1) (by omega) (by omega)]
    refine Ok.cond (fun _ => ?_) (fun hq => ?_)
    · rw [awake_ok]
      simp only [bindS]
      refine Ok.some ?_
      dsimp only
      exact .inl rfl
    · simp only [decide_eq_false_iff_not] at hq
      refine Ok.some ?_
      dsimp only
      exact ⟨⟨rfl, rfl, rfl, rfl, rfl, by omega, by omega, by omega, by omega⟩, by omega⟩
  · simp only [decide_eq_false_iff_not] at hc
    refine Ok.some ?_
    dsimp only
    exact .inr ⟨rfl, by omega⟩
theorem HostPublic_plain (a0 : List ApiSuffix) (a1 : List UInt8) (a2 a3 : Int) (hd : HostPublic_dom a0 a1 a2 a3) : Ok (passkeylaw23_HostPublic a0 a1 a2 a3) fun r => r.2.1 = true := by
  unfold passkeylaw23_HostPublic
  refine Ok.cond (fun _ => awakeOk) (fun h0 => ?_)
  refine Ok.cond (fun _ => awakeOk) (fun h1 => ?_)
  have h0 : a0.length ≤ 80 := by simp at h0; omega
  have h1 : a1.length ≤ 200 := by simp at h1; omega
  refine Ok.bind ?_
  unfold passkeylaw23_HostPublic_L0
  refine Ok.mono (Q := fun z => z = .inl (true, ()) ∨ (z = .inr (a0, a1, a2, a3, ()) ∧ ∀ s ∈ a0, s.labels.length ≤ 1000000)) (Ok.iter (fun q => q.1 = a0 ∧ q.2.1 = a1 ∧ q.2.2.1 = a2 ∧ q.2.2.2.1 = a3 ∧ 0 ≤ q.2.2.2.2.1 ∧ q.2.2.2.2.1 ≤ a0.length ∧ ∀ j : Int, 0 ≤ j → j < q.2.2.2.2.1 → (ati a0 j).labels.length ≤ 500) (fun q => a0.length - q.2.2.2.2.1.toNat) ⟨rfl, rfl, rfl, rfl, by simp, by simp, by intro j h1 h2; dsimp only at h2; omega⟩ (by rw [rounds_eq]; dsimp only; omega) ?_) ?_
  · rintro ⟨y0, y1, y2, y3, i, u⟩ ⟨e1, e2, e3, e4, e5, e6, e7⟩
    dsimp only at *
    subst e1; subst e2; subst e3; subst e4
    simp only [passkeylaw23_HostPublic_L0b]
    refine Ok.cond (fun hc => ?_) (fun hc => ?_)
    · simp only [decide_eq_true_eq] at hc
      refine Ok.bind (Ok.mono (HostPublic_L2_ok y0 y1 y2 y3 i e5 hc) ?_)
      rintro z (rfl | ⟨rfl, hz⟩)
      · simp only [Sum.elim_inl]
        refine Ok.some ?_
        dsimp only
        exact .inl rfl
      · simp only [Sum.elim_inr]
        rw [wrap_id (n := i + 1) (by omega) (by omega)]
        refine Ok.some ?_
        dsimp only
        refine ⟨⟨rfl, rfl, rfl, rfl, by omega, by omega, fun j h1 h2 => ?_⟩, by omega⟩
        by_cases hj : j = i
        · subst hj; exact hz
        · exact e7 j h1 (by omega)
    · simp only [decide_eq_false_iff_not] at hc
      refine Ok.some ?_
      dsimp only
      refine .inr ⟨rfl, fun s hs => ?_⟩
      obtain ⟨j, hj, rfl⟩ := List.mem_iff_getElem.1 hs
      have := e7 j (by omega) (by omega)
      simp only [ati, Int.toNat_natCast, List.getD_eq_getElem?_getD, List.getElem?_eq_getElem hj, Option.getD_some] at this
      omega
  · rintro z (rfl | ⟨rfl, hz⟩)
    · exact Ok.some rfl
    · simp only [Sum.elim_inr]
      obtain ⟨r, hr, hrl, hrr⟩ := Rules_ok a2
      obtain ⟨x, hx, hxl⟩ := Host_ok a3
      have hr2 : ∀ s ∈ r, s.labels.length ≤ 1000000 := fun s hs => by
        obtain ⟨j, hj, _⟩ := hrr s hs
        have := all8_len hj; omega
      simp only [hr, hx, bindS]
      rw [small32 (by omega), small32 (by omega), ble_of (show ([113, 46] : List UInt8).length + x.length ≤ 9223372036854775807 by simp; omega)]
      simp only [cond_true]
      rw [HostPublic_L4_ok _ _ _ _ _ _ hz hr2 (fun s hs => by rcases List.mem_append.1 hs with h | h; exact hz s h; exact hr2 s h)]
      simp only [bindS, Sum.elim_inr]
      exact awakeOk
end Go.Proofs.YtbdpgpnfpjodfaaDoor

/- What the functions on rules compute: texts of rules, matching, public suffixes, registrable domains. No condition. -/
import Derived.Test.YtbdpgpnfpjodfaaDoorHostB
import Derived.Lib.Join
set_option linter.unusedVariables false
set_option linter.unusedSimpArgs false
set_option maxRecDepth 100000
namespace Go.Proofs.YtbdpgpnfpjodfaaDoor
open Go Go.Abs

/-! ### joining -/
def joinD (l : List (List UInt8)) : List UInt8 := Lib.join l [46]
theorem joinD_nil : joinD [] = [] := rfl
theorem joinD_one (x : List UInt8) : joinD [x] = x := Lib.join_one x [46]
theorem joinD_cons (x y : List UInt8) (r : List (List UInt8)) : joinD (x :: y :: r) = x ++ 46 :: joinD (y :: r) := by
  unfold joinD
  rw [Lib.join_cons, Lib.join_cons]
  simp [Lib.joinTail, List.append_assoc]
theorem joinD_le (B : Nat) : ∀ l : List (List UInt8), (∀ x ∈ l, x.length ≤ B) → (joinD l).length ≤ l.length * (B + 1)
  | [], _ => by simp [joinD_nil]
  | [x], h => by
    rw [joinD_one]
    have := h x (by simp)
    simp; omega
  | x :: y :: r, h => by
    rw [joinD_cons]
    have h1 := h x (by simp)
    have h2 := joinD_le B (y :: r) (fun z hz => h z (by simp only [List.mem_cons] at hz ⊢; exact .inr hz))
    simp only [List.length_append, List.length_cons] at h2 ⊢
    rw [Nat.add_mul (r.length + 1) 1]
    omega
theorem joinD_ge : ∀ l : List (List UInt8), (∀ x ∈ l, 1 ≤ x.length) → 2 * l.length ≤ (joinD l).length + 1
  | [], _ => by simp [joinD_nil]
  | [x], h => by
    rw [joinD_one]
    have := h x (by simp)
    simp; omega
  | x :: y :: r, h => by
    rw [joinD_cons]
    have h1 := h x (by simp)
    have h2 := joinD_ge (y :: r) (fun z hz => h z (by simp only [List.mem_cons] at hz ⊢; exact .inr hz))
    simp only [List.length_append, List.length_cons] at h2 ⊢
    omega
theorem joinD_snoc : ∀ (l : List (List UInt8)) (x : List UInt8), l ≠ [] → joinD (l ++ [x]) = joinD l ++ ([46] ++ x)
  | [], _, h => absurd rfl h
  | [y], x, _ => by rw [List.singleton_append, joinD_cons, joinD_one, joinD_one]; rfl
  | y :: z :: r, x, _ => by
    rw [List.cons_append, List.cons_append, joinD_cons, ← List.cons_append, joinD_snoc (z :: r) x (by simp), joinD_cons]
    simp
theorem Join_ok (l : List (List UInt8)) (h1 : l.length ≤ 1000) (h2 : ∀ x ∈ l, x.length ≤ 1000) : strings_Join l [46] = some ((), joinD l, ()) := by
  unfold strings_Join
  have := joinD_le 1000 l h2
  have h3 : (Lib.join l [46]).length ≤ 140737488355328 := by
    show (joinD l).length ≤ _
    have : l.length * 1001 ≤ 1000 * 1001 := Nat.mul_le_mul_right _ h1
    omega
  have h4 : l.length ≤ 140737488355328 := by omega
  simp only [h3, h4, decide_true, Bool.and_self, cond_true]
  rfl
theorem ble_of {a b : Nat} (h : a ≤ b) : Nat.ble a b = true := Eq.mpr Nat.ble_eq h
theorem rjoin_ok (l : List (List UInt8)) (h1 : l.length ≤ 1000000) (h2 : ∀ x ∈ l, x.length ≤ 1000) : passkeyref23_join l = some ((), joinD l, ()) := by
  unfold passkeyref23_join
  have : Ok (passkeyref23_join_L0 (l, [], 0, ())) fun z => z.1 = joinD l := by
    unfold passkeyref23_join_L0
    refine Ok.iter (fun q => q.1 = l ∧ 0 ≤ q.2.2.1 ∧ q.2.2.1 ≤ (l.length : Int) ∧ q.2.1 = joinD (l.take q.2.2.1.toNat)) (fun q => l.length - q.2.2.1.toNat) ⟨rfl, by simp, by simp, by simp [joinD_nil]⟩ (by rw [rounds_eq]; dsimp only; omega) ?_
    rintro ⟨y0, y1, i, u⟩ ⟨e1, e2, e3, e4⟩
    dsimp only at *
    subst e1; subst e4
    simp only [passkeyref23_join_L0b]
    by_cases hi : i < (y0.length : Int)
    · have hlt : i.toNat < y0.length := by omega
      rw [getI_some e2 hi, wrap_id (n := i + 1) (by omega) (by omega)]
      simp only [hi, decide_true, cond_true, bindS]
      have hx : ati y0 i = y0[i.toNat] := by simp [ati, hlt]
      have hxl := h2 _ (List.getElem_mem hlt)
      rw [← hx] at hxl
      have hjl : (joinD (y0.take i.toNat)).length ≤ 1000000 * 1001 := by
        have q1 := joinD_le 1000 (y0.take i.toNat) (fun x hx => h2 x (List.mem_of_mem_take hx))
        have q2 : (y0.take i.toNat).length * (1000 + 1) ≤ 1000000 * 1001 := Nat.mul_le_mul_right _ (by rw [List.length_take]; omega)
        omega
      have et : y0.take (i + 1).toNat = y0.take i.toNat ++ [ati y0 i] := by
        rw [show (i + 1).toNat = i.toNat + 1 by omega, List.take_succ_eq_append_getElem hlt, hx]
      by_cases h0 : 0 < i
      · rw [show decide (0 < i) = true by simpa using h0]
        simp only [cond_true]
        rw [ble_of (by simp; omega), ble_of (by simp; omega)]
        refine Ok.some ?_
        dsimp only
        refine ⟨⟨rfl, by omega, by omega, ?_⟩, by omega⟩
        rw [et, joinD_snoc]
        · simp
        · intro h
          have := congrArg List.length h
          rw [List.length_take, List.length_nil] at this
          omega
      · have : i = 0 := by omega
        subst this
        rw [show decide ((0 : Int) < 0) = false by simp]
        simp only [cond_false]
        rw [ble_of (by simp only [Int.toNat_zero, List.take_zero, joinD_nil, List.length_nil]; omega)]
        refine Ok.some ?_
        dsimp only
        refine ⟨⟨rfl, by omega, by omega, ?_⟩, by omega⟩
        rw [et]
        simp [joinD_nil, joinD_one]
    · simp only [hi, decide_false, cond_false]
      refine Ok.some ?_
      dsimp only
      rw [show i.toNat = y0.length by omega, List.take_length]
  obtain ⟨z, hz, hq⟩ := this
  rw [hz]
  simp only [bindS, hq]

/-! ### texts of rules -/
def fok (s : ApiSuffix) : Bool := s.labels.all lab && (decide (vali (joinD s.labels) = 0) && (!(s.wild && s.except) && !(s.except && decide (s.labels.length < 2))))
def ftext (s : ApiSuffix) : List UInt8 := (bif s.wild then [42, 46] else bif s.except then [33] else []) ++ joinD s.labels
def fmt (s : ApiSuffix) : List UInt8 × Int := bif fok s then (ftext s, 0) else ([], 4)
theorem lab_len {x : List UInt8} (h : lab x = true) : 1 ≤ x.length ∧ x.length ≤ 63 := by
  unfold lab at h
  simp only [Bool.and_eq_true, decide_eq_true_eq] at h
  exact h.1
theorem fok_len {s : ApiSuffix} (h : fok s = true) : s.labels.length ≤ 50 := by
  unfold fok at h
  simp only [Bool.and_eq_true, decide_eq_true_eq, List.all_eq_true] at h
  have h1 := vali_len h.2.1
  have h2 := joinD_ge s.labels fun x hx => (lab_len (h.1 x hx)).1
  omega
theorem FormatRule_L0_ok (s : ApiSuffix) (hl : s.labels.length ≤ 100) : host_FormatRule_L0 ((s, ()), s.labels, (s.labels.length : Int), 0, ()) = some (bif s.labels.all lab then .inr ((s, ()), ()) else .inl ([], 4, ())) := by
  unfold host_FormatRule_L0
  rw [iter_scan (fun i (_ : Unit) => ((s, ()), s.labels, (s.labels.length : Int), i, ())) s.labels (fun i x _ => bif lab x then .inl () else .inr (.inl ([], 4, ()))) (fun _ => .inr ((s, ()), ())) (fun _ _ => True) ?_ ?_ () trivial rounds (by rw [rounds_eq]; omega)]
  · rw [scan_allI (fun _ x => lab x), allI_all]
  · intro i x a hx _
    obtain ⟨hi, hx'⟩ := List.getElem?_eq_some_iff.1 hx
    refine ⟨?_, fun _ _ => trivial⟩
    simp only [host_FormatRule_L0b]
    have hg : getI s.labels (i : Int) = some x := by simp [getI, hx]
    rw [hg, show decide ((i : Int) < (s.labels.length : Int)) = true by simp; omega, wrap_id (n := (i : Int) + 1) (by omega) (by omega)]
    simp only [cond_true, bindS, validLabel_ok]
    cases lab x <;> rfl
  · intro a _
    simp only [host_FormatRule_L0b]
    simp
theorem FormatRule_ok (s : ApiSuffix) : host_FormatRule s = some ((), (fmt s).1, (fmt s).2, ()) := by
  by_cases hl : s.labels.length ≤ 100
  · unfold host_FormatRule fmt fok
    rw [show decide ((100 : Int) < (s.labels.length : Int)) = false by simp; omega, FormatRule_L0_ok s hl]
    cases ha : s.labels.all lab
    · cases hw : s.wild <;> cases he : s.except <;> by_cases h2 : s.labels.length < 2 <;> simp [h2] <;> rfl
    · have hb : ∀ x ∈ s.labels, x.length ≤ 1000 := fun x hx => by
        have := lab_len (List.all_eq_true.1 ha x hx); omega
      have e2 : decide ((s.labels.length : Int) < 2) = decide (s.labels.length < 2) := by rw [decide_eq_decide]; omega
      simp only [cond_true, cond_false, bindS, Sum.elim_inr, Bool.true_and, e2]
      rw [Join_ok _ (by omega) hb]
      simp only [bindS, Validate_ok, ftext]
      by_cases hv : vali (joinD s.labels) = 0
      · have hvl := vali_len hv
        simp only [hv, decide_true, Bool.not_true, cond_false, Bool.true_and]
        rw [ble_of (show ([42, 46] : List UInt8).length + (joinD s.labels).length ≤ 9223372036854775807 by simp; omega), ble_of (show ([33] : List UInt8).length + (joinD s.labels).length ≤ 9223372036854775807 by simp; omega)]
        generalize decide (s.labels.length < 2) = q
        cases s.wild <;> cases s.except <;> cases q <;> rfl
      · simp only [hv, decide_false, Bool.not_false, cond_true, Bool.false_and, cond_false]
        generalize decide (s.labels.length < 2) = q
        cases s.wild <;> cases s.except <;> cases q <;> rfl
  · have : fok s = false := by
      cases h : fok s
      · rfl
      · have := fok_len h; omega
    unfold host_FormatRule fmt
    rw [this, show decide ((100 : Int) < (s.labels.length : Int)) = true by simp; omega]
    rfl
theorem rFormatRule_L0_ok (s : ApiSuffix) (hl : s.labels.length ≤ 1000000) : passkeyref23_FormatRule_L0 ((s, ()), 0, ()) = some (bif s.labels.all lab then .inr ((s, ()), ()) else .inl ([], 4, ())) := by
  unfold passkeyref23_FormatRule_L0
  rw [iter_scan (fun i (_ : Unit) => ((s, ()), i, ())) s.labels (fun i x _ => bif lab x then .inl () else .inr (.inl ([], 4, ()))) (fun _ => .inr ((s, ()), ())) (fun _ _ => True) ?_ ?_ () trivial rounds (by rw [rounds_eq]; omega)]
  · rw [scan_allI (fun _ x => lab x), allI_all]
  · intro i x a hx _
    obtain ⟨hi, hx'⟩ := List.getElem?_eq_some_iff.1 hx
    refine ⟨?_, fun _ _ => trivial⟩
    simp only [passkeyref23_FormatRule_L0b]
    have hg : getI s.labels (i : Int) = some x := by simp [getI, hx]
    rw [hg, show decide ((i : Int) < (s.labels.length : Int)) = true by simp; omega, wrap_id (n := (i : Int) + 1) (by omega) (by omega)]
    simp only [cond_true, bindS, label_ok]
    cases lab x <;> rfl
  · intro a _
    simp only [passkeyref23_FormatRule_L0b]
    simp
theorem rFormatRule_ok (s : ApiSuffix) (hl : s.labels.length ≤ 1000000) : passkeyref23_FormatRule s = some ((), (fmt s).1, (fmt s).2, ()) := by
  unfold passkeyref23_FormatRule fmt fok
  rw [rFormatRule_L0_ok s hl]
  cases ha : s.labels.all lab
  · rfl
  · have hb : ∀ x ∈ s.labels, x.length ≤ 1000 := fun x hx => by
      have := lab_len (List.all_eq_true.1 ha x hx); omega
    have e2 : decide ((s.labels.length : Int) < 2) = decide (s.labels.length < 2) := by rw [decide_eq_decide]; omega
    simp only [cond_true, cond_false, bindS, Sum.elim_inr, Bool.true_and, e2]
    rw [rjoin_ok _ hl hb]
    simp only [bindS, rValidate_ok, ftext]
    by_cases hv : vali (joinD s.labels) = 0
    · have hvl := vali_len hv
      simp only [hv, decide_true, Bool.not_true, cond_false, Bool.true_and]
      rw [ble_of (show ([42, 46] : List UInt8).length + (joinD s.labels).length ≤ 9223372036854775807 by simp; omega), ble_of (show ([33] : List UInt8).length + (joinD s.labels).length ≤ 9223372036854775807 by simp; omega)]
      generalize decide (s.labels.length < 2) = q
      cases s.wild <;> cases s.except <;> cases q <;> rfl
    · simp only [hv, decide_false, Bool.not_false, cond_true, Bool.false_and, cond_false]

/-! ### endings -/
def endsL (L M : List (List UInt8)) : Bool := decide (M.length ≤ L.length) && decide (L.drop (L.length - M.length) = M)
theorem eqS_ok (a b : List (List UInt8)) (hb : b.length < 1000000) : slices_Equal_string_string a b = some ((), decide (a = b), ()) := by
  unfold slices_Equal_string_string
  by_cases h : a.length = b.length
  · rw [show (!decide ((a.length : Int) = (b.length : Int))) = false by simp; omega]
    simp only [cond_false]
    unfold slices_Equal_string_string_L0
    rw [iter_scan (fun i (_ : Unit) => (a, b, (a.length : Int), i, ())) a (fun i x _ => bif decide (b[i]? = some x) then .inl () else .inr (.inl (false, ()))) (fun _ => .inr ()) (fun _ _ => True) ?_ ?_ () trivial rounds (by rw [rounds_eq]; omega)]
    · rw [scan_allI (fun i x => decide (b[i]? = some x))]
      have e : allI (fun i x => decide (b[i]? = some x)) 0 a = decide (a = b) := by
        rw [Bool.eq_iff_iff, allI_iff, decide_eq_true_eq]
        simp only [Nat.zero_add, decide_eq_true_eq]
        constructor
        · intro hp
          apply List.ext_getElem?
          intro i
          by_cases hi : i < a.length
          · rw [hp i a[i] (by simp [hi])]; simp [hi]
          · rw [List.getElem?_eq_none (by omega), List.getElem?_eq_none (by omega)]
        · rintro rfl i x hx
          exact hx
      rw [e]
      cases decide (a = b) <;> rfl
    · intro i x _ hx _
      obtain ⟨hi, hx'⟩ := List.getElem?_eq_some_iff.1 hx
      refine ⟨?_, fun _ _ => trivial⟩
      simp only [slices_Equal_string_string_L0b]
      have hg : getI a (i : Int) = some x := by simp [getI, hx]
      have hg2 : getI b (i : Int) = some b[i] := by simp [getI]
      rw [hg, hg2, show decide ((i : Int) < (a.length : Int)) = true by simp; omega, wrap_id (n := (i : Int) + 1) (by omega) (by omega)]
      simp only [cond_true, bindS]
      have : decide (b[i]? = some x) = decide (x = b[i]) := by
        rw [decide_eq_decide, List.getElem?_eq_getElem (by omega), Option.some.injEq]
        exact eq_comm
      rw [this]
      cases decide (x = b[i]) <;> rfl
    · intro _ _
      simp only [slices_Equal_string_string_L0b]
      simp
  · rw [show (!decide ((a.length : Int) = (b.length : Int))) = true by simp; omega]
    have : ¬ a = b := fun e => h (by rw [e])
    simp [this]
theorem ends_ok (L M : List (List UInt8)) (hL : L.length < 1000000) : host_ends L M = some ((), endsL L M, ()) := by
  unfold host_ends endsL
  by_cases h : M.length ≤ L.length
  · rw [show decide ((M.length : Int) ≤ (L.length : Int)) = true by simp; omega]
    simp only [cond_true]
    rw [wrap_id (n := (L.length : Int) - (M.length : Int)) (by omega) (by omega), show (decide ((0 : Int) ≤ (L.length : Int) - (M.length : Int)) && decide ((L.length : Int) - (M.length : Int) ≤ (L.length : Int))) = true by simp; omega, show ((L.length : Int) - (M.length : Int)).toNat = L.length - M.length by omega]
    simp only [cond_true]
    rw [eqS_ok _ _ (by omega)]
    simp [h]
  · rw [show decide ((M.length : Int) ≤ (L.length : Int)) = false by simp; omega]
    simp [h]
theorem rends_ok (L M : List (List UInt8)) (hL : L.length < 1000000) : passkeyref23_ends L M = some ((), endsL L M, ()) := by
  unfold passkeyref23_ends endsL
  by_cases h : M.length ≤ L.length
  · rw [show decide ((L.length : Int) < (M.length : Int)) = false by simp; omega]
    simp only [cond_false]
    unfold passkeyref23_ends_L0
    rw [iter_scan (fun i (_ : Unit) => (L, M, i, ())) M (fun i x _ => bif decide (L[L.length - M.length + i]? = some x) then .inl () else .inr (.inl (false, ()))) (fun _ => .inr ()) (fun _ _ => True) ?_ ?_ () trivial rounds (by rw [rounds_eq]; omega)]
    · rw [scan_allI (fun i x => decide (L[L.length - M.length + i]? = some x))]
      have e : allI (fun i x => decide (L[L.length - M.length + i]? = some x)) 0 M = decide (L.drop (L.length - M.length) = M) := by
        rw [Bool.eq_iff_iff, allI_iff, decide_eq_true_eq]
        simp only [Nat.zero_add, decide_eq_true_eq]
        constructor
        · intro hp
          apply List.ext_getElem?
          intro i
          rw [List.getElem?_drop]
          by_cases hi : i < M.length
          · rw [hp i M[i] (by simp [hi])]; simp [hi]
          · rw [List.getElem?_eq_none (by omega), List.getElem?_eq_none (by omega)]
        · intro e i x hx
          rw [← List.getElem?_drop, e]
          exact hx
      rw [e]
      simp only [h, decide_true, Bool.true_and]
      cases decide (L.drop (L.length - M.length) = M) <;> rfl
    · intro i x _ hx _
      obtain ⟨hi, hx'⟩ := List.getElem?_eq_some_iff.1 hx
      refine ⟨?_, fun _ _ => trivial⟩
      simp only [passkeyref23_ends_L0b]
      have hg : getI M (i : Int) = some x := by simp [getI, hx]
      have hlt : L.length - M.length + i < L.length := by omega
      have hg2 : getI L ((L.length : Int) - (M.length : Int) + (i : Int)) = some L[L.length - M.length + i] := by
        unfold getI
        rw [show decide ((0 : Int) ≤ (L.length : Int) - (M.length : Int) + (i : Int)) = true by simp; omega, show ((L.length : Int) - (M.length : Int) + (i : Int)).toNat = L.length - M.length + i by omega]
        simp only [cond_true]
        rw [List.getElem?_eq_getElem hlt]
      rw [wrap_id (n := (L.length : Int) - (M.length : Int)) (by omega) (by omega), wrap_id (n := (L.length : Int) - (M.length : Int) + (i : Int)) (by omega) (by omega), hg, hg2, show decide ((i : Int) < (M.length : Int)) = true by simp; omega, wrap_id (n := (i : Int) + 1) (by omega) (by omega)]
      simp only [cond_true, bindS]
      have : decide (L[L.length - M.length + i]? = some x) = decide (L[L.length - M.length + i] = x) := by
        rw [decide_eq_decide, List.getElem?_eq_getElem hlt, Option.some.injEq]
      rw [this]
      cases decide (L[L.length - M.length + i] = x) <;> rfl
    · intro _ _
      simp only [passkeyref23_ends_L0b]
      simp
  · rw [show decide ((L.length : Int) < (M.length : Int)) = true by simp; omega]
    simp [h]
end Go.Proofs.YtbdpgpnfpjodfaaDoor

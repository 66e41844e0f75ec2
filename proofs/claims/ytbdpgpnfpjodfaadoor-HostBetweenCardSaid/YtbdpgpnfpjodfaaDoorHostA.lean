/- What the functions on host names compute: labels, names. No condition. -/
import Derived.Test.YtbdpgpnfpjodfaaDoorFns
import Derived.Test.YtbdpgpnfpjodfaaDoorLib8
set_option linter.unusedVariables false
set_option linter.unusedSimpArgs false
set_option maxRecDepth 100000
namespace Go.Proofs.YtbdpgpnfpjodfaaDoor
open Go Go.Abs

theorem awake_ok : passkeylaw23_awake = some ((), true, ()) := by kernel_rfl

/-! ### labels -/
def isDig (x : UInt8) : Bool := decide ((48 : UInt8).toBitVec.toNat ≤ x.toBitVec.toNat) && decide (x.toBitVec.toNat ≤ (57 : UInt8).toBitVec.toNat)
def isLet (x : UInt8) : Bool := decide ((97 : UInt8).toBitVec.toNat ≤ x.toBitVec.toNat) && decide (x.toBitVec.toNat ≤ (122 : UInt8).toBitVec.toNat)
def isDash (x : UInt8) : Bool := decide (x.toBitVec = (45 : UInt8).toBitVec)
theorem isDash_iff {x : UInt8} : isDash x = true ↔ x = 45 := by
  unfold isDash
  rw [decide_eq_true_eq]
  exact UInt8.toBitVec_inj
def okAt (n i : Nat) (x : UInt8) : Bool := (isLet x || isDig x) || (isDash x && (decide (0 < i) && decide (i + 1 < n)))
def inner (x : UInt8) : Bool := (isLet x || isDig x) || isDash x
def lab (l : List UInt8) : Bool := decide (1 ≤ l.length ∧ l.length ≤ 63) && ((!decide (l.head? = some 45) && !decide (l.getLast? = some 45)) && l.all inner)

theorem allI_ok (l : List UInt8) (h : 1 ≤ l.length) : allI (okAt l.length) 0 l = ((!decide (l.head? = some 45) && !decide (l.getLast? = some 45)) && l.all inner) := by
  rw [Bool.eq_iff_iff]
  rw [allI_iff]
  simp only [Bool.and_eq_true, Bool.not_eq_true', decide_eq_false_iff_not, List.all_eq_true]
  have hdash : isLet 45 = false ∧ isDig 45 = false := by decide
  constructor
  · intro hp
    refine ⟨⟨fun hh => ?_, fun hh => ?_⟩, fun x hx => ?_⟩
    · have e : l[0]? = some 45 := by rw [← List.head?_eq_getElem?]; exact hh
      have := hp 0 45 e
      simp [okAt, hdash] at this
    · have e : l[l.length - 1]? = some 45 := by rw [← List.getLast?_eq_getElem?]; exact hh
      have := hp _ 45 e
      simp [okAt, hdash] at this
      omega
    · obtain ⟨i, hi, rfl⟩ := List.mem_iff_getElem.1 hx
      have := hp i l[i] (by simp [hi])
      simp only [okAt, inner, Bool.or_eq_true, Bool.and_eq_true] at this ⊢
      rcases this with h | h
      · exact .inl h
      · exact .inr h.1
  · rintro ⟨⟨h1, h2⟩, h3⟩ i x hx
    obtain ⟨hi, rfl⟩ := List.getElem?_eq_some_iff.1 hx
    have := h3 _ (List.getElem_mem hi)
    simp only [okAt, inner, Bool.or_eq_true, Bool.and_eq_true, decide_eq_true_eq, Nat.zero_add] at this ⊢
    rcases this with h | h
    · exact .inl h
    · refine .inr ⟨h, ?_, ?_⟩
      · rcases Nat.eq_zero_or_pos i with rfl | hi0
        · exfalso; apply h1
          rw [List.head?_eq_getElem?, hx, isDash_iff.1 h]
        · exact hi0
      · rcases Nat.lt_or_ge (i + 1) l.length with q | q
        · exact q
        · exfalso; apply h2
          have : i = l.length - 1 := by omega
          subst this
          rw [List.getLast?_eq_getElem?, hx, isDash_iff.1 h]

theorem validLabel_ok (l : List UInt8) : host_validLabel l = some ((), lab l, ()) := by
  unfold host_validLabel lab
  by_cases h1 : 1 ≤ l.length
  · by_cases h2 : l.length ≤ 63
    · rw [show decide ((l.length : Int) < 1) = false by simp; omega, show decide ((63 : Int) < (l.length : Int)) = false by simp; omega]
      simp only [cond_false]
      unfold host_validLabel_L0
      rw [iter_scan (fun i (_ : Unit) => (l, (l.length : Int), i, ())) l (fun i x _ => bif okAt l.length i x then .inl () else .inr (.inl (false, ()))) (fun _ => .inr ()) (fun _ _ => True) ?_ ?_ () trivial rounds (by rw [rounds_eq]; omega)]
      · rw [scan_allI, allI_ok l h1]
        simp only [h1, h2, and_self, decide_true, Bool.true_and]
        cases (!decide (l.head? = some 45) && !decide (l.getLast? = some 45)) && l.all inner <;> rfl
      · intro i x a hx _
        obtain ⟨hi, hx'⟩ := List.getElem?_eq_some_iff.1 hx
        refine ⟨?_, fun _ _ => trivial⟩
        simp only [host_validLabel_L0b]
        have hg : getI l (i : Int) = some x := by simp [getI, hx]
        rw [hg, show decide ((i : Int) < (l.length : Int)) = true by simp; omega, wrap_id (n := (i : Int) + 1) (by omega) (by omega), wrap_id (n := (l.length : Int) - 1) (by omega) (by omega)]
        simp only [cond_true, bindS]
        unfold okAt isLet isDig isDash
        rw [show decide ((i : Int) < (l.length : Int) - 1) = decide (i + 1 < l.length) by rw [decide_eq_decide]; omega, show decide ((0 : Int) < (i : Int)) = decide (0 < i) by rw [decide_eq_decide]; omega]
        generalize decide ((97 : UInt8).toBitVec.toNat ≤ x.toBitVec.toNat) = b1
        generalize decide (x.toBitVec.toNat ≤ (122 : UInt8).toBitVec.toNat) = b2
        generalize decide ((48 : UInt8).toBitVec.toNat ≤ x.toBitVec.toNat) = b3
        generalize decide (x.toBitVec.toNat ≤ (57 : UInt8).toBitVec.toNat) = b4
        generalize decide (x.toBitVec = (45 : UInt8).toBitVec) = b5
        generalize decide (0 < i) = b6
        generalize decide (i + 1 < l.length) = b7
        cases b1 <;> cases b2 <;> cases b3 <;> cases b4 <;> cases b5 <;> cases b6 <;> cases b7 <;> rfl
      · intro a _
        simp only [host_validLabel_L0b]
        simp
    · rw [show decide ((l.length : Int) < 1) = false by simp; omega, show decide ((63 : Int) < (l.length : Int)) = true by simp; omega]
      simp [h2]
  · rw [show decide ((l.length : Int) < 1) = true by simp; omega]
    simp [h1]
theorem digit_ok (x : UInt8) : passkeyref23_digit x = some ((), isDig x, ()) := by
  unfold passkeyref23_digit isDig
  cases decide ((48 : UInt8).toBitVec.toNat ≤ x.toBitVec.toNat) <;> rfl
theorem label_ok (l : List UInt8) : passkeyref23_label l = some ((), lab l, ()) := by
  unfold passkeyref23_label lab
  by_cases h1 : 1 ≤ l.length
  · by_cases h2 : l.length ≤ 63
    · rw [show decide ((l.length : Int) < 1) = false by simp; omega, show decide ((63 : Int) < (l.length : Int)) = false by simp; omega]
      simp only [cond_false]
      have e1 : getI l 0 = some l[0] := by simp [getI]
      have e2 : getI l (IntKind.wrap .i64 ((l.length : Int) - 1)) = some l[l.length - 1] := by
        rw [wrap_id (by omega) (by omega)]
        have : ((l.length : Int) - 1).toNat = l.length - 1 := by omega
        simp only [getI, this]
        rw [show decide ((0 : Int) ≤ (l.length : Int) - 1) = true by simp; omega]
        simp only [cond_true]
        rw [List.getElem?_eq_getElem]
      rw [e1, e2]
      simp only [bindS, h1, h2, and_self, decide_true, Bool.true_and]
      have f1 : decide (l.head? = some 45) = decide (l[0].toBitVec = (45 : UInt8).toBitVec) := by
        rw [decide_eq_decide, List.head?_eq_getElem?, List.getElem?_eq_getElem (by omega), Option.some.injEq]
        exact UInt8.toBitVec_inj.symm
      have f2 : decide (l.getLast? = some 45) = decide (l[l.length - 1].toBitVec = (45 : UInt8).toBitVec) := by
        rw [decide_eq_decide, List.getLast?_eq_getElem?, List.getElem?_eq_getElem (by omega), Option.some.injEq]
        exact UInt8.toBitVec_inj.symm
      rw [f1, f2]
      cases decide (l[0].toBitVec = (45 : UInt8).toBitVec)
      · cases decide (l[l.length - 1].toBitVec = (45 : UInt8).toBitVec)
        · simp only [cond_false, Bool.not_false, Bool.and_self, Bool.true_and]
          unfold passkeyref23_label_L0
          rw [iter_scan (fun i (_ : Unit) => (l, i, ())) l (fun i x _ => bif inner x then .inl () else .inr (.inl (false, ()))) (fun _ => .inr ()) (fun _ _ => True) ?_ ?_ () trivial rounds (by rw [rounds_eq]; omega)]
          · rw [scan_allI (fun _ x => inner x), allI_all]
            cases l.all inner <;> rfl
          · intro i x a hx _
            obtain ⟨hi, hx'⟩ := List.getElem?_eq_some_iff.1 hx
            refine ⟨?_, fun _ _ => trivial⟩
            simp only [passkeyref23_label_L0b]
            have hg : getI l (i : Int) = some x := by simp [getI, hx]
            rw [hg, show decide ((i : Int) < (l.length : Int)) = true by simp; omega, wrap_id (n := (i : Int) + 1) (by omega) (by omega)]
            simp only [cond_true, bindS, digit_ok]
            unfold inner isLet isDash
            generalize isDig x = b3
            generalize decide ((97 : UInt8).toBitVec.toNat ≤ x.toBitVec.toNat) = b1
            generalize decide (x.toBitVec.toNat ≤ (122 : UInt8).toBitVec.toNat) = b2
            generalize decide (x.toBitVec = (45 : UInt8).toBitVec) = b5
            cases b1 <;> cases b2 <;> cases b3 <;> cases b5 <;> rfl
          · intro a _
            simp only [passkeyref23_label_L0b]
            simp
        · rfl
      · rfl
    · rw [show decide ((l.length : Int) < 1) = false by simp; omega, show decide ((63 : Int) < (l.length : Int)) = true by simp; omega]
      simp [h2]
  · rw [show decide ((l.length : Int) < 1) = true by simp; omega]
    simp [h1]
end Go.Proofs.YtbdpgpnfpjodfaaDoor

/- cbor: Array and Map; the sorting of at most twelve keys. No condition. -/
import Derived.Test.YtjedfmknnkimmaaDoorCborM
set_option linter.unusedVariables false
set_option linter.unusedSimpArgs false
set_option maxRecDepth 100000
namespace Go.Proofs.YtjedfmknnkimmaaDoor
open Go Go.Abs
theorem small24 {n : Nat} (h : n < 1000000) : small n 24 = true := by
  unfold small; simp; omega
theorem two_ok {a b : Int} (h0 : 0 ≤ a) (h1 : a < b) : (decide ((0 : Int) ≤ a) && decide (a < b)) = true := by
  rw [Bool.and_eq_true, decide_eq_true_eq, decide_eq_true_eq]; exact ⟨h0, h1⟩
def fau : List (List ApiItem) → Int
  | [] => 0
  | l :: r => bif decide (valO l = 0) then fau r else valO l
def light1 (v : List (List ApiItem)) : Prop := ∀ l ∈ v, l.length ≤ 600 ∧ ∀ x ∈ l, x.data.length < 100000
theorem light1_cons {l : List ApiItem} {r : List (List ApiItem)} (h : light1 (l :: r)) : (l.length ≤ 600 ∧ ∀ x ∈ l, x.data.length < 100000) ∧ light1 r := ⟨h l (by simp), fun q hq => h q (by simp [hq])⟩
theorem faulty_ok (v : List (List ApiItem)) (hv : light1 v) (hl : v.length ≤ 1000) : cbor_faulty v = some ((), fau v, ()) := by
  have key : ∀ (r : List (List ApiItem)) (j f : Nat), v.drop j = r → r.length < f → iter (fun (y : ((List (List ApiItem)) × Int × Int × Unit)) => cbor_faulty_L0b y.1 y.2.1 y.2.2.1) f (v, (v.length : Int), (j : Int), ()) = some (bif decide (fau r = 0) then .inr () else .inl (fau r, ())) := by
    intro r
    induction r with
    | nil =>
      intro j f hr hf
      obtain ⟨f, rfl⟩ : ∃ g, f = g + 1 := ⟨f - 1, by omega⟩
      have hjl : v.length ≤ j := by
        have := congrArg List.length hr
        simp at this
        omega
      rw [iter_succ]
      dsimp only
      unfold cbor_faulty_L0b
      rw [show decide ((j : Int) < (v.length : Int)) = false from decide_eq_false (by omega)]
      rfl
    | cons l r ih =>
      intro j f hr hf
      obtain ⟨f, rfl⟩ : ∃ g, f = g + 1 := ⟨f - 1, by omega⟩
      obtain ⟨d1, d2, d3, d4⟩ := drop_cons hr
      have hm := hv l (List.mem_of_getElem? d1)
      have e1 : cbor_faulty_L0b v (v.length : Int) (j : Int) = bif decide (valO l = 0) then some (Sum.inl (v, (v.length : Int), ((j + 1 : Nat) : Int), ())) else some (Sum.inr (Sum.inl (valO l, ()))) := by
        unfold cbor_faulty_L0b
        rw [show decide ((j : Int) < (v.length : Int)) = true from decide_eq_true (by omega), getI_nat d1, wrap_id (n := (j : Int) + 1) (by omega) (by omega)]
        simp only [cond_true, bindS]
        rw [Validate_ok l (by omega) hm.2]
        simp only [bindS]
        cases decide (valO l = 0) <;> rfl
      rw [iter_succ]
      dsimp only
      rw [e1]
      unfold fau
      by_cases h0 : valO l = 0
      · rw [show decide (valO l = 0) = true from decide_eq_true h0]
        exact ih (j + 1) f d2 (by simp at hf; omega)
      · rw [show decide (valO l = 0) = false from decide_eq_false h0]
        simp only [cond_false, bindS, Sum.elim_inr]
        rw [show decide (valO l = 0) = false from decide_eq_false h0]
        rfl
  unfold cbor_faulty cbor_faulty_L0
  have e := key v 0 rounds rfl (by rw [rounds_eq]; omega)
  rw [show ((0 : Nat) : Int) = 0 from rfl] at e
  rw [e]
  by_cases h0 : fau v = 0
  · rw [h0]; rfl
  · rw [show decide (fau v = 0) = false from decide_eq_false h0]; rfl
theorem mach_long : ∀ (f : Nat) (S : List CborFrame) (n : Nat) (p a b : List ApiItem), n ≤ 512 → p.length + n = 513 → valE (mach getL f S n (p ++ a)) = valE (mach getL f S n (p ++ b))
  | 0, S, n, p, a, b, _, _ => rfl
  | f + 1, S, n, p, a, b, hn, hp => by
    cases p with
    | nil => simp at hp; omega
    | cons x p =>
      simp only [List.length_cons] at hp
      cases hS : (decide (0 < n) && S.isEmpty)
      · by_cases hc : chk x n S.length (atK S) (lst S) = 0
        · have hn2 := (adm_zero (chk_zero hc).1).1
          have e : ∀ q : List ApiItem, getL n S.length (atK S) (lst S) (x :: q) = (0, x, q) := fun q => by simp [getL, hc]
          rw [List.cons_append, List.cons_append, mach_step hS (e _), mach_step hS (e _)]
          exact mach_long f (nxt x S) (n + 1) p a b (by omega) (by omega)
        · have e : ∀ q : List ApiItem, getL n S.length (atK S) (lst S) (x :: q) = (chk x n S.length (atK S) (lst S), x, q) := fun q => rfl
          rw [List.cons_append, List.cons_append, mach_err hS (e _) hc, mach_err hS (e _) hc]
          rfl
      · have e : ∀ q : List ApiItem, valE (mach getL (f + 1) S n (x :: q)) = 2 := by
          intro q
          unfold mach
          rw [hS]
          rfl
        rw [List.cons_append, List.cons_append, e, e]
theorem valO_long (p a b : List ApiItem) (hp : p.length = 513) : valO (p ++ a) = valO (p ++ b) := mach_long 600 [] 0 p a b (by omega) (by omega)
def gat : List ApiItem → List (List ApiItem) → List ApiItem
  | o, [] => o
  | o, l :: r => bif decide (512 < o.length) then o else gat (o ++ l) r
theorem gat_val : ∀ (v : List (List ApiItem)) (o : List ApiItem), valO (gat o v) = valO (o ++ v.flatten) ∧ (gat o v = o ++ v.flatten ∨ 512 < (gat o v).length ∧ 512 < (o ++ v.flatten).length)
  | [], o => by simp [gat]
  | l :: r, o => by
    unfold gat
    by_cases h : 512 < o.length
    · rw [show decide (512 < o.length) = true from decide_eq_true h]
      simp only [cond_true]
      refine ⟨?_, .inr ⟨h, by rw [List.length_append]; omega⟩⟩
      have e := valO_long (o.take 513) (o.drop 513) (o.drop 513 ++ (l :: r).flatten) (by rw [List.length_take]; omega)
      rw [← List.append_assoc, List.take_append_drop] at e
      exact e
    · rw [show decide (512 < o.length) = false from decide_eq_false h]
      simp only [cond_false, List.flatten_cons]
      have := gat_val r (o ++ l)
      rw [List.append_assoc] at this
      exact this
theorem valO_big {l : List ApiItem} (h : 512 < l.length) : valO l ≠ 0 := by
  intro hv
  have key : ∀ (f : Nat) (S : List CborFrame) (n : Nat) (l o r : List ApiItem), n ≤ 512 → mach getL f S n l = (0, o, r) → n + o.length ≤ 512 := by
    intro f
    induction f with
    | zero => intro S n l o r hn h; simp [mach] at h
    | succ f ih =>
      intro S n l o r hn h
      rcases mach_cases getL f S n l with ⟨h1, h2⟩ | ⟨h1, h2, h3⟩ | ⟨h1, x, u, h2, h3⟩
      · rw [h2] at h
        simp only [Prod.mk.injEq, true_and] at h
        obtain ⟨rfl, rfl⟩ := h
        simpa using hn
      · rw [h3] at h
        simp only [Prod.mk.injEq] at h
        exact absurd h.1 h2
      · rw [h3] at h
        simp only [Prod.mk.injEq] at h
        obtain ⟨g1, g2, g3⟩ := h
        have hn2 := (adm_zero (chk_zero (getL_zero h2).2).1).1
        generalize hm : mach getL f (nxt x S) (n + 1) u = m at g1 g2 g3
        obtain ⟨m1, m2, m3⟩ := m
        dsimp only at g1 g2 g3
        subst g1; subst g2; subst g3
        have := ih (nxt x S) (n + 1) u m2 m3 (by omega) hm
        rw [List.length_cons]
        omega
  have := key 600 [] 0 l l [] (by omega) (valO_zero hv).1
  omega
theorem checked_ok (l : List ApiItem) (hl : l.length < 1000000) (hd : ∀ x ∈ l, x.data.length < 100000) : cbor_checked l = some ((), (bif decide (valO l = 0) then l else []), valO l, ()) := by
  unfold cbor_checked
  rw [Validate_ok l hl hd]
  simp only [bindS]
  by_cases h : valO l = 0
  · rw [h]; rfl
  · rw [show decide (valO l = 0) = false from decide_eq_false h]; rfl
theorem light1_flat : ∀ {v : List (List ApiItem)}, light1 v → v.flatten.length ≤ v.length * 600 ∧ ∀ x ∈ v.flatten, x.data.length < 100000
  | [], _ => by simp
  | l :: r, h => by
    obtain ⟨h1, h2⟩ := light1_cons h
    obtain ⟨i1, i2⟩ := light1_flat h2
    refine ⟨?_, ?_⟩
    · simp only [List.flatten_cons, List.length_append, List.length_cons, Nat.add_mul]
      omega
    · intro x hx
      simp only [List.flatten_cons, List.mem_append] at hx
      rcases hx with hx | hx
      · exact h1.2 x hx
      · exact i2 x hx
def arrO (v : List (List ApiItem)) : List ApiItem × Int :=
  bif !decide (fau v = 0) then ([], fau v) else
  bif decide (valO (⟨5, BitVec.ofInt 64 (v.length : Int), []⟩ :: v.flatten) = 0) then (⟨5, BitVec.ofInt 64 (v.length : Int), []⟩ :: v.flatten, 0) else ([], valO (⟨5, BitVec.ofInt 64 (v.length : Int), []⟩ :: v.flatten))
theorem gat_sub : ∀ (v : List (List ApiItem)) (o : List ApiItem), (gat o v).length ≤ (o ++ v.flatten).length ∧ ∀ x ∈ gat o v, x ∈ o ++ v.flatten
  | [], o => by simp [gat]
  | l :: r, o => by
    unfold gat
    cases decide (512 < o.length)
    · have := gat_sub r (o ++ l)
      simp only [cond_false, List.flatten_cons]
      rw [List.append_assoc] at this
      exact this
    · simp only [cond_true]
      exact ⟨by rw [List.length_append]; omega, fun x hx => List.mem_append_left _ hx⟩
theorem arr_fin {v : List (List ApiItem)} (o : List ApiItem) : (bif decide (valO (gat o v) = 0) then gat o v else []) = (bif decide (valO (o ++ v.flatten) = 0) then o ++ v.flatten else []) := by
  obtain ⟨h1, h2⟩ := gat_val v o
  rw [h1]
  rcases h2 with h2 | ⟨h2, h3⟩
  · rw [h2]
  · rw [show decide (valO (o ++ v.flatten) = 0) = false from decide_eq_false (valO_big h3)]
    rfl
theorem Array_ok (v : List (List ApiItem)) (hv : light1 v) (hl : v.length ≤ 1000) : cbor_Array v = some ((), (arrO v).1, (arrO v).2, ()) := by
  unfold cbor_Array arrO
  rw [faulty_ok v hv hl]
  simp only [bindS]
  by_cases h0 : fau v = 0
  · rw [show decide (fau v = 0) = true from decide_eq_true h0]
    simp only [Bool.not_true, cond_false]
    have key : ∀ (r : List (List ApiItem)) (j f : Nat) (o : List ApiItem), v.drop j = r → r.length < f → o.length ≤ j * 600 + 1 → iter (fun (y : ((List (ApiItem)) × (List (List ApiItem)) × Int × Int × Unit)) => cbor_Array_L0b y.1 y.2.1 y.2.2.1 y.2.2.2.1) f (o, v, (v.length : Int), (j : Int), ()) = some (gat o r, ()) := by
      intro r
      induction r with
      | nil =>
        intro j f o hr hf ho
        obtain ⟨f, rfl⟩ : ∃ g, f = g + 1 := ⟨f - 1, by omega⟩
        have hjl : v.length ≤ j := by
          have := congrArg List.length hr
          simp at this
          omega
        rw [iter_succ]
        dsimp only
        unfold cbor_Array_L0b
        rw [show decide ((j : Int) < (v.length : Int)) = false from decide_eq_false (by omega)]
        rfl
      | cons l r ih =>
        intro j f o hr hf ho
        obtain ⟨f, rfl⟩ : ∃ g, f = g + 1 := ⟨f - 1, by omega⟩
        obtain ⟨d1, d2, d3, d4⟩ := drop_cons hr
        have hm := hv l (List.mem_of_getElem? d1)
        have e1 : cbor_Array_L0b o v (v.length : Int) (j : Int) = bif decide (512 < o.length) then some (Sum.inr (o, ())) else some (Sum.inl (o ++ l, v, (v.length : Int), ((j + 1 : Nat) : Int), ())) := by
          unfold cbor_Array_L0b
          rw [show decide ((j : Int) < (v.length : Int)) = true from decide_eq_true (by omega), getI_nat d1, wrap_id (n := (j : Int) + 1) (by omega) (by omega), show decide ((512 : Int) < (o.length : Int)) = decide (512 < o.length) by rw [decide_eq_decide]; omega]
          simp only [cond_true, bindS]
          rw [small32 (by omega)]
          rfl
        rw [iter_succ]
        dsimp only
        rw [e1]
        unfold gat
        cases decide (512 < o.length)
        · exact ih (j + 1) f (o ++ l) d2 (by simp at hf; omega) (by rw [List.length_append, Nat.add_mul]; omega)
        · rfl
    unfold cbor_Array_L0
    have e := key v 0 rounds [⟨5, BitVec.ofInt 64 (v.length : Int), []⟩] rfl (by rw [rounds_eq]; omega) (by simp)
    rw [show ((0 : Nat) : Int) = 0 from rfl] at e
    rw [e]
    simp only [bindS]
    obtain ⟨l1, l2⟩ := light1_flat hv
    obtain ⟨s1, s2⟩ := gat_sub v [⟨5, BitVec.ofInt 64 (v.length : Int), []⟩]
    have l3 : v.length * 600 ≤ 1000 * 600 := Nat.mul_le_mul_right _ hl
    rw [checked_ok _ (by rw [List.length_append, List.length_singleton] at s1; omega) (fun x hx => by
      rcases List.mem_append.1 (s2 x hx) with hx | hx
      · simp at hx; subst hx; simp
      · exact l2 x hx)]
    simp only [bindS]
    rw [arr_fin, (gat_val v _).1, List.singleton_append]
    by_cases h1 : valO (⟨5, BitVec.ofInt 64 (v.length : Int), []⟩ :: v.flatten) = 0
    · rw [h1]; rfl
    · rw [show decide (valO (⟨5, BitVec.ofInt 64 (v.length : Int), []⟩ :: v.flatten) = 0) = false from decide_eq_false h1]; rfl
  · rw [show decide (fau v = 0) = false from decide_eq_false h0]
    rfl
theorem rArray_ok (v : List (List ApiItem)) (hv : light1 v) (hl : v.length ≤ 1000) : passkeyref1_Array v = some ((), (arrO v).1, (arrO v).2, ()) := by
  have key : ∀ (r : List (List ApiItem)) (j f : Nat) (o : List ApiItem), v.drop j = r → r.length < f → o.length ≤ j * 600 + 1 → iter (fun (y : ((List (List ApiItem)) × (List (ApiItem)) × Int × Unit)) => passkeyref1_Array_L0b y.1 y.2.1 y.2.2.1) f (v, o, (j : Int), ()) = some (bif decide (fau r = 0) then .inr (o ++ r.flatten, ()) else .inl ([], fau r, ())) := by
    intro r
    induction r with
    | nil =>
      intro j f o hr hf ho
      obtain ⟨f, rfl⟩ : ∃ g, f = g + 1 := ⟨f - 1, by omega⟩
      have hjl : v.length ≤ j := by
        have := congrArg List.length hr
        simp at this
        omega
      rw [iter_succ]
      dsimp only
      unfold passkeyref1_Array_L0b
      rw [show decide ((j : Int) < (v.length : Int)) = false from decide_eq_false (by omega)]
      simp [fau]
    | cons l r ih =>
      intro j f o hr hf ho
      obtain ⟨f, rfl⟩ : ∃ g, f = g + 1 := ⟨f - 1, by omega⟩
      obtain ⟨d1, d2, d3, d4⟩ := drop_cons hr
      have hm := hv l (List.mem_of_getElem? d1)
      have e1 : passkeyref1_Array_L0b v o (j : Int) = bif decide (valO l = 0) then some (Sum.inl (v, o ++ l, ((j + 1 : Nat) : Int), ())) else some (Sum.inr (Sum.inl ([], valO l, ()))) := by
        unfold passkeyref1_Array_L0b
        rw [show decide ((j : Int) < (v.length : Int)) = true from decide_eq_true (by omega), getI_nat d1, wrap_id (n := (j : Int) + 1) (by omega) (by omega)]
        simp only [cond_true, bindS]
        rw [rValidate_ok l (by omega) hm.2]
        simp only [bindS]
        rw [small32 (by omega)]
        cases decide (valO l = 0) <;> rfl
      rw [iter_succ]
      dsimp only
      rw [e1]
      unfold fau
      by_cases h0 : valO l = 0
      · rw [show decide (valO l = 0) = true from decide_eq_true h0]
        simp only [cond_true, bindS, Sum.elim_inl]
        rw [ih (j + 1) f (o ++ l) d2 (by simp at hf; omega) (by rw [List.length_append, Nat.add_mul]; omega), List.flatten_cons, List.append_assoc]
      · rw [show decide (valO l = 0) = false from decide_eq_false h0]
        simp only [cond_false, bindS, Sum.elim_inr]
        rw [show decide (valO l = 0) = false from decide_eq_false h0]
        rfl
  unfold passkeyref1_Array passkeyref1_Array_L0 arrO
  have e := key v 0 rounds [⟨5, BitVec.ofInt 64 (v.length : Int), []⟩] rfl (by rw [rounds_eq]; omega) (by simp)
  rw [show ((0 : Nat) : Int) = 0 from rfl] at e
  dsimp only
  rw [e]
  by_cases h0 : fau v = 0
  · rw [show decide (fau v = 0) = true from decide_eq_true h0]
    simp only [cond_true, bindS, Sum.elim_inr, Bool.not_true, cond_false, List.singleton_append]
    obtain ⟨l1, l2⟩ := light1_flat hv
    have l3 : v.length * 600 ≤ 1000 * 600 := Nat.mul_le_mul_right _ hl
    rw [rValidate_ok _ (by simp only [List.length_cons]; omega) (fun x hx => by
      rcases List.mem_cons.1 hx with rfl | hx
      · simp
      · exact l2 x hx)]
    simp only [bindS]
    by_cases h1 : valO (⟨5, BitVec.ofInt 64 (v.length : Int), []⟩ :: v.flatten) = 0
    · rw [h1]; rfl
    · rw [show decide (valO (⟨5, BitVec.ofInt 64 (v.length : Int), []⟩ :: v.flatten) = 0) = false from decide_eq_false h1]; rfl
  · rw [show decide (fau v = 0) = false from decide_eq_false h0]
    rfl
end Go.Proofs.YtjedfmknnkimmaaDoor

/- The law OriginFew, plainly. No condition. -/
import Derived.Test.YtjmaldfcmggblaaDoorOgC
set_option linter.unusedVariables false
set_option linter.unusedSimpArgs false
set_option maxRecDepth 100000
namespace Go.Proofs.YtjmaldfcmggblaaDoor
open Go Go.Abs
def hA (i : Nat) : List UInt8 := ([115] ++ [UInt8.ofBitVec (BitVec.ofInt 8 (IntKind.wrap .i64 (97 + (i : Int))))]) ++ [46, 99, 111, 109]
def hB (i : Nat) : List UInt8 := [119, 119, 119, 46] ++ hA i
def H18 : List (List UInt8) := [[115, 97, 46, 99, 111, 109], [119, 119, 119, 46, 115, 97, 46, 99, 111, 109], [115, 98, 46, 99, 111, 109], [119, 119, 119, 46, 115, 98, 46, 99, 111, 109], [115, 99, 46, 99, 111, 109], [119, 119, 119, 46, 115, 99, 46, 99, 111, 109], [115, 100, 46, 99, 111, 109], [119, 119, 119, 46, 115, 100, 46, 99, 111, 109], [115, 101, 46, 99, 111, 109], [119, 119, 119, 46, 115, 101, 46, 99, 111, 109], [115, 102, 46, 99, 111, 109], [119, 119, 119, 46, 115, 102, 46, 99, 111, 109], [115, 103, 46, 99, 111, 109], [119, 119, 119, 46, 115, 103, 46, 99, 111, 109], [115, 104, 46, 99, 111, 109], [119, 119, 119, 46, 115, 104, 46, 99, 111, 109], [115, 105, 46, 99, 111, 109], [119, 119, 119, 46, 115, 105, 46, 99, 111, 109]]
theorem H_step : ∀ i : Nat, i < 9 → H18.take (2 * (i + 1)) = H18.take (2 * i) ++ [hA i, hB i] := by decide +kernel
theorem H_ok : ∀ x ∈ H18, vali x = 0 ∧ (reg [] x).2 = true ∧ x.length ≤ 10 := by decide +kernel
def lab46 (x : List UInt8) : List UInt8 := fst46 (reg [] x).1
def relH (h : List UInt8) : List (List UInt8) → List (List UInt8) → Bool
  | [], _ => false
  | x :: r, seen => bif seen.any (fun y => decide (y = lab46 x)) then (bif decide (x = h) then true else relH h r seen)
    else bif decide (5 ≤ seen.length) then relH h r seen
    else (bif decide (x = h) then true else relH h r (seen ++ [lab46 x]))
theorem H_rel : ∀ k : Nat, k < 10 → ∀ j : Nat, j < 2 * k → relH (H18.getD j []) (H18.take (2 * k)) [] = decide (j < 10) := by decide +kernel
def ob (p : Int) (h : List UInt8) : ApiOrigin := ⟨true, h, p⟩
theorem rel_H (p : Int) (hp : 1 ≤ p ∧ p ≤ 65535) (h : List UInt8) : ∀ (hs seen : List (List UInt8)), (∀ x ∈ hs, vali x = 0 ∧ (reg [] x).2 = true ∧ x.length ≤ 10) → rel [] (ob p h) (hs.map fun x => ftxt (ob p x)) seen = relH h hs seen
  | [], _, _ => rfl
  | x :: r, seen, hx => by
    have h1 := hx x (by simp)
    have ih := fun s => rel_H p hp h r s (fun y hy => hx y (by simp [hy]))
    have e1 : porig (ftxt (ob p x)) = (ob p x, 0) := parse_fmtO (o := ob p x) h1.1 hp
    have e2 : decide (ob p x = ob p h) = decide (x = h) := by
      rw [decide_eq_decide]
      unfold ob
      simp
    simp only [List.map_cons, rel, relH, e1, ih, e2, decide_true, Bool.true_and]
    show (bif (reg [] x).2 then _ else _) = _
    rw [h1.2.1]
    rfl
theorem ftxt_len (p : Int) (hp : 1 ≤ p ∧ p ≤ 65535) {x : List UInt8} (h : x.length ≤ 10) : (ftxt (ob p x)).length < 1000000 := by
  unfold ftxt ob
  have h1 := sch_len true
  have h2 := dec_len p.toNat
  simp only [List.length_append]
  cases decide (p = dport true) <;> simp <;> omega
theorem fmt_ob (p : Int) (hp : 1 ≤ p ∧ p ≤ 65535) {x : List UInt8} (h : vali x = 0) : origin_Format (ob p x) = some ((), ftxt (ob p x), 0, ()) := by
  rw [Format_ok]
  unfold fmtO
  have e1 : decide (vali (ob p x).host = 0) = true := decide_eq_true h
  have e2 : decide (1 ≤ (ob p x).port ∧ (ob p x).port ≤ 65535) = true := decide_eq_true hp
  rw [e1, e2]; rfl
theorem H_mem (i : Nat) (hi : i < 9) : hA i ∈ H18 ∧ hB i ∈ H18 := by
  have h := H_step i hi
  have : ∀ x ∈ H18.take (2 * (i + 1)), x ∈ H18 := fun x hx => List.mem_of_mem_take hx
  rw [h] at this
  exact ⟨this _ (by simp), this _ (by simp)⟩
theorem sm32 {n : Nat} (h : n ≤ 100000) : small n 32 = true := by
  unfold small
  simp only [decide_eq_true_eq]
  omega
theorem few_L0 (k : Nat) (p : Int) (hk : k ≤ 9) (hp : 1 ≤ p ∧ p ≤ 65535) : Ok (passkeylaw24_OriginFew_L0 ((k : Int), p, [], [], 0, ())) fun r => r = .inr ((H18.take (2 * k)).map (fun x => ftxt (ob p x)), (H18.take (2 * k)).map (ob p), ()) := by
  unfold passkeylaw24_OriginFew_L0
  refine Ok.iter (fun s => ∃ i : Nat, i ≤ k ∧ s = ((k : Int), p, (H18.take (2 * i)).map (fun x => ftxt (ob p x)), (H18.take (2 * i)).map (ob p), (i : Int), ())) (fun s => (k - s.2.2.2.2.1).toNat) ⟨0, by omega, rfl⟩ (by rw [rounds_eq]; dsimp only; omega) ?_
  rintro _ ⟨i, hi, rfl⟩
  dsimp only
  unfold passkeylaw24_OriginFew_L0b
  by_cases hki : i < k
  · have hlt : ((i : Int) < (k : Int)) := by omega
    have hstep := H_step i (by omega)
    obtain ⟨hm1, hm2⟩ := H_mem i (by omega)
    obtain ⟨a1, a2, a3⟩ := H_ok _ hm1
    obtain ⟨b1, b2, b3⟩ := H_ok _ hm2
    have eA : ([115] ++ [UInt8.ofBitVec (BitVec.ofInt 8 (IntKind.wrap .i64 (97 + (i : Int))))]) ++ [46, 99, 111, 109] = hA i := rfl
    have eB : ([119, 119, 119, 46] : List UInt8) ++ hA i = hB i := rfl
    have eO1 : (⟨true, hA i, p⟩ : ApiOrigin) = ob p (hA i) := rfl
    have eO2 : (⟨true, hB i, p⟩ : ApiOrigin) = ob p (hB i) := rfl
    have lt : ((H18.take (2 * i)).map (fun x => ftxt (ob p x))).length ≤ 18 := by rw [List.length_map, List.length_take]; exact Nat.le_trans (Nat.min_le_right _ _) (by decide)
    have lo : ((H18.take (2 * i)).map (ob p)).length ≤ 18 := by rw [List.length_map, List.length_take]; exact Nat.le_trans (Nat.min_le_right _ _) (by decide)
    simp only [hlt, decide_true, cond_true]
    rw [ble_of (by simp), ble_of (by simp)]
    simp only [cond_true, eA]
    rw [ble_of (by simp; omega)]
    simp only [cond_true, eB, eO1, eO2, fmt_ob p hp a1, fmt_ob p hp b1, bindS, decide_true, Bool.not_true, cond_false]
    rw [sm16 (by simp at lt ⊢; omega)]
    simp only [cond_true]
    rw [sm32 (by simp at lo ⊢; omega), wrap_id (n := (i : Int) + 1) (by omega) (by omega)]
    simp only [cond_true]
    refine Ok.some ⟨⟨i + 1, by omega, ?_⟩, by dsimp only; omega⟩
    rw [hstep]
    simp
  · have : i = k := by omega
    subst this
    simp only [Int.lt_irrefl, decide_false, cond_false]
    exact Ok.some rfl
theorem few_L2 (k : Nat) (p : Int) (hk : k ≤ 9) (hp : 1 ≤ p ∧ p ≤ 65535) : Ok (passkeylaw24_OriginFew_L2 ((H18.take (2 * k)).map (fun x => ftxt (ob p x)), (H18.take (2 * k)).map (ob p), 0, ())) fun r => r = .inr () := by
  have hln : (H18.take (2 * k)).length = 2 * k := by
    rw [List.length_take]
    have : H18.length = 18 := rfl
    omega
  have hall : ∀ x ∈ H18.take (2 * k), vali x = 0 ∧ (reg [] x).2 = true ∧ x.length ≤ 10 := fun x hx => H_ok x (List.mem_of_mem_take hx)
  unfold passkeylaw24_OriginFew_L2
  refine Ok.iter (fun s => ∃ j : Nat, j ≤ 2 * k ∧ s = ((H18.take (2 * k)).map (fun x => ftxt (ob p x)), (H18.take (2 * k)).map (ob p), (j : Int), ())) (fun s => (2 * k - s.2.2.1).toNat) ⟨0, by omega, rfl⟩ (by rw [rounds_eq]; dsimp only; omega) ?_
  rintro _ ⟨j, hj, rfl⟩
  dsimp only
  unfold passkeylaw24_OriginFew_L2b
  by_cases hjk : j < 2 * k
  · have hlt : (j : Int) < (((H18.take (2 * k)).map (ob p)).length : Int) := by rw [List.length_map, hln]; omega
    have h0 : (0 : Int) ≤ (j : Int) := by omega
    have hg : ((H18.take (2 * k)).map (ob p))[(j : Int).toNat]? = some (ob p (H18.getD j [])) := by
      rw [Int.toNat_natCast, List.getElem?_map, List.getElem?_take, if_pos hjk, List.getD_eq_getElem?_getD]
      have : j < H18.length := by show j < 18; omega
      rw [List.getElem?_eq_getElem this]; rfl
    have hR := Related_ok [] (ob p (H18.getD j [])) ((H18.take (2 * k)).map (fun x => ftxt (ob p x))) (by rw [List.length_map, hln]; omega) (fun t ht => by
      obtain ⟨x, hx, rfl⟩ := List.mem_map.1 ht
      exact ftxt_len p hp (hall x hx).2.2)
    rw [rel_H p hp _ _ _ hall, H_rel k (by omega) j hjk] at hR
    simp only [hlt, h0, decide_true, cond_true, Bool.and_self, hg, bindS, hR]
    rw [wrap_id (by omega) (by omega)]
    have : (!(decide (outV (decide (j < 10)) = 0) == decide ((j : Int) < 10))) = false := by
      by_cases hq : j < 10
      · have : (j : Int) < 10 := by omega
        simp [hq, this, outV]
      · have : ¬ (j : Int) < 10 := by omega
        simp [hq, this, outV]
    rw [this]
    simp only [cond_false]
    exact Ok.some ⟨⟨j + 1, by omega, rfl⟩, by dsimp only; omega⟩
  · have : j = 2 * k := by omega
    subst this
    have hlt : ¬ ((2 * k : Nat) : Int) < (((H18.take (2 * k)).map (ob p)).length : Int) := by rw [List.length_map, hln]; omega
    simp only [hlt, decide_false, cond_false]
    exact Ok.some rfl
theorem OriginFew_plain (a0 a1 : UInt8) (hd : OriginFew_dom a0 a1) : Ok (passkeylaw24_OriginFew a0 a1) fun r => r.2.1 = true := by
  unfold passkeylaw24_OriginFew
  rw [show decide ((9 : UInt8).toBitVec = 0) = false by decide]
  simp only [cond_false]
  obtain ⟨m, hm, e1⟩ : ∃ m : Nat, m < 9 ∧ (UInt8.ofBitVec (a0.toBitVec % (9 : UInt8).toBitVec)).toBitVec.toNat = m := by
    refine ⟨_, ?_, rfl⟩
    show (a0.toBitVec % (9 : UInt8).toBitVec).toNat < 9
    rw [BitVec.toNat_umod]
    exact Nat.mod_lt _ (by decide)
  have hp : a1.toBitVec.toNat < 256 := a1.toBitVec.isLt
  rw [e1]
  rw [wrap_id (n := 1 + (m : Int)) (by omega) (by omega), wrap_id (n := 1000 + (a1.toBitVec.toNat : Int)) (by omega) (by omega), show (1 : Int) + (m : Int) = ((m + 1 : Nat) : Int) by omega]
  obtain ⟨r, e2, rfl⟩ := few_L0 (m + 1) (1000 + (a1.toBitVec.toNat : Int)) (by omega) (by omega)
  rw [e2]
  simp only [bindS, Sum.elim_inr]
  obtain ⟨r, e3, rfl⟩ := few_L2 (m + 1) (1000 + (a1.toBitVec.toNat : Int)) (by omega) (by omega)
  rw [e3]
  simp only [bindS, Sum.elim_inr]
  exact awakeOk
end Go.Proofs.YtjmaldfcmggblaaDoor

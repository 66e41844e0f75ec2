/- cbor: items read from bytes. No condition. -/
import Derived.Test.YtjedfmknnkimmaaDoorCborE
set_option linter.unusedVariables false
set_option linter.unusedSimpArgs false
set_option maxRecDepth 100000
namespace Go.Proofs.YtjedfmknnkimmaaDoor
open Go Go.Abs

/-! ### numbers in bytes -/
def bev : BitVec 64 → List UInt8 → BitVec 64
  | n, [] => n
  | n, c :: r => bev ((n <<< 8) ||| (BitVec.setWidth 64 c.toBitVec)) r
def nv : Nat → List UInt8 → Nat
  | v, [] => v
  | v, c :: r => nv (v * 256 + c.toNat) r
theorem nv_eq : ∀ (l : List UInt8) (v : Nat), nv v l = v * 256 ^ l.length + nv 0 l
  | [], v => by simp [nv]
  | c :: r, v => by
    have h1 := nv_eq r (v * 256 + c.toNat)
    have h2 := nv_eq r (0 * 256 + c.toNat)
    simp only [nv, List.length_cons]
    rw [h1, h2, Nat.pow_succ, Nat.add_mul, Nat.zero_mul, Nat.zero_add, Nat.mul_assoc, Nat.mul_comm 256, Nat.add_assoc]
theorem nv_lt : ∀ l : List UInt8, nv 0 l < 256 ^ l.length
  | [] => by simp [nv]
  | c :: r => by
    have h1 := nv_eq r (0 * 256 + c.toNat)
    have h2 := nv_lt r
    have h3 : c.toNat < 256 := c.toNat_lt
    simp only [nv, List.length_cons]
    rw [h1, Nat.zero_mul, Nat.zero_add, Nat.pow_succ]
    have : c.toNat * 256 ^ r.length ≤ 255 * 256 ^ r.length := Nat.mul_le_mul_right _ (by omega)
    omega
theorem nv_inj : ∀ (a b : List UInt8), a.length = b.length → nv 0 a = nv 0 b → a = b
  | [], [], _, _ => rfl
  | [], _ :: _, h, _ => by cases h
  | _ :: _, [], h, _ => by cases h
  | c :: r, d :: s, h, e => by
    have hl : r.length = s.length := by simpa using h
    have h1 := nv_eq r (0 * 256 + c.toNat)
    have h2 := nv_eq s (0 * 256 + d.toNat)
    simp only [nv] at e
    rw [h1, h2, Nat.zero_mul, Nat.zero_add, Nat.zero_add, hl] at e
    have l1 := nv_lt r
    have l2 := nv_lt s
    rw [hl] at l1
    have hc : c.toNat = d.toNat := by
      have e1 : (c.toNat * 256 ^ s.length + nv 0 r) / 256 ^ s.length = c.toNat := by
        rw [Nat.mul_comm, Nat.mul_add_div (by omega), Nat.div_eq_of_lt l1, Nat.add_zero]
      have e2 : (d.toNat * 256 ^ s.length + nv 0 s) / 256 ^ s.length = d.toNat := by
        rw [Nat.mul_comm, Nat.mul_add_div (by omega), Nat.div_eq_of_lt l2, Nat.add_zero]
      rw [← e1, ← e2, e]
    rw [hc] at e
    rw [UInt8.toNat_inj.1 hc, nv_inj r s hl (by omega)]
theorem byt_nat (n : BitVec 64) : (byt n).toNat = n.toNat % 256 := by
  unfold byt
  show (BitVec.setWidth 8 n).toNat = _
  rw [BitVec.toNat_setWidth]
theorem p256 (k : Nat) : 2 ^ (8 * k) = 256 ^ k := by rw [Nat.pow_mul]
theorem nv_beb (n : BitVec 64) : ∀ k, nv 0 (beb n k) = n.toNat % 256 ^ k
  | 0 => by simp [beb, nv, Nat.mod_one]
  | k + 1 => by
    have h1 := nv_eq (beb n k) (0 * 256 + (byt (n >>> (8 * k))).toNat)
    simp only [beb, nv]
    rw [h1, nv_beb n k, beb_len, byt_nat, BitVec.toNat_ushiftRight, Nat.shiftRight_eq_div_pow, p256, Nat.zero_mul, Nat.zero_add, Nat.pow_succ, Nat.mod_mul, Nat.mul_comm, Nat.add_comm]
theorem shl_or (n : BitVec 64) (c : UInt8) (h : n.toNat < 256 ^ 7) : ((n <<< 8) ||| (BitVec.setWidth 64 c.toBitVec)).toNat = n.toNat * 256 + c.toNat := by
  have hc : c.toNat < 256 := c.toNat_lt
  rw [BitVec.toNat_or, BitVec.toNat_shiftLeft, BitVec.toNat_setWidth, Nat.mod_eq_of_lt (a := n.toNat <<< 8) (by rw [Nat.shiftLeft_eq]; omega)]
  rw [show c.toBitVec.toNat = c.toNat from rfl, Nat.mod_eq_of_lt (a := c.toNat) (by omega), ← Nat.shiftLeft_add_eq_or_of_lt (by omega), Nat.shiftLeft_eq]
theorem bev_nat : ∀ (l : List UInt8) (n : BitVec 64) (j : Nat), n.toNat < 256 ^ j → j + l.length ≤ 8 → (bev n l).toNat = nv n.toNat l
  | [], n, j, _, _ => rfl
  | c :: r, n, j, h, hj => by
    simp only [List.length_cons] at hj
    have hc : c.toNat < 256 := c.toNat_lt
    have e := shl_or n c (Nat.lt_of_lt_of_le h (Nat.pow_le_pow_right (by omega) (by omega)))
    have := bev_nat r ((n <<< 8) ||| (BitVec.setWidth 64 c.toBitVec)) (j + 1) (by rw [e, Nat.pow_succ]; omega) (by omega)
    simp only [bev, nv]
    rw [this, e]
theorem bev0 (l : List UInt8) (hl : l.length ≤ 8) : (bev 0#64 l).toNat = nv 0 l := bev_nat l 0#64 0 (by simp) (by omega)
theorem bev_beb (n : BitVec 64) (k : Nat) (hk : k ≤ 8) (hn : n.toNat < 256 ^ k) : bev 0#64 (beb n k) = n := by
  apply BitVec.eq_of_toNat_eq
  rw [bev0 _ (by rw [beb_len]; exact hk), nv_beb, Nat.mod_eq_of_lt hn]
theorem beb_bev (l : List UInt8) (hl : l.length ≤ 8) : beb (bev 0#64 l) l.length = l := by
  apply nv_inj
  · rw [beb_len]
  · rw [nv_beb, bev0 l hl, Nat.mod_eq_of_lt (nv_lt l)]

/-! ### heads -/
/-- how many bytes a number takes. -/
def sho (n : BitVec 64) : Nat := bif decide (n.toNat < 24) then 0 else bif decide (n.toNat < 256) then 1 else bif decide (n.toNat < 65536) then 2 else bif decide (n.toNat < 4294967296) then 4 else 8
def isB (c : UInt8) : Bool := decide (c = 244) || decide (c = 245)
/-- error, kind, number, the rest -/
def hdB : List UInt8 → Int × Int × BitVec 64 × List UInt8
  | [] => (1, 0, 0#64, [])
  | c :: r => bif isB c then (0, 7, BitVec.ofNat 64 (c.toNat - 244), r) else bif decide (c = 246) then (0, 8, 0#64, r) else bif decide (5 < c.toNat / 32) || decide (27 < c.toNat % 32) then (2, 0, 0#64, []) else bif decide (c.toNat % 32 < 24) then (0, ((c.toNat / 32 : Nat) : Int) + 1, BitVec.ofNat 64 (c.toNat % 32), r) else bif decide (r.length < 2 ^ (c.toNat % 32 - 24)) then (1, 0, 0#64, []) else bif decide (sho (bev 0#64 (r.take (2 ^ (c.toNat % 32 - 24)))) < 2 ^ (c.toNat % 32 - 24)) then (2, 0, 0#64, []) else (0, ((c.toNat / 32 : Nat) : Int) + 1, bev 0#64 (r.take (2 ^ (c.toNat % 32 - 24))), r.drop (2 ^ (c.toNat % 32 - 24)))
def hdc (n : BitVec 64) : UInt8 := bif decide (n.toNat < 24) then byt n else bif decide (n.toNat < 256) then 24 else bif decide (n.toNat < 65536) then 25 else bif decide (n.toNat < 4294967296) then 26 else 27
theorem hdr_eq (m : UInt8) (n : BitVec 64) : hdr m n = (m + hdc n) :: beb n (sho n) := by
  unfold hdr hdc sho
  cases decide (n.toNat < 24) <;> cases decide (n.toNat < 256) <;> cases decide (n.toNat < 65536) <;> cases decide (n.toNat < 4294967296) <;> rfl
theorem sho_cases (n : BitVec 64) : (n.toNat < 24 ∧ sho n = 0 ∧ hdc n = byt n) ∨ (24 ≤ n.toNat ∧ ∃ j, j < 4 ∧ sho n = 2 ^ j ∧ hdc n = UInt8.ofNat (24 + j) ∧ n.toNat < 256 ^ (2 ^ j)) := by
  have hn := n.isLt
  unfold sho hdc
  by_cases h1 : n.toNat < 24
  · left; simp [h1]
  · right
    refine ⟨by omega, ?_⟩
    by_cases h2 : n.toNat < 256
    · exact ⟨0, by omega, by simp [h1, h2], by simp [h1, h2], by simpa using h2⟩
    · by_cases h3 : n.toNat < 65536
      · exact ⟨1, by omega, by simp [h1, h2, h3], by simp [h1, h2, h3], by simpa using h3⟩
      · by_cases h4 : n.toNat < 4294967296
        · exact ⟨2, by omega, by simp [h1, h2, h3, h4], by simp [h1, h2, h3, h4], by simpa using h4⟩
        · exact ⟨3, by omega, by simp [h1, h2, h3, h4], by simp [h1, h2, h3, h4], by simpa using hn⟩
theorem first_fin : ∀ (k : Fin 6) (j : Fin 28), isB (mj ((k.val : Int) + 1) + UInt8.ofNat j.val) = false ∧ ¬ (mj ((k.val : Int) + 1) + UInt8.ofNat j.val) = 246 ∧ (mj ((k.val : Int) + 1) + UInt8.ofNat j.val).toNat / 32 = k.val ∧ (mj ((k.val : Int) + 1) + UInt8.ofNat j.val).toNat % 32 = j.val := by decide +kernel
theorem first_ok {k : Int} (h1 : 1 ≤ k) (h2 : k ≤ 6) {j : Nat} (hj : j < 28) : isB (mj k + UInt8.ofNat j) = false ∧ ¬ (mj k + UInt8.ofNat j) = 246 ∧ (((mj k + UInt8.ofNat j).toNat / 32 : Nat) : Int) + 1 = k ∧ (mj k + UInt8.ofNat j).toNat % 32 = j := by
  obtain ⟨q, rfl⟩ : ∃ q : Nat, k = (q : Int) + 1 := ⟨(k - 1).toNat, by omega⟩
  obtain ⟨a, b, c, d⟩ := first_fin ⟨q, by omega⟩ ⟨j, hj⟩
  dsimp only at a b c d
  exact ⟨a, b, by rw [c], d⟩
theorem byt_small {n : BitVec 64} (h : n.toNat < 24) : byt n = UInt8.ofNat n.toNat := by
  apply UInt8.toNat_inj.1
  rw [byt_nat]
  simp
theorem hdB_hdr {k : Int} (h1 : 1 ≤ k) (h2 : k ≤ 6) (n : BitVec 64) (r : List UInt8) : hdB (hdr (mj k) n ++ r) = (0, k, n, r) := by
  rw [hdr_eq, List.cons_append]
  rcases sho_cases n with ⟨a, b, c⟩ | ⟨a, j, hj, b, c, d⟩
  · rw [b, c, byt_small a]
    obtain ⟨f1, f2, f3, f4⟩ := first_ok h1 h2 (j := n.toNat) (by omega)
    simp only [hdB]
    rw [f1, f4, f3, show decide (_ = (246 : UInt8)) = false from decide_eq_false f2, show decide (5 < (mj k + UInt8.ofNat n.toNat).toNat / 32) = false from decide_eq_false (by omega), show decide (27 < n.toNat) = false from decide_eq_false (by omega), show decide (n.toNat < 24) = true from decide_eq_true a]
    simp [beb]
  · rw [b, c]
    obtain ⟨f1, f2, f3, f4⟩ := first_ok h1 h2 (j := 24 + j) (by omega)
    have hj8 : 2 ^ j ≤ 8 := Nat.le_trans (Nat.pow_le_pow_right (by omega) (show j ≤ 3 by omega)) (by omega)
    simp only [hdB]
    have et : (beb n (2 ^ j) ++ r).take (2 ^ j) = beb n (2 ^ j) := by
      rw [List.take_append_of_le_length (by rw [beb_len]; omega), List.take_of_length_le (by rw [beb_len]; omega)]
    have ed : (beb n (2 ^ j) ++ r).drop (2 ^ j) = r := by
      have := List.drop_left (l₁ := beb n (2 ^ j)) (l₂ := r)
      rwa [beb_len] at this
    rw [f1, f4, f3, show decide (_ = (246 : UInt8)) = false from decide_eq_false f2, show decide (5 < (mj k + UInt8.ofNat (24 + j)).toNat / 32) = false from decide_eq_false (by omega), show decide (27 < 24 + j) = false from decide_eq_false (by omega), show decide (24 + j < 24) = false from decide_eq_false (by omega), show 24 + j - 24 = j by omega, et, ed, bev_beb n _ hj8 d, b, show decide ((beb n (2 ^ j) ++ r).length < 2 ^ j) = false from decide_eq_false (by rw [List.length_append, beb_len]; omega), show decide (2 ^ j < 2 ^ j) = false from decide_eq_false (by omega)]
    rfl
theorem hdB_cut {k : Int} (h1 : 1 ≤ k) (h2 : k ≤ 6) (n : BitVec 64) (p q : List UInt8) (hp : p ++ q = hdr (mj k) n) (hq : q ≠ []) : (hdB p).1 = 1 := by
  cases p with
  | nil => rfl
  | cons c p =>
    rw [hdr_eq, List.cons_append] at hp
    obtain ⟨hc, hp⟩ := List.cons.inj hp
    have hl := congrArg List.length hp
    have hq0 : 0 < q.length := List.length_pos_iff.2 hq
    rw [List.length_append, beb_len] at hl
    rcases sho_cases n with ⟨a, b, e⟩ | ⟨a, j, hj, b, e, d⟩
    · rw [b] at hl; omega
    · rw [b] at hl
      rw [hc, e]
      obtain ⟨f1, f2, f3, f4⟩ := first_ok h1 h2 (j := 24 + j) (by omega)
      simp only [hdB]
      rw [f1, f4, f3, show decide (_ = (246 : UInt8)) = false from decide_eq_false f2, show decide (5 < (mj k + UInt8.ofNat (24 + j)).toNat / 32) = false from decide_eq_false (by omega), show decide (27 < 24 + j) = false from decide_eq_false (by omega), show decide (24 + j < 24) = false from decide_eq_false (by omega), show 24 + j - 24 = j by omega, show decide (p.length < 2 ^ j) = true from decide_eq_true (by omega)]
      rfl
theorem back_fin : ∀ c : Fin 256, c.val / 32 ≤ 5 → c.val % 32 ≤ 27 → UInt8.ofNat c.val = mj ((c.val / 32 : Nat) + 1) + UInt8.ofNat (c.val % 32) := by decide +kernel
theorem hdB_back {s : List UInt8} {k : Int} {n : BitVec 64} {t : List UInt8} (h : hdB s = (0, k, n, t)) : (1 ≤ k ∧ k ≤ 6 ∧ s = hdr (mj k) n ++ t) ∨ (k = 7 ∧ n.toNat ≤ 1 ∧ s = (244 + byt n) :: t) ∨ (k = 8 ∧ n = 0#64 ∧ s = 246 :: t) := by
  cases s with
  | nil => simp [hdB] at h
  | cons c r =>
    simp only [hdB] at h
    cases hb : isB c
    · rw [hb] at h
      simp only [cond_false] at h
      by_cases h6 : c = 246
      · rw [show decide (c = 246) = true from decide_eq_true h6] at h
        simp only [cond_true, Prod.mk.injEq] at h
        right; right
        exact ⟨h.2.1.symm, h.2.2.1.symm, by rw [h6, h.2.2.2]⟩
      · rw [show decide (c = 246) = false from decide_eq_false h6] at h
        simp only [cond_false] at h
        cases h7 : (decide (5 < c.toNat / 32) || decide (27 < c.toNat % 32))
        · rw [h7] at h
          simp only [cond_false] at h
          simp only [Bool.or_eq_false_iff, decide_eq_false_iff_not, Nat.not_lt] at h7
          have hcl : c.toNat < 256 := c.toNat_lt
          have hc := back_fin ⟨c.toNat, hcl⟩ h7.1 h7.2
          dsimp only at hc
          rw [UInt8.ofNat_toNat] at hc
          left
          by_cases h8 : c.toNat % 32 < 24
          · rw [show decide (c.toNat % 32 < 24) = true from decide_eq_true h8] at h
            simp only [cond_true, Prod.mk.injEq, true_and] at h
            obtain ⟨e1, e2, e3⟩ := h
            have en : n.toNat = c.toNat % 32 := by rw [← e2, BitVec.toNat_ofNat, Nat.mod_eq_of_lt (by omega)]
            refine ⟨by omega, by omega, ?_⟩
            rw [hdr_eq, e3]
            rcases sho_cases n with ⟨a, b, d⟩ | ⟨a, _⟩
            · rw [b, d, byt_small a, en, ← e1, ← hc]
              rfl
            · omega
          · rw [show decide (c.toNat % 32 < 24) = false from decide_eq_false h8] at h
            simp only [cond_false] at h
            generalize hz : c.toNat % 32 - 24 = z at h
            have hz3 : z ≤ 3 := by omega
            have hz8 : 2 ^ z ≤ 8 := Nat.le_trans (Nat.pow_le_pow_right (by omega) hz3) (by omega)
            by_cases h9 : r.length < 2 ^ z
            · rw [show decide (r.length < 2 ^ z) = true from decide_eq_true h9] at h
              simp at h
            · rw [show decide (r.length < 2 ^ z) = false from decide_eq_false h9] at h
              simp only [cond_false] at h
              by_cases h10 : sho (bev 0#64 (r.take (2 ^ z))) < 2 ^ z
              · rw [show decide (sho (bev 0#64 (r.take (2 ^ z))) < 2 ^ z) = true from decide_eq_true h10] at h
                simp at h
              · rw [show decide (sho (bev 0#64 (r.take (2 ^ z))) < 2 ^ z) = false from decide_eq_false h10] at h
                simp only [cond_false, Prod.mk.injEq, true_and] at h
                obtain ⟨e1, e2, e3⟩ := h
                have hlen : (r.take (2 ^ z)).length = 2 ^ z := by rw [List.length_take]; omega
                have hbb := beb_bev (r.take (2 ^ z)) (by omega)
                have hnn := bev0 (r.take (2 ^ z)) (by omega)
                have hlt := nv_lt (r.take (2 ^ z))
                rw [e2] at hbb hnn h10
                rw [hlen] at hbb hlt
                rw [← hnn] at hlt
                refine ⟨by omega, by omega, ?_⟩
                rw [hdr_eq]
                have hz1 : 1 ≤ 2 ^ z := Nat.one_le_two_pow
                rcases sho_cases n with ⟨a, b, d⟩ | ⟨a, j, hj, b, d, f⟩
                · omega
                · -- the number takes exactly these bytes
                  have hjz : j = z := by
                    have h1 : z ≤ j := by
                      rw [b] at h10
                      exact (Nat.pow_le_pow_iff_right (a := 2) (by omega)).1 (by omega)
                    have h2 : ¬ z < j := by
                      intro hlt2
                      have hs : sho n ≤ 2 ^ z := by
                        unfold sho
                        have hh : n.toNat < 256 ^ 2 ^ z := hlt
                        have hz4 : z = 0 ∨ z = 1 ∨ z = 2 := by omega
                        rcases hz4 with rfl | rfl | rfl
                        · have : n.toNat < 256 := by simpa using hh
                          cases decide (n.toNat < 24) <;> simp [this]
                        · have : n.toNat < 65536 := by simpa using hh
                          cases decide (n.toNat < 24) <;> cases decide (n.toNat < 256) <;> simp [this]
                        · have : n.toNat < 4294967296 := by simpa using hh
                          cases decide (n.toNat < 24) <;> cases decide (n.toNat < 256) <;> cases decide (n.toNat < 65536) <;> simp [this]
                      rw [b] at hs
                      have := (Nat.pow_le_pow_iff_right (a := 2) (by omega)).1 hs
                      omega
                    omega
                  subst hjz
                  rw [b, d, hbb, ← e3, ← e1, show 24 + j = c.toNat % 32 by omega, ← hc, List.cons_append, List.take_append_drop]
        · rw [h7] at h
          simp at h
    · rw [hb] at h
      simp only [cond_true, Prod.mk.injEq, true_and] at h
      obtain ⟨e1, e2, e3⟩ := h
      right; left
      unfold isB at hb
      simp only [Bool.or_eq_true, decide_eq_true_eq] at hb
      rcases hb with rfl | rfl
      · refine ⟨e1.symm, ?_, ?_⟩
        · rw [← e2]; decide
        · rw [← e2, e3]; rfl
      · refine ⟨e1.symm, ?_, ?_⟩
        · rw [← e2]; decide
        · rw [← e2, e3]; rfl
end Go.Proofs.YtjedfmknnkimmaaDoor

/- Out of the texts of another seat of this chapter: what the law CredentialKeys needs of validity. Written by a program. -/
import Derived.Test.YteenkpgjcbhonaaGreatDoorFns
import Derived.Test.YteenkpgjcbhonaaGreatDoorLib8
set_option linter.unusedVariables false
set_option linter.unusedSimpArgs false
set_option maxRecDepth 100000
namespace Go.Proofs.YteenkpgjcbhonaaGreatDoor
open Go Go.Abs
theorem ble_of {a b : Nat} (h : a ≤ b) : Nat.ble a b = true := Eq.mpr Nat.ble_eq h
theorem ValidString_ok {l : List UInt8} (h : l.length < 1000000) : utf8_ValidString l = some ((), Lib.validD l, ()) := by
  unfold utf8_ValidString
  rw [show decide (l.length ≤ 9223372036854775807) = true by simp; omega]
  rfl
theorem mask (a : Int) (m : Nat) (hm : m < 10000000) : ∃ k : Nat, k ≤ m ∧ IntKind.wrap .i64 ((BitVec.ofInt (IntKind.bits .i64) a &&& BitVec.ofInt (IntKind.bits .i64) (m : Int)).toNat : Int) = (k : Int) := by
  have e : (BitVec.ofInt 64 (m : Int)).toNat = m := by rw [BitVec.ofInt_natCast, BitVec.toNat_ofNat, Nat.mod_eq_of_lt (by omega)]
  have h : (BitVec.ofInt 64 a &&& BitVec.ofInt 64 (m : Int)).toNat ≤ m := by
    rw [BitVec.toNat_and, e]; exact Nat.and_le_right
  refine ⟨_, h, ?_⟩
  show IntKind.wrap .i64 ((BitVec.ofInt 64 a &&& BitVec.ofInt 64 (m : Int)).toNat : Int) = _
  exact wrap_id (by omega) (by omega)
def words : List (List UInt8) := [([] : List UInt8), ([97] : List UInt8), ([98] : List UInt8), ([108, 111, 103, 105, 110] : List UInt8), ([107, 101, 121] : List UInt8), ([101, 120, 97, 109, 112, 108, 101, 46, 111, 114, 103] : List UInt8), ([195, 169] : List UInt8), ([48, 49, 50, 51, 52, 53, 54, 55, 56, 57, 48, 49, 50, 51, 52, 53] : List UInt8)]
theorem words_len : ∀ a : Fin 8, (words[a.val]'(by have := a.isLt; simp only [words, List.length_cons, List.length_nil]; omega)).length ≤ 16 := by decide
theorem Text_ok (n : Int) : ∃ a b : Fin 8, passkeybase_Text n = some ((), words.getD a.val [] ++ words.getD b.val [], ()) := by
  obtain ⟨a, ha, ea⟩ := mask n 7 (by omega)
  obtain ⟨b, hb, eb⟩ := mask (Int.fdiv n (2 ^ (min 3 (IntKind.bits .i64)))) 7 (by omega)
  refine ⟨⟨a, by omega⟩, ⟨b, by omega⟩, ?_⟩
  unfold passkeybase_Text
  dsimp only
  rw [show ((7 : Nat) : Int) = 7 from rfl] at ea eb
  rw [ea, eb]
  rw [show (decide ((0 : Int) ≤ (a : Int)) && decide ((a : Int) < 8)) = true by simp; omega, show (decide ((0 : Int) ≤ (b : Int)) && decide ((b : Int) < 8)) = true by simp; omega, Int.toNat_natCast, Int.toNat_natCast]
  have w8 : ∀ c : Nat, c ≤ 7 → ∃ w, words[c]? = some w ∧ w.length ≤ 16 := by
    intro c hc
    have : c < words.length := by simp [words]; omega
    exact ⟨words[c], by simp [this], words_len ⟨c, by omega⟩⟩
  obtain ⟨wa, qa, la⟩ := w8 a ha
  obtain ⟨wb, qb, lb⟩ := w8 b hb
  have qa' : ([([] : List UInt8), ([97] : List UInt8), ([98] : List UInt8), ([108, 111, 103, 105, 110] : List UInt8), ([107, 101, 121] : List UInt8), ([101, 120, 97, 109, 112, 108, 101, 46, 111, 114, 103] : List UInt8), ([195, 169] : List UInt8), ([48, 49, 50, 51, 52, 53, 54, 55, 56, 57, 48, 49, 50, 51, 52, 53] : List UInt8)] : List (List UInt8))[a]? = some wa := qa
  have qb' : ([([] : List UInt8), ([97] : List UInt8), ([98] : List UInt8), ([108, 111, 103, 105, 110] : List UInt8), ([107, 101, 121] : List UInt8), ([101, 120, 97, 109, 112, 108, 101, 46, 111, 114, 103] : List UInt8), ([195, 169] : List UInt8), ([48, 49, 50, 51, 52, 53, 54, 55, 56, 57, 48, 49, 50, 51, 52, 53] : List UInt8)] : List (List UInt8))[b]? = some wb := qb
  rw [qa', qb']
  simp only [cond_true, bindS]
  rw [ble_of (by omega), List.getD_eq_getElem?_getD, List.getD_eq_getElem?_getD, qa, qb]
  rfl
theorem text_valid : ∀ a b : Fin 8, Lib.validD (words.getD a.val [] ++ words.getD b.val []) = true ∧ (words.getD a.val [] ++ words.getD b.val []).length ≤ 32 := by decide +kernel
def rngC (c : ApiCredential) : Bool := (decide ((1 : Int) ≤ (c.rP.length : Int)) && decide ((c.rP.length : Int) ≤ 64)) && ((decide ((1 : Int) ≤ (c.user.length : Int)) && decide ((c.user.length : Int) ≤ 16)) && (!decide ((32 : Int) < (c.name.length : Int)) && ((decide ((1 : Int) ≤ c.height) && decide (c.height ≤ 4)) && (decide ((1 : Int) ≤ c.protect) && decide (c.protect ≤ 3)))))
def valC (c : ApiCredential) : Int := bif rngC c then (bif Lib.validD c.rP && Lib.validD c.name then (bif (c.shared && !c.resident) || (c.backed && !c.shared) then 18 else 0) else 6) else 9
theorem cValidate_ok (c : ApiCredential) (h1 : c.rP.length < 1000000) (h2 : c.name.length < 1000000) : credential_Validate c = some ((), valC c, ()) := by
  obtain ⟨rp, us, nm, sd, ht, rs, pr, sh, bk⟩ := c
  dsimp only at h1 h2
  unfold credential_Validate valC rngC credential_within
  simp only [ValidString_ok h1, ValidString_ok h2]
  generalize decide ((1 : Int) ≤ (rp.length : Int)) = b1
  generalize decide ((rp.length : Int) ≤ 64) = b2
  generalize decide ((1 : Int) ≤ (us.length : Int)) = b3
  generalize decide ((us.length : Int) ≤ 16) = b4
  generalize decide ((32 : Int) < (nm.length : Int)) = b5
  generalize decide ((1 : Int) ≤ ht) = b6
  generalize decide (ht ≤ 4) = b7
  generalize decide ((1 : Int) ≤ pr) = b8
  generalize decide (pr ≤ 3) = b9
  generalize Lib.validD rp = v1
  generalize Lib.validD nm = v2
  cases b1
  · rfl
  cases b2
  · rfl
  cases b3
  · rfl
  cases b4
  · rfl
  cases b5
  case true => rfl
  cases b6
  · rfl
  cases b7
  · rfl
  cases b8
  · rfl
  cases b9
  · rfl
  cases v1
  · rfl
  cases v2
  · rfl
  cases sh <;> cases rs <;> cases bk <;> rfl
theorem rValidateC_ok (c : ApiCredential) (h1 : c.rP.length < 1000000) (h2 : c.name.length < 1000000) : passkeyref14_ValidateCredential c = some ((), valC c, ()) := by
  obtain ⟨rp, us, nm, sd, ht, rs, pr, sh, bk⟩ := c
  dsimp only at h1 h2
  unfold passkeyref14_ValidateCredential valC rngC passkeyref14_within
  simp only [ValidString_ok h1, ValidString_ok h2]
  generalize decide ((1 : Int) ≤ (rp.length : Int)) = b1
  generalize decide ((rp.length : Int) ≤ 64) = b2
  generalize decide ((1 : Int) ≤ (us.length : Int)) = b3
  generalize decide ((us.length : Int) ≤ 16) = b4
  generalize decide ((32 : Int) < (nm.length : Int)) = b5
  generalize decide ((1 : Int) ≤ ht) = b6
  generalize decide (ht ≤ 4) = b7
  generalize decide ((1 : Int) ≤ pr) = b8
  generalize decide (pr ≤ 3) = b9
  generalize Lib.validD rp = v1
  generalize Lib.validD nm = v2
  cases b1
  · rfl
  cases b2
  · rfl
  cases b3
  · rfl
  cases b4
  · rfl
  cases b5
  case true => rfl
  cases b6
  · rfl
  cases b7
  · rfl
  cases b8
  · rfl
  cases b9
  · rfl
  cases v1
  · rfl
  cases v2
  · rfl
  cases sh <;> cases rs <;> cases bk <;> rfl
structure OkC (c : ApiCredential) : Prop where
  rp1 : 1 ≤ c.rP.length
  rp : c.rP.length ≤ 64
  us1 : 1 ≤ c.user.length
  us : c.user.length ≤ 16
  nm : c.name.length ≤ 32
  ht1 : 1 ≤ c.height
  ht : c.height ≤ 4
  pr1 : 1 ≤ c.protect
  pr : c.protect ≤ 3
  vr : Lib.validD c.rP = true
  vn : Lib.validD c.name = true
theorem valC_zero {c : ApiCredential} (h : valC c = 0) : OkC c := by
  unfold valC at h
  cases hr : rngC c with
  | false => rw [hr] at h; cases h
  | true =>
    rw [hr, cond_true] at h
    cases hv : (Lib.validD c.rP && Lib.validD c.name) with
    | false => rw [hv] at h; cases h
    | true =>
      unfold rngC at hr
      simp only [Bool.and_eq_true, decide_eq_true_eq, Bool.not_eq_true', decide_eq_false_iff_not] at hr hv
      obtain ⟨⟨a1, a2⟩, ⟨a3, a4⟩, a5, ⟨a6, a7⟩, a8, a9⟩ := hr
      exact ⟨by omega, by omega, by omega, by omega, by omega, a6, a7, a8, a9, hv.1, hv.2⟩
theorem awakeC_ok : passkeylaw15_awake = some ((), true, ()) := by kernel_rfl
theorem awakeC : Ok (passkeylaw15_awake.bind fun r => some ((), (r.2.1, ()))) fun r => r.2.1 = true := by
  rw [awakeC_ok]; exact ⟨_, rfl, rfl⟩
theorem tmod3 (k : Nat) : ∃ j : Nat, j < 3 ∧ Int.tmod (k : Int) 3 = (j : Int) := ⟨k % 3, Nat.mod_lt _ (by omega), by rw [Int.tmod_eq_emod_of_nonneg (by omega)]; omega⟩
theorem three {j : Nat} (h : j < 3) : j = 0 ∨ j = 1 ∨ j = 2 := by omega
theorem RP_ok (n : Int) : ∃ l, passkeybase_RP n = some ((), l, ()) ∧ 1 ≤ l.length ∧ l.length ≤ 64 ∧ Lib.validD l = true := by
  obtain ⟨k, hk, e⟩ := mask n 65535 (by omega)
  obtain ⟨j, hj, ej⟩ := tmod3 k
  unfold passkeybase_RP
  dsimp only
  rw [show ((65535 : Nat) : Int) = (65535 : Int) from rfl] at e
  rw [e, ej]
  rcases three hj with rfl | rfl | rfl
  · exact ⟨_, rfl, by decide, by decide, by decide +kernel⟩
  · exact ⟨_, rfl, by decide, by decide, by decide +kernel⟩
  · exact ⟨_, rfl, by decide, by decide, by decide +kernel⟩
theorem User_ok (n : Int) : ∃ l, passkeybase_User n = some ((), l, ()) ∧ 1 ≤ l.length ∧ l.length ≤ 16 := by
  obtain ⟨k, hk, e⟩ := mask n 65535 (by omega)
  obtain ⟨j, hj, ej⟩ := tmod3 k
  unfold passkeybase_User
  dsimp only
  rw [show ((65535 : Nat) : Int) = (65535 : Int) from rfl] at e
  rw [e, ej]
  rcases three hj with rfl | rfl | rfl
  · exact ⟨_, rfl, by decide, by decide⟩
  · exact ⟨_, rfl, by decide, by decide⟩
  · exact ⟨_, rfl, by decide, by decide⟩
theorem valC_of {c : ApiCredential} (h : OkC c) (h1 : c.shared = true → c.resident = true) (h2 : c.backed = true → c.shared = true) : valC c = 0 := by
  have hr : rngC c = true := by
    have a1 := h.rp1
    have a2 := h.rp
    have a3 := h.us1
    have a4 := h.us
    have a5 := h.nm
    unfold rngC
    rw [decide_eq_true (by omega : (1 : Int) ≤ (c.rP.length : Int)), decide_eq_true (by omega : (c.rP.length : Int) ≤ 64), decide_eq_true (by omega : (1 : Int) ≤ (c.user.length : Int)), decide_eq_true (by omega : (c.user.length : Int) ≤ 16), decide_eq_false (by omega : ¬ (32 : Int) < (c.name.length : Int)), decide_eq_true h.ht1, decide_eq_true h.ht, decide_eq_true h.pr1, decide_eq_true h.pr]
    rfl
  unfold valC
  rw [hr, h.vr, h.vn]
  cases hs : c.shared with
  | true => rw [h1 hs]; cases c.backed <;> rfl
  | false =>
    cases hb : c.backed with
    | true => rw [h2 hb] at hs; cases hs
    | false => rfl
theorem Cred_ok (k : Nat) (hk : k ≤ 1048575) : Ok (passkeybase_Credential (k : Int)) fun r => valC r.2.1 = 0 := by
  unfold passkeybase_Credential
  obtain ⟨rp, e1, r1, r2, r3⟩ := RP_ok (k : Int)
  rw [e1]
  dsimp only [Option.bind]
  obtain ⟨us, e2, u1, u2⟩ := User_ok (Int.fdiv (k : Int) (2 ^ (min 2 (IntKind.bits .i64))))
  rw [e2]
  dsimp only [Option.bind]
  obtain ⟨a, b, e3⟩ := Text_ok (Int.fdiv (k : Int) (2 ^ (min 4 (IntKind.bits .i64))))
  rw [e3]
  dsimp only [Option.bind]
  obtain ⟨t1, t2⟩ := text_valid a b
  obtain ⟨k1, hk1, m1⟩ := mask (Int.fdiv (k : Int) (2 ^ (min 3 (IntKind.bits .i64)))) 1 (by omega)
  obtain ⟨k2, hk2, m2⟩ := mask (Int.fdiv (k : Int) (2 ^ (min 7 (IntKind.bits .i64)))) 1 (by omega)
  obtain ⟨k3, hk3, m3⟩ := mask (Int.fdiv (k : Int) (2 ^ (min 8 (IntKind.bits .i64)))) 1 (by omega)
  obtain ⟨k4, hk4, m4⟩ := mask (Int.fdiv (k : Int) (2 ^ (min 9 (IntKind.bits .i64)))) 1 (by omega)
  rw [show ((1 : Nat) : Int) = (1 : Int) from rfl] at m1 m2 m3 m4
  rw [m1, m2, m3, m4]
  have e5 : Int.fdiv (k : Int) (2 ^ (min 5 (IntKind.bits .i64))) = ((k / 32 : Nat) : Int) := by
    rw [show (2 : Int) ^ (min 5 (IntKind.bits .i64)) = 32 from rfl, Int.fdiv_eq_ediv_of_nonneg _ (by omega)]
    omega
  rw [e5]
  obtain ⟨j, hj, ej⟩ := tmod3 (k / 32)
  rw [ej]
  have w1 : IntKind.wrap .i64 ((1 : Int) + (k1 : Int)) = 1 + (k1 : Int) := wrap_id (by omega) (by omega)
  have w2 : IntKind.wrap .i64 ((1 : Int) + (j : Int)) = 1 + (j : Int) := wrap_id (by omega) (by omega)
  rw [w1, w2]
  have H : ∀ (s : BitVec 64) (q1 q2 q3 : Bool), OkC ⟨rp, us, words.getD a.val [] ++ words.getD b.val [], s, 1 + (k1 : Int), q1, 1 + (j : Int), q2, q3⟩ := fun s q1 q2 q3 =>
    ⟨r1, r2, u1, u2, t2, by dsimp only; omega, by dsimp only; omega, by dsimp only; omega, by dsimp only; omega, r3, t1⟩
  cases h2 : decide ((k2 : Int) = 1) with
  | false => exact Ok.some (valC_of (H _ _ _ _) (fun h => by cases h) (fun h => by cases h))
  | true =>
    simp only [cond_true]
    cases h3 : decide ((k3 : Int) = 1) with
    | false => exact Ok.some (valC_of (H _ _ _ _) (fun h => by cases h) (fun h => by cases h))
    | true => exact Ok.some (valC_of (H _ _ _ _) (fun h => rfl) (fun h => rfl))
theorem four {j : Nat} (h : j ≤ 3) : j = 0 ∨ j = 1 ∨ j = 2 ∨ j = 3 := by omega
theorem spoilC_ok (c : ApiCredential) (n : Int) (h1 : c.rP.length ≤ 100) (h2 : c.name.length ≤ 100) : Ok (passkeylaw15_spoil c n) fun r => r.2.1.rP.length ≤ 100 ∧ r.2.1.name.length ≤ 100 := by
  obtain ⟨k1, hk1, m1⟩ := mask (Int.fdiv n (2 ^ (min 4 (IntKind.bits .i64)))) 65535 (by omega)
  obtain ⟨k2, hk2, m2⟩ := mask n 15 (by omega)
  obtain ⟨k3, hk3, m3⟩ := mask (k1 : Int) 3 (by omega)
  obtain ⟨k7, hk7, m7⟩ := mask (k1 : Int) 7 (by omega)
  rw [show ((65535 : Nat) : Int) = (65535 : Int) from rfl] at m1
  rw [show ((15 : Nat) : Int) = (15 : Int) from rfl] at m2
  rw [show ((3 : Nat) : Int) = (3 : Int) from rfl] at m3
  rw [show ((7 : Nat) : Int) = (7 : Int) from rfl] at m7
  unfold passkeylaw15_spoil
  rw [m1, m2]
  dsimp only
  rw [m3, m7]
  have hl : ∀ j, j ≤ 3 → j = 0 ∨ j = 1 ∨ j = 2 ∨ j = 3 := fun j h => four h
  refine Ok.cond (fun _ => ?_) fun _ => Ok.cond (fun _ => ?_) fun _ => Ok.cond (fun _ => ?_) fun _ => Ok.cond (fun _ => ⟨_, rfl, h1, h2⟩) fun _ => Ok.cond (fun _ => ⟨_, rfl, h1, h2⟩) fun _ => Ok.cond (fun _ => ⟨_, rfl, h1, h2⟩) fun _ => Ok.cond (fun _ => ⟨_, rfl, h1, h2⟩) fun _ => Ok.cond (fun _ => ⟨_, rfl, h1, h2⟩) fun _ => ⟨_, rfl, h1, h2⟩
  · rcases four hk3 with rfl | rfl | rfl | rfl
    · exact ⟨_, rfl, by dsimp only; decide, h2⟩
    · exact ⟨_, rfl, by dsimp only; decide, h2⟩
    · exact ⟨_, rfl, by dsimp only; decide, h2⟩
    · exact ⟨_, rfl, by dsimp only; decide, h2⟩
  · rcases four hk3 with rfl | rfl | rfl | rfl
    · exact ⟨_, rfl, h1, h2⟩
    · exact ⟨_, rfl, h1, h2⟩
    · exact ⟨_, rfl, h1, h2⟩
    · exact ⟨_, rfl, h1, h2⟩
  · rcases four hk3 with rfl | rfl | rfl | rfl
    · exact ⟨_, rfl, h1, by dsimp only; decide⟩
    · exact ⟨_, rfl, h1, by dsimp only; decide⟩
    · exact ⟨_, rfl, h1, by dsimp only; decide⟩
    · exact ⟨_, rfl, h1, by dsimp only; decide⟩
end Go.Proofs.YteenkpgjcbhonaaGreatDoor

/- The law PinWeak, plainly: which PINs are allowed. -/
import Derived.Test.YtlbafgkhnhkanaaDoorWFns
import Derived.Test.YtlbafgkhnhkanaaDoorTyZc
set_option linter.unusedVariables false
set_option maxRecDepth 100000
namespace Go.Proofs.YtlbafgkhnhkanaaDoor
open Go Go.Abs

theorem awake_ok : passkeylaw11_awake = some ((), true, ()) := by kernel_rfl

/-! ### runes -/
theorem size_BA (s : List UInt8) : (⟨s.toArray⟩ : ByteArray).size = s.length := List.size_toArray
theorem dec_w (B : ByteArray) (p : Nat) : 1 ≤ (Utf8.decode B p).2 := by
  unfold Utf8.decode
  simp only []
  repeat' split
  all_goals simp
theorem dec_le (B : ByteArray) (p : Nat) : (Utf8.decode B p).2 ≤ 4 := by
  unfold Utf8.decode
  simp only []
  repeat' split
  all_goals simp
theorem dec_cont (B : ByteArray) (p k : Nat) (h1 : 1 ≤ k) (h2 : k < (Utf8.decode B p).2) : (B.get! (p + k)).toNat / 64 = 2 := by
  unfold Utf8.decode at h2
  simp only [] at h2
  split at h2
  · simp at h2; omega
  · split at h2
    · rename_i hc
      simp only [Bool.and_eq_true, beq_iff_eq, decide_eq_true_eq] at hc
      split at h2
      · simp only at h2
        obtain rfl : k = 1 := by omega
        exact hc.2.2
      · simp at h2; omega
    · split at h2
      · rename_i hc
        simp only [Bool.and_eq_true, beq_iff_eq, decide_eq_true_eq] at hc
        split at h2
        · simp only at h2
          rcases (show k = 1 ∨ k = 2 by omega) with rfl | rfl
          · exact hc.1.2.2
          · exact hc.2.2
        · simp at h2; omega
      · split at h2
        · rename_i hc
          simp only [Bool.and_eq_true, beq_iff_eq, decide_eq_true_eq] at hc
          split at h2
          · simp only at h2
            rcases (show k = 1 ∨ k = 2 ∨ k = 3 by omega) with rfl | rfl | rfl
            · exact hc.1.1.2.2
            · exact hc.1.2.2
            · exact hc.2.2
          · simp at h2; omega
        · simp at h2; omega
theorem dec_zero (B : ByteArray) (p : Nat) (h : (Utf8.decode B p).1 = 0) : (B.get! p).toNat = 0 := by
  unfold Utf8.decode at h
  simp only [] at h
  split at h
  · simpa using h
  · split at h
    · split at h
      · simp only at h; omega
      · simp [Utf8.runeError] at h
    · split at h
      · split at h
        · rename_i hc
          simp only [Bool.and_eq_true, decide_eq_true_eq] at hc
          simp only at h; omega
        · simp [Utf8.runeError] at h
      · split at h
        · split at h
          · rename_i hc
            simp only [Bool.and_eq_true, decide_eq_true_eq] at hc
            simp only at h; omega
          · simp [Utf8.runeError] at h
        · simp [Utf8.runeError] at h
theorem dec_z (B : ByteArray) (p : Nat) (h : (B.get! p).toNat = 0) : Utf8.decode B p = (0, 1) := by
  unfold Utf8.decode
  simp [h]

def runesF (B : ByteArray) : Nat → Nat → List Nat
  | 0, _ => []
  | f + 1, p => if p < B.size then (Utf8.decode B p).1 :: runesF B f (p + (Utf8.decode B p).2) else []
theorem runes_fuel (B : ByteArray) : ∀ (f g p : Nat), B.size - p ≤ f → B.size - p ≤ g → runesF B f p = runesF B g p
  | 0, 0, p, _, _ => rfl
  | 0, g + 1, p, h1, h2 => by
    unfold runesF
    rw [if_neg (by omega)]
  | f + 1, 0, p, h1, h2 => by
    unfold runesF
    rw [if_neg (by omega)]
  | f + 1, g + 1, p, h1, h2 => by
    unfold runesF
    have := dec_w B p
    split
    · rw [runes_fuel B f g _ (by omega) (by omega)]
    · rfl
def runes (B : ByteArray) (p : Nat) : List Nat := runesF B B.size p
theorem runes_step (B : ByteArray) (p : Nat) (h : p < B.size) : runes B p = (Utf8.decode B p).1 :: runes B (p + (Utf8.decode B p).2) := by
  have := dec_w B p
  unfold runes
  rw [runes_fuel B B.size (B.size + 1) p (by omega) (by omega)]
  show (if p < B.size then _ else _) = _
  rw [if_pos h]
theorem runes_end (B : ByteArray) (p : Nat) (h : ¬ p < B.size) : runes B p = [] := by
  unfold runes
  cases B.size with
  | zero => rfl
  | succ n =>
    unfold runesF
    split
    · omega
    · rfl
theorem count_runes (B : ByteArray) : ∀ (f p : Nat), Lib.runeCountFrom B f p = (runesF B f p).length
  | 0, p => rfl
  | f + 1, p => by
    unfold Lib.runeCountFrom runesF
    split
    · rw [count_runes B f, List.length_cons]; omega
    · rfl

theorem zero_in (B : ByteArray) (q : Nat) (hq : q < B.size) (hz : (B.get! q).toNat = 0) : ∀ (n p : Nat), q - p ≤ n → p ≤ q → 0 ∈ runes B p := by
  intro n
  induction n with
  | zero =>
    intro p h1 h2
    have : p = q := by omega
    subst this
    rw [runes_step B p hq, dec_z B p hz]
    simp
  | succ n ih =>
    intro p h1 h2
    by_cases e : p = q
    · subst e
      rw [runes_step B p hq, dec_z B p hz]
      simp
    · rw [runes_step B p (by omega)]
      have hw := dec_w B p
      have hle : p + (Utf8.decode B p).2 ≤ q := by
        by_cases hc : p + (Utf8.decode B p).2 ≤ q
        · exact hc
        · have := dec_cont B p (q - p) (by omega) (by omega)
          rw [show p + (q - p) = q by omega, hz] at this
          simp at this
      exact List.mem_cons_of_mem _ (ih _ (by omega) hle)
theorem zero_out (B : ByteArray) : ∀ (f p : Nat), 0 ∈ runesF B f p → ∃ q, q < B.size ∧ (B.get! q).toNat = 0
  | 0, p, h => by cases h
  | f + 1, p, h => by
    unfold runesF at h
    split at h
    · rename_i hp
      rcases List.mem_cons.1 h with h | h
      · exact ⟨p, hp, dec_zero B p h.symm⟩
      · exact zero_out B f _ h
    · cases h
theorem index_iff : ∀ (s : List UInt8), 0 ≤ Lib.indexByte s 0 ↔ (0 : UInt8) ∈ s
  | [] => by simp [Lib.indexByte]
  | b :: l => by
    have ih := index_iff l
    unfold Lib.indexByte
    by_cases hb : b = 0
    · subst hb; simp
    · have hb' : (b == 0) = false := by simpa using hb
      rw [hb']
      simp only [Bool.false_eq_true, if_false]
      have hne : (0 : UInt8) ≠ b := fun e => hb e.symm
      by_cases h1 : Lib.indexByte l 0 = -1
      · rw [h1] at ih ⊢
        simp only [BEq.rfl, if_true, List.mem_cons, hne, false_or]
        omega
      · have h1' : (Lib.indexByte l 0 == -1) = false := by simpa using h1
        rw [h1']
        simp only [Bool.false_eq_true, if_false, List.mem_cons, hne, false_or]
        rw [← ih]
        have : -1 ≤ Lib.indexByte l 0 := index_ge l
        omega
where index_ge : ∀ (s : List UInt8), -1 ≤ Lib.indexByte s 0
  | [] => by simp [Lib.indexByte]
  | b :: l => by
    have := index_ge l
    unfold Lib.indexByte
    repeat' split
    all_goals omega
theorem get_at (s : List UInt8) (i : Nat) (h : i < s.length) : (⟨s.toArray⟩ : ByteArray).get! i = s[i] := by
  show s.toArray[i]! = _
  simp [h]
theorem zero_iff (s : List UInt8) : 0 ≤ Lib.indexByte s 0 ↔ 0 ∈ runes (⟨s.toArray⟩ : ByteArray) 0 := by
  rw [index_iff]
  constructor
  · intro h
    obtain ⟨q, hq, e⟩ := List.getElem_of_mem h
    exact zero_in (⟨s.toArray⟩ : ByteArray) q (by rw [size_BA]; exact hq) (by rw [get_at s q hq, e]; rfl) q 0 (by omega) (by omega)
  · intro h
    obtain ⟨q, hq, e⟩ := zero_out _ _ _ h
    rw [size_BA] at hq
    rw [get_at s q hq] at e
    have : s[q] = 0 := UInt8.toNat_inj.1 e
    rw [← this]
    exact List.getElem_mem hq

/-! ### the two loops -/
theorem pin_loop (s : List UInt8) (hs : s.length ≤ 63) (hs0 : 0 < s.length) : pin_Weak_L0 (0, 0, true, (s, 0), ()) = some (((runes (⟨s.toArray⟩ : ByteArray) 0).length : Int), (runes (⟨s.toArray⟩ : ByteArray) 0).all (fun r => r == (Utf8.decode (⟨s.toArray⟩ : ByteArray) 0).1), ()) := by
  unfold pin_Weak_L0
  rw [show rounds = 1180591620717411303423 + 1 from rfl, iter_succ]
  have hw := dec_w (⟨s.toArray⟩ : ByteArray) 0
  simp only [pin_Weak_L0b, hs0, decide_true, cond_true, Option.bind_some, show (((0 : Nat) : Int) = 0) = True from by simp]
  rw [show IntKind.wrap .i64 ((0 : Int) + 1) = 1 from rfl]
  simp only [Sum.elim_inl, Nat.zero_add]
  rw [iter_fun (fun q => q.1 = ((Utf8.decode (⟨s.toArray⟩ : ByteArray) 0).1 : Int) ∧ 0 ≤ q.2.1 ∧ q.2.1 ≤ q.2.2.2.1.2 ∧ q.2.2.2.1.1 = s ∧ 0 < q.2.2.2.1.2 ∧ q.2.2.2.1.2 ≤ s.length + 4) (fun q => s.length + 5 - q.2.2.2.1.2) (fun q => (q.2.1 + ((runes (⟨s.toArray⟩ : ByteArray) q.2.2.2.1.2).length : Int), q.2.2.1 && (runes (⟨s.toArray⟩ : ByteArray) q.2.2.2.1.2).all (fun r => r == (Utf8.decode (⟨s.toArray⟩ : ByteArray) 0).1), ()))]
  · dsimp only
    rw [runes_step (⟨s.toArray⟩ : ByteArray) 0 (by rw [size_BA]; exact hs0), Nat.zero_add]
    simp only [List.length_cons, List.all_cons, BEq.rfl, Bool.true_and]
    congr 2
    omega
  · rintro ⟨y0, y1, y2, ⟨l, p⟩, u⟩ ⟨h1, h2, h3, h4, h5, h6⟩
    dsimp only at h1 h2 h3 h4 h5 h6
    subst h1; subst h4
    simp only [pin_Weak_L0b]
    by_cases hp : p < l.length
    · left
      have hp0 : ¬ ((p : Int) = 0) := by omega
      have hw2 := dec_w (⟨l.toArray⟩ : ByteArray) p
      have hw3 := dec_le (⟨l.toArray⟩ : ByteArray) p
      rw [runes_step (⟨l.toArray⟩ : ByteArray) p (by rw [size_BA]; exact hp)]
      simp only [hp, hp0, decide_true, decide_false, cond_true, cond_false, Option.bind_some]
      rw [wrap_id (n := y1 + 1) (by omega) (by omega)]
      cases y2
      · refine ⟨_, rfl, ⟨rfl, by dsimp only; omega, by dsimp only; omega, rfl, by dsimp only; omega, by dsimp only; omega⟩, by dsimp only; omega, ?_⟩
        dsimp only
        simp only [List.length_cons, Bool.false_and]
        congr 1
        omega
      · refine ⟨_, rfl, ⟨rfl, by dsimp only; omega, by dsimp only; omega, rfl, by dsimp only; omega, by dsimp only; omega⟩, by dsimp only; omega, ?_⟩
        dsimp only
        simp only [List.length_cons, List.all_cons, Bool.true_and]
        congr 1
        · omega
        · congr 2
          rw [Bool.eq_iff_iff]
          simp only [beq_iff_eq, decide_eq_true_eq]
          omega
    · right
      rw [runes_end (⟨l.toArray⟩ : ByteArray) p (by rw [size_BA]; exact hp)]
      simp only [hp, decide_false, cond_false, List.length_nil, List.all_nil, Bool.and_true]
      simp
  · have := dec_le (⟨s.toArray⟩ : ByteArray) 0
    exact ⟨rfl, by simp, by dsimp only; omega, rfl, by dsimp only; omega, by dsimp only; omega⟩
  · dsimp only; omega

theorem ref_loop (s : List UInt8) (hs : s.length ≤ 63) (f : Nat) : passkeyref10_Weak_L0 ((f : Int), true, (s, 0), ()) = some (if 0 ∈ runes (⟨s.toArray⟩ : ByteArray) 0 then .inl (true, ()) else .inr ((runes (⟨s.toArray⟩ : ByteArray) 0).all (fun r => r == f), ())) := by
  unfold passkeyref10_Weak_L0
  rw [iter_fun (fun q => q.1 = (f : Int) ∧ q.2.2.1.1 = s ∧ q.2.2.1.2 ≤ s.length + 4) (fun q => s.length + 5 - q.2.2.1.2) (fun q => if 0 ∈ runes (⟨s.toArray⟩ : ByteArray) q.2.2.1.2 then .inl (true, ()) else .inr (q.2.1 && (runes (⟨s.toArray⟩ : ByteArray) q.2.2.1.2).all (fun r => r == f), ()))]
  · simp
  · rintro ⟨y0, y1, ⟨l, p⟩, u⟩ ⟨h1, h2, h3⟩
    dsimp only at *
    subst h1; subst h2
    simp only [passkeyref10_Weak_L0b]
    by_cases hp : p < l.length
    · have hw2 := dec_w (⟨l.toArray⟩ : ByteArray) p
      have hw3 := dec_le (⟨l.toArray⟩ : ByteArray) p
      rw [runes_step (⟨l.toArray⟩ : ByteArray) p (by rw [size_BA]; exact hp)]
      simp only [hp, decide_true, cond_true]
      by_cases hz : (Utf8.decode (⟨l.toArray⟩ : ByteArray) p).1 = 0
      · right
        have hz' : ((Utf8.decode (⟨l.toArray⟩ : ByteArray) p).1 : Int) = 0 := by omega
        rw [if_pos (by rw [hz]; simp)]
        simp only [hz', decide_true, cond_true]
      · left
        have hz' : ¬ ((Utf8.decode (⟨l.toArray⟩ : ByteArray) p).1 : Int) = 0 := by omega
        have hm : (0 ∈ (Utf8.decode (⟨l.toArray⟩ : ByteArray) p).1 :: runes (⟨l.toArray⟩ : ByteArray) (p + (Utf8.decode (⟨l.toArray⟩ : ByteArray) p).2)) ↔ (0 ∈ runes (⟨l.toArray⟩ : ByteArray) (p + (Utf8.decode (⟨l.toArray⟩ : ByteArray) p).2)) := by
          simp only [List.mem_cons]
          constructor
          · rintro (h | h)
            · exact absurd h.symm hz
            · exact h
          · exact .inr
        simp only [hz', decide_false, cond_false, hm]
        cases y1
        · refine ⟨_, rfl, ⟨rfl, rfl, by dsimp only; omega⟩, by dsimp only; omega, ?_⟩
          simp
        · refine ⟨_, rfl, ⟨rfl, rfl, by dsimp only; omega⟩, by dsimp only; omega, ?_⟩
          dsimp only
          simp only [List.all_cons, Bool.true_and]
          have e : (decide (((Utf8.decode (⟨l.toArray⟩ : ByteArray) p).1 : Int) = (f : Int))) = ((Utf8.decode (⟨l.toArray⟩ : ByteArray) p).1 == f) := by
            rw [Bool.eq_iff_iff]
            simp only [beq_iff_eq, decide_eq_true_eq]
            omega
          rw [e]
    · right
      rw [runes_end (⟨l.toArray⟩ : ByteArray) p (by rw [size_BA]; exact hp)]
      simp [hp]
  · exact ⟨rfl, rfl, by simp⟩
  · rw [rounds_eq]; dsimp only; omega

theorem weak_same (s : List UInt8) : ∃ b, pin_Weak s = some ((), b, ()) ∧ passkeyref10_Weak s = some ((), b, ()) := by
  unfold pin_Weak passkeyref10_Weak
  by_cases h1 : (s.length : Int) < 4
  · exact ⟨true, by simp [h1], by simp [h1]⟩
  by_cases h2 : (63 : Int) < s.length
  · exact ⟨true, by simp [h1, h2], by simp [h1, h2]⟩
  simp only [h1, h2, decide_false, cond_false, utf8_ValidString, show s.length ≤ 9223372036854775807 by omega, decide_true, cond_true, Option.bind_some]
  cases hv : Lib.validD s
  · exact ⟨true, by simp, by simp⟩
  simp only [Bool.not_true, cond_false, strings_IndexByte, Option.bind_some, utf8_RuneCountInString, show s.length < 9223372036854775807 by omega, decide_true, cond_true, utf8_DecodeRuneInString]
  have hc : Lib.runeCount (⟨s.toArray⟩ : ByteArray) = (runes (⟨s.toArray⟩ : ByteArray) 0).length := count_runes _ _ _
  have hd : Lib.decodeGo (⟨s.toArray⟩ : ByteArray) = Utf8.decode (⟨s.toArray⟩ : ByteArray) 0 := by
    unfold Lib.decodeGo
    rw [if_neg (by rw [size_BA]; omega)]
  rw [pin_loop s (by omega) (by omega), hc, hd, ref_loop s (by omega)]
  simp only [Option.bind_some]
  have hz := zero_iff s
  by_cases hi : 0 ≤ Lib.indexByte s 0
  · have hm := hz.1 hi
    refine ⟨true, by simp [hi], ?_⟩
    by_cases h4 : ((runes (⟨s.toArray⟩ : ByteArray) 0).length : Int) < 4
    · simp [h4]
    · simp [h4, hm]
  · have hm : 0 ∉ runes (⟨s.toArray⟩ : ByteArray) 0 := fun h => hi (hz.2 h)
    by_cases h4 : ((runes (⟨s.toArray⟩ : ByteArray) 0).length : Int) < 4
    · exact ⟨true, by simp [hi, h4], by simp [h4]⟩
    · exact ⟨_, by simp only [hi, h4, decide_false, cond_false]; rfl, by simp only [h4, hm, decide_false, cond_false, if_false, Sum.elim_inr, Option.bind_some]⟩

/-! ### the law -/
theorem Ok.getm {α β : Type} {l : List α} {i : Nat} {f : α → Option β} {Q : β → Prop} (h : i < l.length) (h2 : ∀ x ∈ l, Ok (f x) Q) : Ok ((l[i]?).bind f) Q := by
  rw [List.getElem?_eq_getElem h]
  exact h2 _ (List.getElem_mem h)
theorem and_bound (a b : Int) (n : Nat) (hb : (BitVec.ofInt 64 b).toNat = n) (hn : n < 100) : 0 ≤ IntKind.wrap .i64 ((BitVec.ofInt (IntKind.bits .i64) a &&& BitVec.ofInt (IntKind.bits .i64) b).toNat : Int) ∧ IntKind.wrap .i64 ((BitVec.ofInt (IntKind.bits .i64) a &&& BitVec.ofInt (IntKind.bits .i64) b).toNat : Int) ≤ n := by
  have h : (BitVec.ofInt 64 a &&& BitVec.ofInt 64 b).toNat ≤ n := by
    rw [BitVec.toNat_and, hb]
    exact Nat.and_le_right
  change 0 ≤ IntKind.wrap .i64 ((BitVec.ofInt 64 a &&& BitVec.ofInt 64 b).toNat : Int) ∧ IntKind.wrap .i64 ((BitVec.ofInt 64 a &&& BitVec.ofInt 64 b).toNat : Int) ≤ n
  generalize (BitVec.ofInt 64 a &&& BitVec.ofInt 64 b).toNat = q at h
  rw [wrap_id (by omega) (by omega)]
  omega
theorem pin_ok (a : Int) : Ok (passkeybase_Pin a) fun r => r.2.1.length ≤ 20 := by
  unfold passkeybase_Pin
  obtain ⟨h1, h2⟩ := and_bound a 3 3 rfl (by omega)
  dsimp only
  generalize IntKind.wrap .i64 ((BitVec.ofInt (IntKind.bits .i64) a &&& BitVec.ofInt (IntKind.bits .i64) 3).toNat : Int) = v at h1 h2
  simp only [h1, show v < 4 by omega, decide_true, Bool.and_self, cond_true]
  refine Ok.getm (by simp; omega) ?_
  intro x hx
  refine Ok.some ?_
  have : ∀ y ∈ ([[49, 50, 51, 52], [53, 54, 55, 56, 97], [195, 169, 195, 168, 195, 169, 195, 168], [48, 48, 48, 48, 48, 48, 48, 48, 48, 49]] : List (List UInt8)), y.length ≤ 20 := by decide
  exact this x hx
theorem text_ok (a : Int) : Ok (passkeybase_Text a) fun r => r.2.1.length ≤ 40 := by
  unfold passkeybase_Text
  have hl : ∀ y ∈ ([[], [97], [98], [108, 111, 103, 105, 110], [107, 101, 121], [101, 120, 97, 109, 112, 108, 101, 46, 111, 114, 103], [195, 169], [48, 49, 50, 51, 52, 53, 54, 55, 56, 57, 48, 49, 50, 51, 52, 53]] : List (List UInt8)), y.length ≤ 20 := by decide
  obtain ⟨h1, h2⟩ := and_bound a 7 7 rfl (by omega)
  dsimp only
  generalize IntKind.wrap .i64 ((BitVec.ofInt (IntKind.bits .i64) a &&& BitVec.ofInt (IntKind.bits .i64) 7).toNat : Int) = v at h1 h2
  simp only [h1, show v < 8 by omega, decide_true, Bool.and_self, cond_true]
  refine Ok.getm (by simp; omega) ?_
  intro x hx
  obtain ⟨h3, h4⟩ := and_bound (Int.fdiv a (2 ^ (min 3 (IntKind.bits .i64)))) 7 7 rfl (by omega)
  generalize IntKind.wrap .i64 ((BitVec.ofInt (IntKind.bits .i64) (Int.fdiv a (2 ^ (min 3 (IntKind.bits .i64)))) &&& BitVec.ofInt (IntKind.bits .i64) 7).toNat : Int) = v2 at h3 h4
  simp only [h3, show v2 < 8 by omega, decide_true, Bool.and_self, cond_true]
  refine Ok.getm (by simp; omega) ?_
  intro y hy
  have q1 := hl x hx
  have q2 := hl y hy
  rw [(show Nat.ble (x.length + y.length) 9223372036854775807 = true from Nat.ble_eq_true_of_le (by omega))]
  refine Ok.some ?_
  simp
  omega
theorem enc_len (n : Int) : (Utf8.encode n).data.toList.length ≤ 4 := by
  unfold Utf8.encode
  simp only []
  repeat' split
  all_goals simp
theorem weak_L0 (a0 : List UInt8) (a1 a2 : UInt8) (t : List UInt8) : Ok (passkeylaw11_PinWeak_L0 (a0, a1, a2, t, [], 0, ())) fun z => z.1 = a0 ∧ z.2.1 = t ∧ z.2.2.1.length ≤ 400 := by
  unfold passkeylaw11_PinWeak_L0
  refine Ok.iter (fun s => s.1 = a0 ∧ s.2.2.2.1 = t ∧ (s.2.2.2.2.1.length : Int) ≤ 4 * s.2.2.2.2.2.1 ∧ 0 ≤ s.2.2.2.2.2.1 ∧ s.2.2.2.2.2.1 ≤ 70) (fun s => (70 - s.2.2.2.2.2.1).toNat) ⟨rfl, rfl, by simp, by simp, by simp⟩ (by rw [rounds_eq]; simp) ?_
  rintro ⟨y0, y1, y2, y3, y4, y5, u⟩ ⟨h1, h2, h3, h4, h5⟩
  dsimp only at *
  subst h1; subst h2
  have hv : ((UInt8.ofBitVec (y2.toBitVec % (70 : UInt8).toBitVec)).toBitVec.toNat : Int) < 70 := by
    have : (UInt8.ofBitVec (y2.toBitVec % (70 : UInt8).toBitVec)).toBitVec.toNat = y2.toNat % 70 := rfl
    omega
  have hv' : ((y2.toBitVec % (70 : UInt8).toBitVec).toNat : Int) < 70 := hv
  simp only [passkeylaw11_PinWeak_L0b, show ((70 : UInt8).toBitVec = 0) = False by decide, show ((3 : UInt8).toBitVec = 0) = False by decide, show ((7 : UInt8).toBitVec = 0) = False by decide, decide_false, cond_false]
  refine Ok.cond ?_ ?_ <;> intro hc
  · simp only [decide_eq_true_eq] at hc
    have he := enc_len ((UInt8.ofBitVec ((48 : UInt8).toBitVec + (UInt8.ofBitVec ((UInt8.ofBitVec ((UInt8.ofBitVec (y1.toBitVec % (3 : UInt8).toBitVec)).toBitVec * (UInt8.ofBitVec (BitVec.ofInt 8 y5)).toBitVec)).toBitVec % (7 : UInt8).toBitVec)).toBitVec)).toBitVec.toNat : Int)
    generalize (Utf8.encode ((UInt8.ofBitVec ((48 : UInt8).toBitVec + (UInt8.ofBitVec ((UInt8.ofBitVec ((UInt8.ofBitVec (y1.toBitVec % (3 : UInt8).toBitVec)).toBitVec * (UInt8.ofBitVec (BitVec.ofInt 8 y5)).toBitVec)).toBitVec % (7 : UInt8).toBitVec)).toBitVec)).toBitVec.toNat : Int)).data.toList = e at he
    rw [(show Nat.ble (y4.length + e.length) 9223372036854775807 = true from Nat.ble_eq_true_of_le (by omega)), wrap_id (n := y5 + 1) (by omega) (by omega)]
    refine Ok.some ⟨⟨rfl, rfl, ?_, by dsimp only; omega, by dsimp only; omega⟩, by dsimp only; omega⟩
    simp
    omega
  · refine Ok.some ⟨rfl, rfl, ?_⟩
    dsimp only
    omega

theorem PinWeak_plain (a0 : List UInt8) (a1 a2 : UInt8) (hd : PinWeak_dom a0 a1 a2) : Ok (passkeylaw11_PinWeak a0 a1 a2) fun r => r.2.1 = true := by
  unfold passkeylaw11_PinWeak passkeylaw11_PinWeakG
  refine Ok.cond ?_ ?_ <;> intro hc
  · rw [awake_ok]
    exact Ok.some rfl
  · refine Ok.bind ((pin_ok _).mono ?_)
    intro r2 h2
    refine Ok.bind ((text_ok _).mono ?_)
    intro r3 h3
    rw [(show Nat.ble (r2.2.1.length + r3.2.1.length) 9223372036854775807 = true from Nat.ble_eq_true_of_le (by omega))]
    refine Ok.bind ((weak_L0 a0 a1 a2 (r2.2.1 ++ r3.2.1)).mono ?_)
    rintro ⟨z1, z2, z3, u⟩ ⟨rfl, q, hl⟩
    dsimp only at *
    obtain ⟨b1, e1, f1⟩ := weak_same z1
    obtain ⟨b2, e2, f2⟩ := weak_same z2
    obtain ⟨b3, e3, f3⟩ := weak_same z3
    obtain ⟨b4, e4, f4⟩ := weak_same (z3 ++ [0])
    obtain ⟨b5, e5, f5⟩ := weak_same (z3 ++ [195, 169])
    have l1 : Nat.ble (z3.length + ([0] : List UInt8).length) 9223372036854775807 = true := Nat.ble_eq_true_of_le (by simp; omega)
    have l2 : Nat.ble (z3.length + ([195, 169] : List UInt8).length) 9223372036854775807 = true := Nat.ble_eq_true_of_le (by simp; omega)
    simp only [e1, f1, e2, f2, e3, f3, Option.bind_some, BEq.rfl, cond_true, l1, e4, f4, l2, e5, f5, awake_ok]
    exact Ok.some rfl
end Go.Proofs.YtlbafgkhnhkanaaDoor

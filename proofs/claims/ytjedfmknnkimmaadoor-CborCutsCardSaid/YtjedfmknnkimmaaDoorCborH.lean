/- cbor: the source of items in bytes: it reads what was encoded, and nothing else. No condition. -/
import Derived.Test.YtjedfmknnkimmaaDoorCborG
set_option linter.unusedVariables false
set_option linter.unusedSimpArgs false
set_option maxRecDepth 100000
namespace Go.Proofs.YtjedfmknnkimmaaDoor
open Go Go.Abs

/-- the item of a kind and number, whose data are taken from the bytes behind its head. -/
def bodB (k : Int) (m : BitVec 64) (r : List UInt8) : Int × ApiItem × List UInt8 :=
  bif isN k then (bif decide (512 < m.toNat) then (8, default, []) else (0, ⟨k, m, []⟩, r))
  else bif isD k then (bif decide (1024 < m.toNat) then (8, default, []) else bif decide (r.length < m.toNat) then (1, default, []) else (0, ⟨k, 0#64, r.take m.toNat⟩, r.drop m.toNat))
  else (0, ⟨k, m, []⟩, r)
def accB (key : Bool) (before : List UInt8) (q : Int × ApiItem × List UInt8) : Int × ApiItem × List UInt8 :=
  bif decide (q.1 = 0) then (acc q.2.1 key before, q.2.1, q.2.2) else q
def getB (n d : Nat) (key : Bool) (before : List UInt8) (s : List UInt8) : Int × ApiItem × List UInt8 :=
  bif !decide ((hdB s).1 = 0) then ((hdB s).1, default, []) else
  bif !decide (adm (hdB s).2.1 n d key = 0) then (adm (hdB s).2.1 n d key, default, []) else
  accB key before (bodB (hdB s).2.1 (hdB s).2.2.1 (hdB s).2.2.2)
theorem getB_step {n d : Nat} {key : Bool} {before s t : List UInt8} {k : Int} {m : BitVec 64} (h : hdB s = (0, k, m, t)) (ha : adm k n d key = 0) : getB n d key before s = accB key before (bodB k m t) := by
  unfold getB
  rw [h]
  dsimp only
  rw [ha]
  rfl
theorem getB_ok : GetOk getB := by
  constructor
  · intro n d k b s x t h
    unfold getB at h
    by_cases h1 : (hdB s).1 = 0
    · rw [show decide ((hdB s).1 = 0) = true from decide_eq_true h1] at h
      by_cases h2 : adm (hdB s).2.1 n d k = 0
      · rw [show decide (adm (hdB s).2.1 n d k = 0) = true from decide_eq_true h2] at h
        simp only [Bool.not_true, cond_false] at h
        obtain ⟨a1, _, _, _, a5⟩ := adm_zero h2
        refine ⟨a1, a5, ?_⟩
        unfold accB bodB at h
        cases hN : isN (hdB s).2.1
        · rw [hN] at h
          simp only [cond_false] at h
          cases hD : isD (hdB s).2.1
          · rw [hD] at h
            simp only [cond_false, decide_true, cond_true, Prod.mk.injEq] at h
            obtain ⟨_, rfl, _⟩ := h
            intro h3; dsimp only at h3; rw [hN] at h3; cases h3
          · rw [hD] at h
            simp only [cond_true] at h
            cases c1 : decide (1024 < (hdB s).2.2.1.toNat)
            · rw [c1] at h
              cases c2 : decide ((hdB s).2.2.2.length < (hdB s).2.2.1.toNat)
              · rw [c2] at h
                simp only [cond_false, decide_true, cond_true, Prod.mk.injEq] at h
                obtain ⟨_, rfl, _⟩ := h
                intro h3; dsimp only at h3; rw [hN] at h3; cases h3
              · rw [c2] at h; simp at h
            · rw [c1] at h; simp at h
        · rw [hN] at h
          simp only [cond_true] at h
          cases c1 : decide (512 < (hdB s).2.2.1.toNat)
          · rw [c1] at h
            simp only [cond_false, decide_true, cond_true, Prod.mk.injEq] at h
            obtain ⟨_, rfl, _⟩ := h
            intro _
            simp only [decide_eq_false_iff_not] at c1
            dsimp only; omega
          · rw [c1] at h; simp at h
      · rw [show decide (adm (hdB s).2.1 n d k = 0) = false from decide_eq_false h2] at h
        simp only [Bool.not_true, cond_false, Bool.not_false, cond_true, Prod.mk.injEq] at h
        exact absurd h.1 h2
    · rw [show decide ((hdB s).1 = 0) = false from decide_eq_false h1] at h
      simp only [Bool.not_false, cond_true, Prod.mk.injEq] at h
      exact absurd h.1 h1
  · intro n d b b' s
    unfold getB accB acc
    simp only [Bool.false_and, cond_false]
theorem isD_isN {k : Int} (h : isD k = true) : isN k = false := by
  unfold isD at h
  simp only [Bool.or_eq_true, decide_eq_true_eq] at h
  rcases h with rfl | rfl <;> rfl
theorem kin_chk {x : ApiItem} {n d : Nat} {key : Bool} {b : List UInt8} (h : chk x n d key b = 0) : kin x := kin_of (chk_zero h).1 (chk_zero h).2.1
theorem len_nat {l : List UInt8} (h : l.length ≤ 1024) : (BitVec.ofInt 64 (l.length : Int)).toNat = l.length := by
  rw [BitVec.ofInt_natCast, BitVec.toNat_ofNat, Nat.mod_eq_of_lt (by omega)]
theorem bod_ok {x : ApiItem} {n d : Nat} {key : Bool} {b : List UInt8} (h : chk x n d key b = 0) (t : List UInt8) : bodB x.kind (num x) (x.data ++ t) = (0, x, t) := by
  obtain ⟨c1, c2, c3, c4⟩ := chk_zero h
  obtain ⟨k1, k2, k3⟩ := kin_of c1 c2
  obtain ⟨b1, b2⟩ := big_false c3
  obtain ⟨k, m, l⟩ := x
  dsimp only at *
  unfold bodB num
  dsimp only
  cases hN : isN k
  · cases hD : isD k
    · rw [k3 hD]; rfl
    · have hm : m = 0#64 := by
        unfold bad at c2
        dsimp only at c2
        rw [hD] at c2
        simp only [Bool.true_or, Bool.true_and, Bool.or_eq_false_iff, Bool.not_eq_false', decide_eq_true_eq] at c2
        exact c2.1
      simp only [cond_true, cond_false]
      simp only [len_nat b1]
      rw [show decide (1024 < l.length) = false from decide_eq_false (by omega), show decide ((l ++ t).length < l.length) = false from decide_eq_false (by rw [List.length_append]; omega), hm]
      simp
  · have hD : isD k = false := by
      cases hD : isD k
      · rfl
      · rw [isD_isN hD] at hN; cases hN
    rw [k3 hD, hD]
    simp only [cond_true, cond_false]
    rw [show decide (512 < m.toNat) = false from decide_eq_false (by have := b2 hN; omega)]
    rfl
theorem byt01 {n : BitVec 64} (h : n.toNat ≤ 1) : n = 0#64 ∨ n = 1#64 := by
  have : n.toNat = 0 ∨ n.toNat = 1 := by omega
  rcases this with h | h
  · left; exact BitVec.eq_of_toNat_eq h
  · right; exact BitVec.eq_of_toNat_eq h
theorem kin8 {x : ApiItem} (h : kin x) : (x.kind ≠ 7 ∧ x.kind ≠ 8 ∧ 1 ≤ x.kind ∧ x.kind ≤ 6) ∨ x.kind = 7 ∨ x.kind = 8 := by
  obtain ⟨h1, h2, _⟩ := h
  omega
theorem bad7 {x : ApiItem} (h : bad x = false) (h7 : x.kind = 7) : x.number.toNat ≤ 1 := by
  unfold bad at h
  rw [h7] at h
  simp only [decide_true, Bool.true_and, Bool.or_eq_false_iff, decide_eq_false_iff_not] at h
  have := h.2.1
  omega
theorem bad8 {x : ApiItem} (h : bad x = false) (h8 : x.kind = 8) : x.number = 0#64 := by
  unfold bad at h
  rw [h8] at h
  simp only [decide_true, Bool.or_true, Bool.true_and, Bool.or_eq_false_iff, Bool.not_eq_false', decide_eq_true_eq] at h
  exact h.1
theorem hdB_hdI {x : ApiItem} {n d : Nat} {key : Bool} {b : List UInt8} (h : chk x n d key b = 0) (t : List UInt8) : hdB (hdI x ++ t) = (0, x.kind, num x, t) := by
  obtain ⟨c1, c2, c3, c4⟩ := chk_zero h
  have hk := kin_of c1 c2
  rcases kin8 hk with ⟨q1, q2, q3, q4⟩ | h7 | h8
  · unfold hdI
    rw [show decide (x.kind = 7) = false from decide_eq_false q1, show decide (x.kind = 8) = false from decide_eq_false q2]
    exact hdB_hdr q3 q4 _ _
  · unfold hdI num
    rw [h7]
    rcases byt01 (bad7 c2 h7) with e | e <;> rw [e] <;> rfl
  · unfold hdI num
    rw [h8, bad8 c2 h8]
    rfl
theorem getB_enc {x : ApiItem} {n d : Nat} {key : Bool} {b : List UInt8} (h : chk x n d key b = 0) (t : List UInt8) : getB n d key b (enc x ++ t) = (0, x, t) := by
  have e : enc x ++ t = hdI x ++ (x.data ++ t) := by unfold enc; rw [List.append_assoc]
  rw [e, getB_step (hdB_hdI h _) (chk_zero h).1, bod_ok h]
  unfold accB
  simp [(chk_zero h).2.2.2]
theorem pre_cases {p q a b : List UInt8} (h : p ++ q = a ++ b) : (∃ r, r ≠ [] ∧ p ++ r = a) ∨ (∃ r, p = a ++ r ∧ r ++ q = b) := by
  rcases List.append_eq_append_iff.1 h with ⟨r, h1, h2⟩ | ⟨r, h1, h2⟩
  · by_cases hr : r = []
    · subst hr
      right
      exact ⟨[], by simpa using h1.symm, by simpa using h2⟩
    · left
      exact ⟨r, hr, h1.symm⟩
  · right
    exact ⟨r, h1, h2.symm⟩
theorem getB_cut {x : ApiItem} {n d : Nat} {key : Bool} {b : List UInt8} (h : chk x n d key b = 0) {p q : List UInt8} (hp : p ++ q = enc x) (hq : q ≠ []) : (getB n d key b p).1 = 1 := by
  obtain ⟨c1, c2, c3, c4⟩ := chk_zero h
  have hk := kin_of c1 c2
  unfold enc at hp
  rcases pre_cases hp with ⟨r, hr, h1⟩ | ⟨r, h1, h2⟩
  · have e1 : (hdB p).1 = 1 := by
      rcases kin8 hk with ⟨q1, q2, q3, q4⟩ | h7 | h8
      · unfold hdI at h1
        rw [show decide (x.kind = 7) = false from decide_eq_false q1, show decide (x.kind = 8) = false from decide_eq_false q2] at h1
        exact hdB_cut q3 q4 _ p r h1 hr
      · have hl : (hdI x).length = 1 := by unfold hdI; rw [h7]; rfl
        rw [← h1, List.length_append] at hl
        have : p = [] := by
          cases p with
          | nil => rfl
          | cons _ _ => have := List.length_pos_iff.2 hr; simp at hl; omega
        rw [this]; rfl
      · have hl : (hdI x).length = 1 := by unfold hdI; rw [h8]; rfl
        rw [← h1, List.length_append] at hl
        have : p = [] := by
          cases p with
          | nil => rfl
          | cons _ _ => have := List.length_pos_iff.2 hr; simp at hl; omega
        rw [this]; rfl
    unfold getB
    rw [e1]; rfl
  · have hD : isD x.kind = true := by
      cases hD : isD x.kind
      · rw [hk.2.2 hD] at h2
        exact absurd (List.append_eq_nil_iff.1 h2).2 hq
      · rfl
    have hl := congrArg List.length h2
    rw [List.length_append] at hl
    have hq0 := List.length_pos_iff.2 hq
    have hb := (big_false c3).1
    rw [h1, getB_step (hdB_hdI h r) c1]
    unfold bodB num
    rw [isD_isN hD, hD]
    simp only [cond_true, cond_false, len_nat hb]
    rw [show decide (1024 < x.data.length) = false from decide_eq_false (by omega), show decide (r.length < x.data.length) = true from decide_eq_true (by omega)]
    rfl
theorem getB_back {x : ApiItem} {n d : Nat} {key : Bool} {b s t : List UInt8} (h : getB n d key b s = (0, x, t)) : s = enc x ++ t ∧ chk x n d key b = 0 := by
  unfold getB at h
  by_cases h1 : (hdB s).1 = 0
  · rw [show decide ((hdB s).1 = 0) = true from decide_eq_true h1] at h
    by_cases h2 : adm (hdB s).2.1 n d key = 0
    · rw [show decide (adm (hdB s).2.1 n d key = 0) = true from decide_eq_true h2] at h
      simp only [Bool.not_true, cond_false] at h
      generalize hh : hdB s = q at h h1 h2
      obtain ⟨e, k, m, r⟩ := q
      dsimp only at h h1 h2
      subst h1
      -- the body
      have hbod : (bodB k m r).1 = 0 ∧ (bodB k m r).2.1 = x ∧ (bodB k m r).2.2 = t ∧ acc x key b = 0 := by
        unfold accB at h
        by_cases h3 : (bodB k m r).1 = 0
        · rw [show decide ((bodB k m r).1 = 0) = true from decide_eq_true h3] at h
          simp only [cond_true, Prod.mk.injEq] at h
          exact ⟨h3, h.2.1, h.2.2, by rw [← h.2.1]; exact h.1⟩
        · rw [show decide ((bodB k m r).1 = 0) = false from decide_eq_false h3] at h
          simp only [cond_false] at h
          rw [h] at h3
          exact absurd rfl h3
      obtain ⟨q1, q2, q3, q4⟩ := hbod
      have main : x.kind = k ∧ num x = m ∧ r = x.data ++ t ∧ big x = false ∧ (isD k = true → x.number = 0#64) ∧ (isD k = false → x.data = [] ∧ x.number = m) := by
        unfold bodB at q1 q2 q3
        cases hN : isN k
        · rw [hN] at q1 q2 q3
          cases hD : isD k
          · rw [hD] at q1 q2 q3
            simp only [cond_false] at q2 q3
            subst q2; subst q3
            refine ⟨rfl, ?_, by simp, ?_, by simp, by simp⟩
            · unfold num; dsimp only; rw [hD]; rfl
            · unfold big; dsimp only; rw [hN]; rfl
          · rw [hD] at q1 q2 q3
            simp only [cond_false, cond_true] at q1 q2 q3
            cases g1 : decide (1024 < m.toNat)
            · rw [g1] at q1 q2 q3
              cases g2 : decide (r.length < m.toNat)
              · rw [g2] at q1 q2 q3
                simp only [cond_false] at q2 q3
                simp only [decide_eq_false_iff_not] at g1 g2
                subst q2; subst q3
                have hl : (r.take m.toNat).length = m.toNat := by rw [List.length_take]; omega
                refine ⟨rfl, ?_, by simp, ?_, by simp, by simp⟩
                · unfold num; dsimp only; rw [hD, hl]
                  simp only [cond_true]
                  apply BitVec.eq_of_toNat_eq
                  rw [BitVec.ofInt_natCast, BitVec.toNat_ofNat, Nat.mod_eq_of_lt m.isLt]
                · unfold big; dsimp only; rw [hN, hl, show decide (1024 < m.toNat) = false from decide_eq_false g1]; rfl
              · rw [g2] at q1; simp at q1
            · rw [g1] at q1; simp at q1
        · have hD : isD k = false := by
            cases hD : isD k
            · rfl
            · rw [isD_isN hD] at hN; cases hN
          rw [hN] at q1 q2 q3
          rw [hD]
          simp only [cond_true] at q1 q2 q3
          cases g1 : decide (512 < m.toNat)
          · rw [g1] at q1 q2 q3
            simp only [cond_false] at q2 q3
            subst q2; subst q3
            refine ⟨rfl, ?_, by simp, ?_, by simp, by simp⟩
            · unfold num; dsimp only; rw [hD]; rfl
            · unfold big; dsimp only; rw [hN, g1]; rfl
          · rw [g1] at q1; simp at q1
      obtain ⟨m1, m2, m3, m4, m5, m6⟩ := main
      have hbk := hdB_back hh
      have hbad : bad x = false := by
        unfold bad
        rw [m1]
        rcases hbk with ⟨w1, w2, _⟩ | ⟨w1, w2, _⟩ | ⟨w1, w2, _⟩
        · rw [show decide (k = 8) = false from decide_eq_false (by omega), show decide (k = 7) = false from decide_eq_false (by omega)]
          cases hD : isD k
          · simp [(m6 hD).1]
          · simp [m5 hD]
        · subst w1
          have := (m6 rfl)
          rw [this.1, this.2]
          simp [isD]; omega
        · subst w1
          have := (m6 rfl)
          rw [this.1, this.2, w2]
          rfl
      refine ⟨?_, ?_⟩
      · have eh : s = hdI x ++ r := by
          unfold hdI
          rw [m1, m2]
          rcases hbk with ⟨w1, w2, w3⟩ | ⟨w1, w2, w3⟩ | ⟨w1, w2, w3⟩
          · rw [show decide (k = 7) = false from decide_eq_false (by omega), show decide (k = 8) = false from decide_eq_false (by omega)]
            exact w3
          · subst w1
            rw [w3, (m6 rfl).2]; rfl
          · subst w1
            rw [w3]; rfl
        rw [eh, m3]
        unfold enc
        rw [List.append_assoc]
      · unfold chk
        rw [m1, h2, hbad, m4, q4]
        rfl
    · rw [show decide (adm (hdB s).2.1 n d key = 0) = false from decide_eq_false h2] at h
      simp only [Bool.not_true, cond_false, Bool.not_false, cond_true, Prod.mk.injEq] at h
      exact absurd h.1 h2
  · rw [show decide ((hdB s).1 = 0) = false from decide_eq_false h1] at h
    simp only [Bool.not_false, cond_true, Prod.mk.injEq] at h
    exact absurd h.1 h1

/-! ### the machine on bytes and on items -/
theorem mach_cases {σ : Type} (get : Nat → Nat → Bool → List UInt8 → σ → Int × ApiItem × σ) (f : Nat) (S : List CborFrame) (n : Nat) (s : σ) : (decide (0 < n) && S.isEmpty) = true ∧ mach get (f + 1) S n s = (0, [], s) ∨ (decide (0 < n) && S.isEmpty) = false ∧ (get n S.length (atK S) (lst S) s).1 ≠ 0 ∧ mach get (f + 1) S n s = ((get n S.length (atK S) (lst S) s).1, [], s) ∨ (decide (0 < n) && S.isEmpty) = false ∧ ∃ x t, get n S.length (atK S) (lst S) s = (0, x, t) ∧ mach get (f + 1) S n s = ((mach get f (nxt x S) (n + 1) t).1, x :: (mach get f (nxt x S) (n + 1) t).2.1, (mach get f (nxt x S) (n + 1) t).2.2) := by
  cases hS : (decide (0 < n) && S.isEmpty)
  · right
    by_cases hg : (get n S.length (atK S) (lst S) s).1 = 0
    · right
      have e : get n S.length (atK S) (lst S) s = (0, (get n S.length (atK S) (lst S) s).2.1, (get n S.length (atK S) (lst S) s).2.2) := by rw [← hg]
      exact ⟨rfl, _, _, e, mach_step hS e⟩
    · left
      refine ⟨rfl, hg, mach_err hS (x := (get n S.length (atK S) (lst S) s).2.1) (t := (get n S.length (atK S) (lst S) s).2.2) rfl hg⟩
  · left
    refine ⟨rfl, ?_⟩
    unfold mach
    rw [hS]; rfl
theorem getL_zero {n d : Nat} {key : Bool} {b : List UInt8} {l : List ApiItem} {x : ApiItem} {t : List ApiItem} (h : getL n d key b l = (0, x, t)) : l = x :: t ∧ chk x n d key b = 0 := by
  cases l with
  | nil => simp [getL] at h
  | cons y r =>
    simp only [getL, Prod.mk.injEq] at h
    obtain ⟨h1, rfl, rfl⟩ := h
    exact ⟨rfl, h1⟩
theorem encA_cons (x : ApiItem) (l : List ApiItem) : encA (x :: l) = enc x ++ encA l := by unfold encA; rw [List.flatMap_cons]
/-- what is valid is read back. -/
theorem mach_LB : ∀ (f : Nat) (S : List CborFrame) (n : Nat) (l : List ApiItem) (o r : List ApiItem) (t : List UInt8), mach getL f S n l = (0, o, r) → mach getB f S n (encA o ++ t) = (0, o, t)
  | 0, S, n, l, o, r, t, h => by simp [mach] at h
  | f + 1, S, n, l, o, r, t, h => by
    rcases mach_cases getL f S n l with ⟨h1, h2⟩ | ⟨h1, h2, h3⟩ | ⟨h1, x, u, h2, h3⟩
    · rw [h2] at h
      simp only [Prod.mk.injEq, true_and] at h
      obtain ⟨rfl, rfl⟩ := h
      unfold mach
      rw [h1]; rfl
    · rw [h3] at h
      simp only [Prod.mk.injEq] at h
      exact absurd h.1 h2
    · rw [h3] at h
      simp only [Prod.mk.injEq] at h
      obtain ⟨g1, g2, g3⟩ := h
      obtain ⟨_, hc⟩ := getL_zero h2
      generalize hm : mach getL f (nxt x S) (n + 1) u = m at g1 g2 g3
      obtain ⟨m1, m2, m3⟩ := m
      dsimp only at g1 g2 g3
      subst g1; subst g2; subst g3
      have ih := mach_LB f (nxt x S) (n + 1) u m2 m3 t hm
      rw [encA_cons, List.append_assoc, mach_step h1 (getB_enc hc _), ih]
/-- what is read is valid, and its encoding was read. -/
theorem mach_BL : ∀ (f : Nat) (S : List CborFrame) (n : Nat) (s : List UInt8) (o : List ApiItem) (t : List UInt8), mach getB f S n s = (0, o, t) → s = encA o ++ t ∧ ∀ r, mach getL f S n (o ++ r) = (0, o, r)
  | 0, S, n, s, o, t, h => by simp [mach] at h
  | f + 1, S, n, s, o, t, h => by
    rcases mach_cases getB f S n s with ⟨h1, h2⟩ | ⟨h1, h2, h3⟩ | ⟨h1, x, u, h2, h3⟩
    · rw [h2] at h
      simp only [Prod.mk.injEq, true_and] at h
      obtain ⟨rfl, rfl⟩ := h
      refine ⟨rfl, fun r => ?_⟩
      unfold mach
      rw [h1]; rfl
    · rw [h3] at h
      simp only [Prod.mk.injEq] at h
      exact absurd h.1 h2
    · rw [h3] at h
      simp only [Prod.mk.injEq] at h
      obtain ⟨g1, g2, g3⟩ := h
      obtain ⟨he, hc⟩ := getB_back h2
      generalize hm : mach getB f (nxt x S) (n + 1) u = m at g1 g2 g3
      obtain ⟨m1, m2, m3⟩ := m
      dsimp only at g1 g2 g3
      subst g1; subst g2; subst g3
      obtain ⟨i1, i2⟩ := mach_BL f (nxt x S) (n + 1) u m2 m3 hm
      refine ⟨by rw [encA_cons, List.append_assoc, ← i1, he], fun r => ?_⟩
      rw [List.cons_append, mach_step h1 (show getL n S.length (atK S) (lst S) (x :: (m2 ++ r)) = (0, x, m2 ++ r) by simp [getL, hc]), i2 r]
/-- a proper prefix of an encoding is too short. -/
theorem mach_cut : ∀ (f : Nat) (S : List CborFrame) (n : Nat) (l : List ApiItem) (o r : List ApiItem) (p q : List UInt8), mach getL f S n l = (0, o, r) → p ++ q = encA o → q ≠ [] → (mach getB f S n p).1 = 1
  | 0, S, n, l, o, r, p, q, h, _, _ => by simp [mach] at h
  | f + 1, S, n, l, o, r, p, q, h, hp, hq => by
    rcases mach_cases getL f S n l with ⟨h1, h2⟩ | ⟨h1, h2, h3⟩ | ⟨h1, x, u, h2, h3⟩
    · rw [h2] at h
      simp only [Prod.mk.injEq, true_and] at h
      obtain ⟨rfl, rfl⟩ := h
      exact absurd (List.append_eq_nil_iff.1 hp).2 hq
    · rw [h3] at h
      simp only [Prod.mk.injEq] at h
      exact absurd h.1 h2
    · rw [h3] at h
      simp only [Prod.mk.injEq] at h
      obtain ⟨g1, g2, g3⟩ := h
      obtain ⟨_, hc⟩ := getL_zero h2
      generalize hm : mach getL f (nxt x S) (n + 1) u = m at g1 g2 g3
      obtain ⟨m1, m2, m3⟩ := m
      dsimp only at g1 g2 g3
      subst g1; subst g2; subst g3
      rw [encA_cons] at hp
      rcases pre_cases hp with ⟨w, hw, h4⟩ | ⟨w, h4, h5⟩
      · have e := getB_cut hc h4 hw
        rw [mach_err h1 (x := (getB n S.length (atK S) (lst S) p).2.1) (t := (getB n S.length (atK S) (lst S) p).2.2) (Prod.ext e rfl) (by decide)]
      · have ih := mach_cut f (nxt x S) (n + 1) u m2 m3 w q hm h5 hq
        rw [h4, mach_step h1 (getB_enc hc _)]
        exact ih
/-- what Decode answers. -/
def decO (b : List UInt8) : List ApiItem × Int × Int := bif decide ((mach getB 600 [] 0 b).1 = 0) then ((mach getB 600 [] 0 b).2.1, ((b.length - (mach getB 600 [] 0 b).2.2.length : Nat) : Int), 0) else ([], 0, (mach getB 600 [] 0 b).1)
theorem decO_enc {o : List ApiItem} (h : valO o = 0) (t : List UInt8) : decO (encA o ++ t) = (o, ((encA o).length : Int), 0) := by
  have := mach_LB 600 [] 0 o o [] t (valO_zero h).1
  unfold decO
  rw [this]
  simp
theorem decO_cut {o : List ApiItem} (h : valO o = 0) {p q : List UInt8} (hp : p ++ q = encA o) (hq : q ≠ []) : decO p = ([], 0, 1) := by
  have := mach_cut 600 [] 0 o o [] p q (valO_zero h).1 hp hq
  unfold decO
  rw [this]
  rfl
theorem decO_back {b : List UInt8} (h : (decO b).2.2 = 0) : valO (decO b).1 = 0 ∧ ∃ t, b = encA (decO b).1 ++ t ∧ (decO b).2.1 = ((encA (decO b).1).length : Int) := by
  unfold decO at h ⊢
  by_cases h1 : (mach getB 600 [] 0 b).1 = 0
  · rw [show decide ((mach getB 600 [] 0 b).1 = 0) = true from decide_eq_true h1] at h ⊢
    simp only [cond_true]
    have e : mach getB 600 [] 0 b = (0, (mach getB 600 [] 0 b).2.1, (mach getB 600 [] 0 b).2.2) := by rw [← h1]
    obtain ⟨i1, i2⟩ := mach_BL _ _ _ _ _ _ e
    have i3 := i2 []
    rw [List.append_nil] at i3
    refine ⟨?_, _, i1, ?_⟩
    · unfold valO
      rw [i3]; rfl
    · have := congrArg List.length i1
      rw [List.length_append] at this
      omega
  · rw [show decide ((mach getB 600 [] 0 b).1 = 0) = false from decide_eq_false h1] at h
    simp only [cond_false] at h
    exact absurd h h1
theorem decO_err {b : List UInt8} (h : (decO b).2.2 ≠ 0) : (decO b).1 = [] ∧ (decO b).2.1 = 0 := by
  unfold decO at h ⊢
  by_cases h1 : (mach getB 600 [] 0 b).1 = 0
  · rw [show decide ((mach getB 600 [] 0 b).1 = 0) = true from decide_eq_true h1] at h
    exact absurd rfl h
  · rw [show decide ((mach getB 600 [] 0 b).1 = 0) = false from decide_eq_false h1]
    exact ⟨rfl, rfl⟩
end Go.Proofs.YtjedfmknnkimmaaDoor

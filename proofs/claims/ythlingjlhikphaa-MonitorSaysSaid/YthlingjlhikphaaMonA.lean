/- What the monitor's Explain computes, plainly; decks. No condition. -/
import Derived.Test.YthlingjlhikphaaFns
import Derived.Test.YthlingjlhikphaaLib8
set_option linter.unusedVariables false
set_option maxRecDepth 100000
namespace Go.Proofs.Ythlingjlhikphaa
open Go Go.Abs
theorem awake_ok : passkeylaw41_awake = some ((), true, ()) := by kernel_rfl
def okE1 (x r : ApiRecord) : Bool := decide (r.kind = 6 ∧ r.who = x.who ∧ r.number = x.number ∧ r.kind2 = 2)
def okE2 (x r : ApiRecord) : Bool := decide ((r.kind = 7 ∨ r.kind = 8) ∧ r.who = x.who ∧ r.number = x.number)
def okE3 (x r : ApiRecord) : Bool := decide (r.kind = 4 ∧ r.kind2 = 2 ∧ r.iD = x.iD ∧ r.leaf = x.leaf ∧ r.hash = x.hash ∧ r.flags = x.flags)
def okE4 (x is sg r : ApiRecord) : Bool := decide (r.kind = 5 ∧ r.kind2 = 2 ∧ r.hash = x.hash ∧ r.challenge = is.challenge ∧ r.word = sg.word)
def okE5 (sg r : ApiRecord) : Bool := decide (r.kind = 2 ∧ r.who = sg.who ∧ sg.since < r.time ∧ (r.number = 1 ∨ r.number = 2 ∨ r.number = 3))
theorem e1_ok (r x : ApiRecord) : monitor_Explain_1 r x = some ((), okE1 x r, ()) := by
  unfold monitor_Explain_1 okE1
  by_cases h1 : r.kind = 6 <;> by_cases h2 : r.who = x.who <;> by_cases h3 : r.number = x.number <;> simp [h1, h2, h3]
theorem e2_ok (r x : ApiRecord) : monitor_Explain_2 r x = some ((), okE2 x r, ()) := by
  unfold monitor_Explain_2 okE2
  by_cases h1 : r.kind = 7 <;> by_cases h1' : r.kind = 8 <;> by_cases h2 : r.who = x.who <;> by_cases h3 : r.number = x.number <;> simp [h1, h1', h2, h3]
theorem e3_ok (r x : ApiRecord) : monitor_Explain_3 r x = some ((), okE3 x r, ()) := by
  unfold monitor_Explain_3 okE3 bytes_Equal
  by_cases h1 : r.kind = 4 <;> by_cases h1' : r.kind2 = 2 <;> by_cases h2 : r.iD = x.iD <;> by_cases h3 : r.leaf = x.leaf <;> by_cases h4 : r.hash = x.hash <;> simp [h1, h1', h2, h3, h4]
theorem e4_ok (r x : ApiRecord) (l : List ApiRecord) (a b : Int) (ha : 0 ≤ a ∧ a < l.length) (hb : 0 ≤ b ∧ b < l.length) : monitor_Explain_4 r x l a b = some ((), okE4 x (ati l a) (ati l b) r, ()) := by
  unfold monitor_Explain_4 okE4 bytes_Equal
  rw [getI_some ha.1 ha.2, getI_some hb.1 hb.2]
  by_cases h1 : r.kind = 5 <;> by_cases h1' : r.kind2 = 2 <;> by_cases h2 : r.hash = x.hash <;> by_cases h3 : r.challenge = (ati l a).challenge <;> simp [h1, h1', h2, h3]
theorem e5_ok (r : ApiRecord) (l : List ApiRecord) (b : Int) (hb : 0 ≤ b ∧ b < l.length) : monitor_Explain_5 r l b = some ((), okE5 (ati l b) r, ()) := by
  unfold monitor_Explain_5 okE5
  rw [getI_some hb.1 hb.2]
  by_cases h1 : r.kind = 2 <;> by_cases h1' : r.who = (ati l b).who <;> by_cases h2 : (ati l b).since < r.time <;> by_cases h3 : r.number = 1 <;> by_cases h4 : r.number = 2 <;> simp [h1, h1', h2, h3, h4]
theorem last0 (l : List ApiRecord) (lo hi : Int) (x : ApiRecord) (h0 : 0 ≤ lo) (h1 : hi ≤ l.length) (h2 : 0 ≤ hi) (hl : l.length < 9223372036854775808) :
    monitor_last l lo hi (x, ()) = some ((), lastV (fun i => okE1 x (ati l i)) lo hi, ()) := by
  unfold monitor_last monitor_last_L0
  rw [wrap_id (by omega) (by omega), iter_last (fun i => (l, lo, (x, ()), i, ())) (fun i => okE1 x (ati l i)) lo hi, sum_last _ (fun i => some ((), i, ()))]
  · rfl
  · intro i hi1 hi2
    simp only [monitor_last_L0b]
    rw [getI_some (by omega) (by omega), wrap_id (by omega) (by omega)]
    simp only [hi1, decide_true, cond_true, Option.bind_some, e1_ok]
    cases okE1 x (ati l i) <;> rfl
  · intro i hi1
    simp only [monitor_last_L0b]
    simp only [show ¬ lo ≤ i by omega, decide_false, cond_false]
  · rw [rounds_eq]; omega
theorem last1 (l : List ApiRecord) (lo hi : Int) (x : ApiRecord) (h0 : 0 ≤ lo) (h1 : hi ≤ l.length) (h2 : 0 ≤ hi) (hl : l.length < 9223372036854775808) :
    monitor_last_1 l lo hi (x, ()) = some ((), lastV (fun i => okE2 x (ati l i)) lo hi, ()) := by
  unfold monitor_last_1 monitor_last_1_L0
  rw [wrap_id (by omega) (by omega), iter_last (fun i => (l, lo, (x, ()), i, ())) (fun i => okE2 x (ati l i)) lo hi, sum_last _ (fun i => some ((), i, ()))]
  · rfl
  · intro i hi1 hi2
    simp only [monitor_last_1_L0b]
    rw [getI_some (by omega) (by omega), wrap_id (by omega) (by omega)]
    simp only [hi1, decide_true, cond_true, Option.bind_some, e2_ok]
    cases okE2 x (ati l i) <;> rfl
  · intro i hi1
    simp only [monitor_last_1_L0b]
    simp only [show ¬ lo ≤ i by omega, decide_false, cond_false]
  · rw [rounds_eq]; omega
theorem last2 (l : List ApiRecord) (lo hi : Int) (x : ApiRecord) (h0 : 0 ≤ lo) (h1 : hi ≤ l.length) (h2 : 0 ≤ hi) (hl : l.length < 9223372036854775808) :
    monitor_last_2 l lo hi (x, ()) = some ((), lastV (fun i => okE3 x (ati l i)) lo hi, ()) := by
  unfold monitor_last_2 monitor_last_2_L0
  rw [wrap_id (by omega) (by omega), iter_last (fun i => (l, lo, (x, ()), i, ())) (fun i => okE3 x (ati l i)) lo hi, sum_last _ (fun i => some ((), i, ()))]
  · rfl
  · intro i hi1 hi2
    simp only [monitor_last_2_L0b]
    rw [getI_some (by omega) (by omega), wrap_id (by omega) (by omega)]
    simp only [hi1, decide_true, cond_true, Option.bind_some, e3_ok]
    cases okE3 x (ati l i) <;> rfl
  · intro i hi1
    simp only [monitor_last_2_L0b]
    simp only [show ¬ lo ≤ i by omega, decide_false, cond_false]
  · rw [rounds_eq]; omega
theorem last3 (l : List ApiRecord) (lo hi : Int) (x : ApiRecord) (a b : Int) (ha : 0 ≤ a ∧ a < l.length) (hb : 0 ≤ b ∧ b < l.length) (h0 : 0 ≤ lo) (h1 : hi ≤ l.length) (h2 : 0 ≤ hi) (hl : l.length < 9223372036854775808) :
    monitor_last_3 l lo hi (x, l, a, b, ()) = some ((), lastV (fun i => okE4 x (ati l a) (ati l b) (ati l i)) lo hi, ()) := by
  unfold monitor_last_3 monitor_last_3_L0
  rw [wrap_id (by omega) (by omega), iter_last (fun i => (l, lo, (x, l, a, b, ()), i, ())) (fun i => okE4 x (ati l a) (ati l b) (ati l i)) lo hi, sum_last _ (fun i => some ((), i, ()))]
  · rfl
  · intro i hi1 hi2
    simp only [monitor_last_3_L0b]
    rw [getI_some (by omega) (by omega), wrap_id (by omega) (by omega)]
    simp only [hi1, decide_true, cond_true, Option.bind_some, e4_ok _ _ _ _ _ ha hb]
    cases okE4 x (ati l a) (ati l b) (ati l i) <;> rfl
  · intro i hi1
    simp only [monitor_last_3_L0b]
    simp only [show ¬ lo ≤ i by omega, decide_false, cond_false]
  · rw [rounds_eq]; omega
theorem last4 (l : List ApiRecord) (lo hi : Int) (b : Int) (hb : 0 ≤ b ∧ b < l.length) (h0 : 0 ≤ lo) (h1 : hi ≤ l.length) (h2 : 0 ≤ hi) (hl : l.length < 9223372036854775808) :
    monitor_last_4 l lo hi (l, b, ()) = some ((), lastV (fun i => okE5 (ati l b) (ati l i)) lo hi, ()) := by
  unfold monitor_last_4 monitor_last_4_L0
  rw [wrap_id (by omega) (by omega), iter_last (fun i => (l, lo, (l, b, ()), i, ())) (fun i => okE5 (ati l b) (ati l i)) lo hi, sum_last _ (fun i => some ((), i, ()))]
  · rfl
  · intro i hi1 hi2
    simp only [monitor_last_4_L0b]
    rw [getI_some (by omega) (by omega), wrap_id (by omega) (by omega)]
    simp only [hi1, decide_true, cond_true, Option.bind_some, e5_ok _ _ _ hb]
    cases okE5 (ati l b) (ati l i) <;> rfl
  · intro i hi1
    simp only [monitor_last_4_L0b]
    simp only [show ¬ lo ≤ i by omega, decide_false, cond_false]
  · rw [rounds_eq]; omega
def flagP (x : ApiRecord) : Bool := decide ((IntKind.wrap .i64 ((BitVec.ofInt (IntKind.bits .i64) x.flags &&& BitVec.ofInt (IntKind.bits .i64) (1 : Int)).toNat : Int)) = 0)
def zc : ApiCause := ⟨0, 0, 0, 0⟩
def xIs (l : List ApiRecord) (i : Int) : Int := lastV (fun k => okE1 (ati l i) (ati l k)) 0 i
def xUs (l : List ApiRecord) (i : Int) : Int := lastV (fun k => okE2 (ati l i) (ati l k)) 0 i
def xSg (l : List ApiRecord) (i : Int) : Int := lastV (fun k => okE3 (ati l i) (ati l k)) 0 i
def xBg (l : List ApiRecord) (i a b : Int) : Int := lastV (fun k => okE4 (ati l i) (ati l a) (ati l b) (ati l k)) (a + 1) b
def xGe (l : List ApiRecord) (b : Int) : Int := lastV (fun k => okE5 (ati l b) (ati l k)) 0 b
def xp (l : List ApiRecord) (i : Int) : ApiCause × Int :=
  if i < 0 ∨ (l.length : Int) ≤ i then (zc, 9) else
  if (ati l i).kind ≠ 8 then (zc, 3) else
  if xIs l i < 0 then (zc, 35) else
  if 0 ≤ xUs l i then (zc, 35) else
  if (ati l (xIs l i)).text ≠ [] ∧ (ati l (xIs l i)).text ≠ (ati l i).text then (zc, 36) else
  if xSg l i < 0 then (zc, 15) else
  if xBg l i (xIs l i) (xSg l i) < 0 then (zc, 34) else
  if flagP (ati l i) = true ∨ xGe l (xSg l i) < 0 then (zc, 22) else
  (⟨xIs l i, xBg l i (xIs l i) (xSg l i), xSg l i, xGe l (xSg l i)⟩, 0)
theorem explain_ok (l : List ApiRecord) (i : Int) (hl : l.length < 9223372036854775808) : monitor_Explain l i = some ((), (xp l i).1, (xp l i).2, ()) := by
  unfold monitor_Explain xp
  by_cases h1 : i < 0
  · simp [h1, zc]
  by_cases h2 : (l.length : Int) ≤ i
  · simp [h1, h2, zc]
  rw [getI_some (by omega) (by omega)]
  simp only [h1, h2, or_self, if_false, decide_false, cond_false, Option.bind_some]
  by_cases h3' : ¬ (ati l i).kind = 8
  · simp [h3', zc]
  have h3 : (ati l i).kind = 8 := Decidable.not_not.1 h3'
  have hi1 : (i : Int) ≤ l.length := by omega
  rw [last0 l 0 i _ (by omega) hi1 (by omega) hl, last1 l 0 i _ (by omega) hi1 (by omega) hl, last2 l 0 i _ (by omega) hi1 (by omega) hl]
  simp only [h3, decide_true, Bool.not_true, cond_false, Option.bind_some, ne_eq, not_true, if_false]
  rw [show lastV (fun k => okE1 (ati l i) (ati l k)) 0 i = xIs l i from rfl, show lastV (fun k => okE2 (ati l i) (ati l k)) 0 i = xUs l i from rfl, show lastV (fun k => okE3 (ati l i) (ati l k)) 0 i = xSg l i from rfl]
  have r1 : xIs l i < i := by
    rcases lastV_cases (fun k => okE1 (ati l i) (ati l k)) 0 i with ⟨h, _⟩ | ⟨_, h, _⟩ <;> unfold xIs <;> omega
  have r3 : xSg l i < i := by
    rcases lastV_cases (fun k => okE3 (ati l i) (ati l k)) 0 i with ⟨h, _⟩ | ⟨_, h, _⟩ <;> unfold xSg <;> omega
  generalize hIs : xIs l i = a at *
  generalize hSg : xSg l i = b at *
  by_cases h4 : a < 0
  · simp [h4, zc]
  by_cases h5 : 0 ≤ xUs l i
  · simp [h4, h5, zc]
  simp only [h4, h5, decide_false, cond_false, if_false]
  rw [getI_some (show 0 ≤ a by omega) (show a < l.length by omega)]
  have tail : ∀ c : Bool, ((bif (decide (b < (0 : Int))) then (some ((), ((⟨(0 : Int), (0 : Int), (0 : Int), (0 : Int)⟩ : ApiCause), (15 : Int), ())))
 else ((monitor_last_3 l (IntKind.wrap .i64 (a + (1 : Int))) b (ati l i, l, a, b, ())).bind fun r7 => (bif (decide (r7.2.1 < (0 : Int))) then (some ((), ((⟨(0 : Int), (0 : Int), (0 : Int), (0 : Int)⟩ : ApiCause), (34 : Int), ())))
 else ((monitor_last_4 l (0 : Int) b (l, b, ())).bind fun r8 => (let v9 : Int := (IntKind.wrap .i64 ((BitVec.ofInt (IntKind.bits .i64) (ati l i).flags &&& BitVec.ofInt (IntKind.bits .i64) (1 : Int)).toNat : Int))
 (bif (decide (v9 = (0 : Int))) then (some ((), ((⟨(0 : Int), (0 : Int), (0 : Int), (0 : Int)⟩ : ApiCause), (22 : Int), ())))
 else (bif (decide (r8.2.1 < (0 : Int))) then (some ((), ((⟨(0 : Int), (0 : Int), (0 : Int), (0 : Int)⟩ : ApiCause), (22 : Int), ())))
 else (some ((), ((⟨a, r7.2.1, b, r8.2.1⟩ : ApiCause), (0 : Int), ())))))))))) : Option (Unit × (ApiCause × Int × Unit))) = some ((), (if b < 0 then (zc, (15 : Int)) else
  if xBg l i a b < 0 then (zc, 34) else
  if flagP (ati l i) = true ∨ xGe l b < 0 then (zc, 22) else
  (⟨a, xBg l i a b, b, xGe l b⟩, 0)).1, (if b < 0 then (zc, (15 : Int)) else
  if xBg l i a b < 0 then (zc, 34) else
  if flagP (ati l i) = true ∨ xGe l b < 0 then (zc, 22) else
  (⟨a, xBg l i a b, b, xGe l b⟩, 0)).2, ()) := by
    intro _
    by_cases h6 : b < 0
    · simp [h6, zc]
    rw [wrap_id (by omega) (by omega), last3 l (a + 1) b _ a b ⟨by omega, by omega⟩ ⟨by omega, by omega⟩ (by omega) (by omega) (by omega) hl, last4 l 0 b b ⟨by omega, by omega⟩ (by omega) (by omega) (by omega) hl]
    simp only [h6, decide_false, cond_false, Option.bind_some, if_false]
    rw [show lastV (fun k => okE4 (ati l i) (ati l a) (ati l b) (ati l k)) (a + 1) b = xBg l i a b from rfl, show lastV (fun k => okE5 (ati l b) (ati l k)) 0 b = xGe l b from rfl]
    by_cases h7 : xBg l i a b < 0
    · simp [h7, zc]
    simp only [h7, decide_false, cond_false, if_false]
    change (bif flagP (ati l i) then _ else _) = _
    cases flagP (ati l i) <;> by_cases h9 : xGe l b < 0 <;> simp [h9, zc]
  by_cases h6 : (ati l a).text = []
  · simp only [h6, decide_true, Bool.not_true, cond_false, Option.bind_some, ne_eq, not_true, false_and, if_false]
    exact tail true
  · by_cases h7 : (ati l a).text = (ati l i).text
    · simp only [h6, h7, decide_false, decide_true, Bool.not_true, Bool.not_false, cond_true, cond_false, Option.bind_some, ne_eq, not_true, and_false, if_false]
      rw [h7] at h6
      simp only [h6, decide_false, Bool.not_false, cond_true]
      exact tail true
    · simp [h6, h7, zc]
def DkOk (d : PasskeycastDeck) : Prop := 0 ≤ d.at_ ∧ d.at_ ≤ d.l.length ∧ (d.l.length : Int) < 9223372036854775808
theorem mod_ok (v n : Int) (h1 : 0 < n) (h2 : n < 9223372036854775808) : ∃ r, passkeycast_Mod v n = some ((), r, ()) ∧ 0 ≤ r ∧ r < n := by
  unfold passkeycast_Mod
  have e : (BitVec.ofInt 64 n).toNat = n.toNat := by simp [BitVec.toNat_ofInt]; omega
  have h0 : ¬ BitVec.ofInt 64 n = 0 := by
    intro h
    have := congrArg BitVec.toNat h
    rw [e] at this
    simp at this
    omega
  simp only [h0, decide_false, cond_false]
  have hlt : ((BitVec.ofInt 64 v) % (BitVec.ofInt 64 n)).toNat < n.toNat := by
    rw [BitVec.toNat_umod, e]
    exact Nat.mod_lt _ (by omega)
  generalize ((BitVec.ofInt 64 v) % (BitVec.ofInt 64 n)).toNat = q at hlt
  exact ⟨_, rfl, by rw [wrap_id (by omega) (by omega)]; omega, by rw [wrap_id (by omega) (by omega)]; omega⟩
theorem next_ok (d : PasskeycastDeck) (n : Int) (hd : DkOk d) (h1 : 0 < n) (h2 : n < 9223372036854775808) :
    ∃ d' r, passkeycast_Deck_Next (d, ()) n = some (((d', ()), ()), r, ()) ∧ 0 ≤ r ∧ r < n ∧ DkOk d' ∧ d'.l = d.l ∧ d.at_ ≤ d'.at_ ∧ (d.at_ < d.l.length → d.at_ < d'.at_) := by
  unfold passkeycast_Deck_Next
  obtain ⟨h3, h4, h5⟩ := hd
  by_cases h : (d.l.length : Int) ≤ d.at_
  · simp only [h, decide_true, cond_true]
    exact ⟨d, 0, rfl, by omega, by omega, ⟨h3, h4, h5⟩, rfl, by omega, by omega⟩
  · simp only [h, decide_false, cond_false]
    rw [wrap_id (n := d.at_ + 1) (by omega) (by omega), wrap_id (by omega) (by omega), show d.at_ + 1 - 1 = d.at_ by omega, getI_some h3 (by omega)]
    obtain ⟨r, hr, hr1, hr2⟩ := mod_ok (ati d.l d.at_) n h1 h2
    simp only [Option.bind_some, hr]
    exact ⟨_, r, rfl, hr1, hr2, ⟨by show 0 ≤ d.at_ + 1; omega, by show d.at_ + 1 ≤ (d.l.length : Int); omega, h5⟩, rfl, by show d.at_ ≤ d.at_ + 1; omega, fun _ => by show d.at_ < d.at_ + 1; omega⟩
def After (d : PasskeycastDeck) (d' : PasskeycastDeck) : Prop := DkOk d' ∧ d'.l = d.l ∧ d.at_ ≤ d'.at_ ∧ (d.at_ < d.l.length → d.at_ < d'.at_)
theorem After.step {d d' d'' : PasskeycastDeck} (h : After d d') (h2 : DkOk d'' ∧ d''.l = d'.l ∧ d'.at_ ≤ d''.at_ ∧ (d'.at_ < d'.l.length → d'.at_ < d''.at_)) : After d d'' :=
  ⟨h2.1, h2.2.1.trans h.2.1, by have := h.2.2.1; omega, fun q => by have := h.2.2.2 q; omega⟩
theorem Ok.next {β : Type} {d0 d : PasskeycastDeck} {n : Int} {f : (((PasskeycastDeck × Unit) × Unit) × (Int × Unit)) → Option β} {Q : β → Prop} (h1 : 0 < n) (h2 : n < 9223372036854775808) (hd : After d0 d)
    (h : ∀ d' r, After d0 d' → 0 ≤ r → r < n → Ok (f (((d', ()), ()), r, ())) Q) : Ok ((passkeycast_Deck_Next (d, ()) n).bind f) Q := by
  obtain ⟨d', r, e, h3, h4, h5⟩ := next_ok d n hd.1 h1 h2
  rw [e]
  exact h d' r (hd.step h5) h3 h4
theorem record_ok (d : PasskeycastDeck) (hd : DkOk d) : ∃ d' x, passkeycast_Deck_Record (d, ()) = some (((d', ()), ()), x, ()) ∧ DkOk d' ∧ x.iD.length ≤ 1 := by
  have key : Ok (passkeycast_Deck_Record (d, ())) fun r => After d r.1.1.1 ∧ r.2.1.iD.length ≤ 1 := by
    unfold passkeycast_Deck_Record
    obtain ⟨d1, r1, e1, a1, a2, a3, a4, a5, a6⟩ := next_ok d 10 hd (by omega) (by omega)
    have A1 : After d d1 := ⟨a3, a4, a5, a6⟩
    simp only [e1, Option.bind_some]
    repeat (first
      | (refine Ok.next (d0 := d) (by omega) (by omega) (by assumption) ?_; intro d' r hA hr0 hr1)
      | (refine Ok.cond ?_ ?_ <;> intro hc)
      | (refine Ok.get (by simp at *; omega) ?_; intro x)
      | (refine Ok.some ⟨by assumption, ?_⟩; simp)
      | (exfalso; simp at hc; omega))
  obtain ⟨⟨⟨⟨d', u⟩, u2⟩, x, u3⟩, h1, h2⟩ := key
  exact ⟨d', x, h1, h2.1.1, h2.2⟩
theorem lastV_lt (p : Int → Bool) (lo hi : Int) (h : 0 ≤ hi) : lastV p lo hi < hi := by
  rcases lastV_cases p lo hi with ⟨h, _⟩ | ⟨_, h, _⟩ <;> omega
theorem small_ok {n : Nat} (h : n ≤ 1000000) : small n 152 = true := by
  unfold small
  simp only [decide_eq_true_eq]
  omega
def s0 : ApiRecord := ⟨6, 0, 0, 4, 2, [97, 108, 105, 99, 101], [2], [], 0#64, 0#64, 0, 0, 0, 0⟩
def s1 : ApiRecord := ⟨5, 0, 0, 0, 2, [104, 116, 116, 112, 115, 58, 47, 47, 97, 46, 101, 120, 97, 109, 112, 108, 101], [2], [], 8#64, 9#64, 0, 0, 0, 0⟩
def s2 : ApiRecord := ⟨3, 0, 0, 0, 2, [], [], [], 8#64, 9#64, 0, 0, 0, 0⟩
def s3 : ApiRecord := ⟨2, 1, 0, 1, 0, [], [], [], 0#64, 0#64, 0, 0, 0, 0⟩
def s4 : ApiRecord := ⟨4, 1, 0, 0, 2, [], [], [1], 8#64, 9#64, 3, 1, 0, 0⟩
def s5 : ApiRecord := ⟨8, 1, 0, 4, 0, [97, 108, 105, 99, 101], [], [1], 0#64, 9#64, 3, 1, 0, 0⟩
theorem story_ok : passkeylaw41_story = some ((), [s0, s1, s2, s3, s4, s5], ()) := rfl
end Go.Proofs.Ythlingjlhikphaa

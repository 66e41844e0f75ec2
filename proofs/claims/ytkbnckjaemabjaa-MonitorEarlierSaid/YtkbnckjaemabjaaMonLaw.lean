/- The laws MonitorNeeds and MonitorEarlier, plainly: what the functions compute. -/
import Derived.Test.YtkbnckjaemabjaaFns
import Derived.Test.YtkbnckjaemabjaaTyZc
set_option linter.unusedVariables false
set_option maxRecDepth 100000
namespace Go.Proofs.Ytkbnckjaemabjaa
open Go Go.Abs

theorem awake_ok : passkeylaw41_awake = some ((), true, ()) := by kernel_rfl

def okE1 (x r : ApiRecord) : Bool := decide (r.kind = 6 ∧ r.who = x.who ∧ r.number = x.number ∧ r.kind2 = 2)
def okE2 (x r : ApiRecord) : Bool := decide ((r.kind = 7 ∨ r.kind = 8) ∧ r.who = x.who ∧ r.number = x.number)
def okE3 (x r : ApiRecord) : Bool := decide (r.kind = 4 ∧ r.kind2 = 2 ∧ r.iD = x.iD ∧ r.leaf = x.leaf ∧ r.hash = x.hash ∧ r.flags = x.flags)
def okE4 (x is sg r : ApiRecord) : Bool := decide (r.kind = 5 ∧ r.kind2 = 2 ∧ r.hash = x.hash ∧ r.challenge = is.challenge ∧ r.word = sg.word)
def okE5 (sg r : ApiRecord) : Bool := decide (r.kind = 2 ∧ r.who = sg.who ∧ sg.since < r.time ∧ (r.number = 1 ∨ r.number = 2 ∨ r.number = 3))

theorem e1_ok (r x : ApiRecord) : monitor_Explain_1 r x = some ((), okE1 x r, ()) := by
  unfold monitor_Explain_1 okE1
  by_cases h1 : r.kind = 6 <;> by_cases h2 : r.who = x.who <;> by_cases h3 : r.number = x.number <;> simp [h1, h2, h3]
theorem e2_ok (r x : ApiRecord) : monitor_Explain_2 r x = some ((), okE2 x r, ()) := by
  unfold monitor_Explain_2 okE2
  by_cases h1 : r.kind = 7 <;> by_cases h1' : r.kind = 8 <;> by_cases h2 : r.who = x.who <;> by_cases h3 : r.number = x.number <;> simp [h1, h1', h2, h3]
theorem e3_ok (r x : ApiRecord) : monitor_Explain_3 r x = some ((), okE3 x r, ()) := by
  unfold monitor_Explain_3 okE3 bytes_Equal
  by_cases h1 : r.kind = 4 <;> by_cases h1' : r.kind2 = 2 <;> by_cases h2 : r.iD = x.iD <;> by_cases h3 : r.leaf = x.leaf <;> by_cases h4 : r.hash = x.hash <;> simp [h1, h1', h2, h3, h4]
theorem e4_ok (r x : ApiRecord) (l : List ApiRecord) (a b : Int) (ha : 0 ≤ a ∧ a < l.length) (hb : 0 ≤ b ∧ b < l.length) : monitor_Explain_4 r x l a b = some ((), okE4 x (ati l a) (ati l b) r, ()) := by
  unfold monitor_Explain_4 okE4 bytes_Equal
  rw [getI_some ha.1 ha.2, getI_some hb.1 hb.2]
  by_cases h1 : r.kind = 5 <;> by_cases h1' : r.kind2 = 2 <;> by_cases h2 : r.hash = x.hash <;> by_cases h3 : r.challenge = (ati l a).challenge <;> simp [h1, h1', h2, h3]
theorem e5_ok (r : ApiRecord) (l : List ApiRecord) (b : Int) (hb : 0 ≤ b ∧ b < l.length) : monitor_Explain_5 r l b = some ((), okE5 (ati l b) r, ()) := by
  unfold monitor_Explain_5 okE5
  rw [getI_some hb.1 hb.2]
  by_cases h1 : r.kind = 2 <;> by_cases h1' : r.who = (ati l b).who <;> by_cases h2 : (ati l b).since < r.time <;> by_cases h3 : r.number = 1 <;> by_cases h4 : r.number = 2 <;> simp [h1, h1', h2, h3, h4]

theorem last0 (l : List ApiRecord) (lo hi : Int) (x : ApiRecord) (h0 : 0 ≤ lo) (h1 : hi ≤ l.length) (h2 : 0 ≤ hi) (hl : l.length < 9223372036854775808) :
    monitor_last l lo hi (x, ()) = some ((), lastV (fun i => okE1 x (ati l i)) lo hi, ()) := by
  unfold monitor_last monitor_last_L0
  rw [wrap_id (by omega) (by omega), iter_last (fun i => (l, lo, (x, ()), i, ())) (fun i => okE1 x (ati l i)) lo hi, sum_last _ (fun i => some ((), i, ()))]
  · rfl
  · intro i hi1 hi2
    simp only [monitor_last_L0b]
    rw [getI_some (by omega) (by omega), wrap_id (by omega) (by omega)]
    simp only [hi1, decide_true, cond_true, Option.bind_some, e1_ok]
    cases okE1 x (ati l i) <;> rfl
  · intro i hi1
    simp only [monitor_last_L0b]
    simp only [show ¬ lo ≤ i by omega, decide_false, cond_false]
  · rw [rounds_eq]; omega
theorem last1 (l : List ApiRecord) (lo hi : Int) (x : ApiRecord) (h0 : 0 ≤ lo) (h1 : hi ≤ l.length) (h2 : 0 ≤ hi) (hl : l.length < 9223372036854775808) :
    monitor_last_1 l lo hi (x, ()) = some ((), lastV (fun i => okE2 x (ati l i)) lo hi, ()) := by
  unfold monitor_last_1 monitor_last_1_L0
  rw [wrap_id (by omega) (by omega), iter_last (fun i => (l, lo, (x, ()), i, ())) (fun i => okE2 x (ati l i)) lo hi, sum_last _ (fun i => some ((), i, ()))]
  · rfl
  · intro i hi1 hi2
    simp only [monitor_last_1_L0b]
    rw [getI_some (by omega) (by omega), wrap_id (by omega) (by omega)]
    simp only [hi1, decide_true, cond_true, Option.bind_some, e2_ok]
    cases okE2 x (ati l i) <;> rfl
  · intro i hi1
    simp only [monitor_last_1_L0b]
    simp only [show ¬ lo ≤ i by omega, decide_false, cond_false]
  · rw [rounds_eq]; omega
theorem last2 (l : List ApiRecord) (lo hi : Int) (x : ApiRecord) (h0 : 0 ≤ lo) (h1 : hi ≤ l.length) (h2 : 0 ≤ hi) (hl : l.length < 9223372036854775808) :
    monitor_last_2 l lo hi (x, ()) = some ((), lastV (fun i => okE3 x (ati l i)) lo hi, ()) := by
  unfold monitor_last_2 monitor_last_2_L0
  rw [wrap_id (by omega) (by omega), iter_last (fun i => (l, lo, (x, ()), i, ())) (fun i => okE3 x (ati l i)) lo hi, sum_last _ (fun i => some ((), i, ()))]
  · rfl
  · intro i hi1 hi2
    simp only [monitor_last_2_L0b]
    rw [getI_some (by omega) (by omega), wrap_id (by omega) (by omega)]
    simp only [hi1, decide_true, cond_true, Option.bind_some, e3_ok]
    cases okE3 x (ati l i) <;> rfl
  · intro i hi1
    simp only [monitor_last_2_L0b]
    simp only [show ¬ lo ≤ i by omega, decide_false, cond_false]
  · rw [rounds_eq]; omega
theorem last3 (l : List ApiRecord) (lo hi : Int) (x : ApiRecord) (a b : Int) (ha : 0 ≤ a ∧ a < l.length) (hb : 0 ≤ b ∧ b < l.length) (h0 : 0 ≤ lo) (h1 : hi ≤ l.length) (h2 : 0 ≤ hi) (hl : l.length < 9223372036854775808) :
    monitor_last_3 l lo hi (x, l, a, b, ()) = some ((), lastV (fun i => okE4 x (ati l a) (ati l b) (ati l i)) lo hi, ()) := by
  unfold monitor_last_3 monitor_last_3_L0
  rw [wrap_id (by omega) (by omega), iter_last (fun i => (l, lo, (x, l, a, b, ()), i, ())) (fun i => okE4 x (ati l a) (ati l b) (ati l i)) lo hi, sum_last _ (fun i => some ((), i, ()))]
  · rfl
  · intro i hi1 hi2
    simp only [monitor_last_3_L0b]
    rw [getI_some (by omega) (by omega), wrap_id (by omega) (by omega)]
    simp only [hi1, decide_true, cond_true, Option.bind_some, e4_ok _ _ _ _ _ ha hb]
    cases okE4 x (ati l a) (ati l b) (ati l i) <;> rfl
  · intro i hi1
    simp only [monitor_last_3_L0b]
    simp only [show ¬ lo ≤ i by omega, decide_false, cond_false]
  · rw [rounds_eq]; omega
theorem last4 (l : List ApiRecord) (lo hi : Int) (b : Int) (hb : 0 ≤ b ∧ b < l.length) (h0 : 0 ≤ lo) (h1 : hi ≤ l.length) (h2 : 0 ≤ hi) (hl : l.length < 9223372036854775808) :
    monitor_last_4 l lo hi (l, b, ()) = some ((), lastV (fun i => okE5 (ati l b) (ati l i)) lo hi, ()) := by
  unfold monitor_last_4 monitor_last_4_L0
  rw [wrap_id (by omega) (by omega), iter_last (fun i => (l, lo, (l, b, ()), i, ())) (fun i => okE5 (ati l b) (ati l i)) lo hi, sum_last _ (fun i => some ((), i, ()))]
  · rfl
  · intro i hi1 hi2
    simp only [monitor_last_4_L0b]
    rw [getI_some (by omega) (by omega), wrap_id (by omega) (by omega)]
    simp only [hi1, decide_true, cond_true, Option.bind_some, e5_ok _ _ _ hb]
    cases okE5 (ati l b) (ati l i) <;> rfl
  · intro i hi1
    simp only [monitor_last_4_L0b]
    simp only [show ¬ lo ≤ i by omega, decide_false, cond_false]
  · rw [rounds_eq]; omega

/-- what Explain says, plainly. -/
def flagP (x : ApiRecord) : Bool := decide ((IntKind.wrap .i64 ((BitVec.ofInt (IntKind.bits .i64) x.flags &&& BitVec.ofInt (IntKind.bits .i64) (1 : Int)).toNat : Int)) = 0)
def zc : ApiCause := ⟨0, 0, 0, 0⟩
def xIs (l : List ApiRecord) (i : Int) : Int := lastV (fun k => okE1 (ati l i) (ati l k)) 0 i
def xUs (l : List ApiRecord) (i : Int) : Int := lastV (fun k => okE2 (ati l i) (ati l k)) 0 i
def xSg (l : List ApiRecord) (i : Int) : Int := lastV (fun k => okE3 (ati l i) (ati l k)) 0 i
def xBg (l : List ApiRecord) (i a b : Int) : Int := lastV (fun k => okE4 (ati l i) (ati l a) (ati l b) (ati l k)) (a + 1) b
def xGe (l : List ApiRecord) (b : Int) : Int := lastV (fun k => okE5 (ati l b) (ati l k)) 0 b
def xp (l : List ApiRecord) (i : Int) : ApiCause × Int :=
  if i < 0 ∨ (l.length : Int) ≤ i then (zc, 9) else
  if (ati l i).kind ≠ 8 then (zc, 3) else
  if xIs l i < 0 then (zc, 35) else
  if 0 ≤ xUs l i then (zc, 35) else
  if (ati l (xIs l i)).text ≠ [] ∧ (ati l (xIs l i)).text ≠ (ati l i).text then (zc, 36) else
  if xSg l i < 0 then (zc, 15) else
  if xBg l i (xIs l i) (xSg l i) < 0 then (zc, 34) else
  if flagP (ati l i) = true ∨ xGe l (xSg l i) < 0 then (zc, 22) else
  (⟨xIs l i, xBg l i (xIs l i) (xSg l i), xSg l i, xGe l (xSg l i)⟩, 0)

theorem explain_ok (l : List ApiRecord) (i : Int) (hl : l.length < 9223372036854775808) : monitor_Explain l i = some ((), (xp l i).1, (xp l i).2, ()) := by
  unfold monitor_Explain xp
  by_cases h1 : i < 0
  · simp [h1, zc]
  by_cases h2 : (l.length : Int) ≤ i
  · simp [h1, h2, zc]
  rw [getI_some (by omega) (by omega)]
  simp only [h1, h2, or_self, if_false, decide_false, cond_false, Option.bind_some]
  by_cases h3' : ¬ (ati l i).kind = 8
  · simp [h3', zc]
  have h3 : (ati l i).kind = 8 := Decidable.not_not.1 h3'
  have hi1 : (i : Int) ≤ l.length := by omega
  rw [last0 l 0 i _ (by omega) hi1 (by omega) hl, last1 l 0 i _ (by omega) hi1 (by omega) hl, last2 l 0 i _ (by omega) hi1 (by omega) hl]
  simp only [h3, decide_true, Bool.not_true, cond_false, Option.bind_some, ne_eq, not_true, if_false]
  rw [show lastV (fun k => okE1 (ati l i) (ati l k)) 0 i = xIs l i from rfl, show lastV (fun k => okE2 (ati l i) (ati l k)) 0 i = xUs l i from rfl, show lastV (fun k => okE3 (ati l i) (ati l k)) 0 i = xSg l i from rfl]
  have r1 : xIs l i < i := by
    rcases lastV_cases (fun k => okE1 (ati l i) (ati l k)) 0 i with ⟨h, _⟩ | ⟨_, h, _⟩ <;> unfold xIs <;> omega
  have r3 : xSg l i < i := by
    rcases lastV_cases (fun k => okE3 (ati l i) (ati l k)) 0 i with ⟨h, _⟩ | ⟨_, h, _⟩ <;> unfold xSg <;> omega
  generalize hIs : xIs l i = a at *
  generalize hSg : xSg l i = b at *
  by_cases h4 : a < 0
  · simp [h4, zc]
  by_cases h5 : 0 ≤ xUs l i
  · simp [h4, h5, zc]
  simp only [h4, h5, decide_false, cond_false, if_false]
  rw [getI_some (show 0 ≤ a by omega) (show a < l.length by omega)]
  have tail : ∀ c : Bool, ((bif (decide (b < (0 : Int))) then (some ((), ((⟨(0 : Int), (0 : Int), (0 : Int), (0 : Int)⟩ : ApiCause), (15 : Int), ())))
 else ((monitor_last_3 l (IntKind.wrap .i64 (a + (1 : Int))) b (ati l i, l, a, b, ())).bind fun r7 => (bif (decide (r7.2.1 < (0 : Int))) then (some ((), ((⟨(0 : Int), (0 : Int), (0 : Int), (0 : Int)⟩ : ApiCause), (34 : Int), ())))
 else ((monitor_last_4 l (0 : Int) b (l, b, ())).bind fun r8 => (let v9 : Int := (IntKind.wrap .i64 ((BitVec.ofInt (IntKind.bits .i64) (ati l i).flags &&& BitVec.ofInt (IntKind.bits .i64) (1 : Int)).toNat : Int))
 (bif (decide (v9 = (0 : Int))) then (some ((), ((⟨(0 : Int), (0 : Int), (0 : Int), (0 : Int)⟩ : ApiCause), (22 : Int), ())))
 else (bif (decide (r8.2.1 < (0 : Int))) then (some ((), ((⟨(0 : Int), (0 : Int), (0 : Int), (0 : Int)⟩ : ApiCause), (22 : Int), ())))
 else (some ((), ((⟨a, r7.2.1, b, r8.2.1⟩ : ApiCause), (0 : Int), ())))))))))) : Option (Unit × (ApiCause × Int × Unit))) = some ((), (if b < 0 then (zc, (15 : Int)) else
  if xBg l i a b < 0 then (zc, 34) else
  if flagP (ati l i) = true ∨ xGe l b < 0 then (zc, 22) else
  (⟨a, xBg l i a b, b, xGe l b⟩, 0)).1, (if b < 0 then (zc, (15 : Int)) else
  if xBg l i a b < 0 then (zc, 34) else
  if flagP (ati l i) = true ∨ xGe l b < 0 then (zc, 22) else
  (⟨a, xBg l i a b, b, xGe l b⟩, 0)).2, ()) := by
    intro _
    by_cases h6 : b < 0
    · simp [h6, zc]
    rw [wrap_id (by omega) (by omega), last3 l (a + 1) b _ a b ⟨by omega, by omega⟩ ⟨by omega, by omega⟩ (by omega) (by omega) (by omega) hl, last4 l 0 b b ⟨by omega, by omega⟩ (by omega) (by omega) (by omega) hl]
    simp only [h6, decide_false, cond_false, Option.bind_some, if_false]
    rw [show lastV (fun k => okE4 (ati l i) (ati l a) (ati l b) (ati l k)) (a + 1) b = xBg l i a b from rfl, show lastV (fun k => okE5 (ati l b) (ati l k)) 0 b = xGe l b from rfl]
    by_cases h7 : xBg l i a b < 0
    · simp [h7, zc]
    simp only [h7, decide_false, cond_false, if_false]
    change (bif flagP (ati l i) then _ else _) = _
    cases flagP (ati l i) <;> by_cases h9 : xGe l b < 0 <;> simp [h9, zc]
  by_cases h6 : (ati l a).text = []
  · simp only [h6, decide_true, Bool.not_true, cond_false, Option.bind_some, ne_eq, not_true, false_and, if_false]
    exact tail true
  · by_cases h7 : (ati l a).text = (ati l i).text
    · simp only [h6, h7, decide_false, decide_true, Bool.not_true, Bool.not_false, cond_true, cond_false, Option.bind_some, ne_eq, not_true, and_false, if_false]
      rw [h7] at h6
      simp only [h6, decide_false, Bool.not_false, cond_true]
      exact tail true
    · simp [h6, h7, zc]

/-! ### decks -/
def DkOk (d : PasskeycastDeck) : Prop := 0 ≤ d.at_ ∧ d.at_ ≤ d.l.length ∧ (d.l.length : Int) < 9223372036854775808
theorem mod_ok (v n : Int) (h1 : 0 < n) (h2 : n < 9223372036854775808) : ∃ r, passkeycast_Mod v n = some ((), r, ()) ∧ 0 ≤ r ∧ r < n := by
  unfold passkeycast_Mod
  have e : (BitVec.ofInt 64 n).toNat = n.toNat := by simp [BitVec.toNat_ofInt]; omega
  have h0 : ¬ BitVec.ofInt 64 n = 0 := by
    intro h
    have := congrArg BitVec.toNat h
    rw [e] at this
    simp at this
    omega
  simp only [h0, decide_false, cond_false]
  have hlt : ((BitVec.ofInt 64 v) % (BitVec.ofInt 64 n)).toNat < n.toNat := by
    rw [BitVec.toNat_umod, e]
    exact Nat.mod_lt _ (by omega)
  generalize ((BitVec.ofInt 64 v) % (BitVec.ofInt 64 n)).toNat = q at hlt
  exact ⟨_, rfl, by rw [wrap_id (by omega) (by omega)]; omega, by rw [wrap_id (by omega) (by omega)]; omega⟩
theorem next_ok (d : PasskeycastDeck) (n : Int) (hd : DkOk d) (h1 : 0 < n) (h2 : n < 9223372036854775808) :
    ∃ d' r, passkeycast_Deck_Next (d, ()) n = some (((d', ()), ()), r, ()) ∧ 0 ≤ r ∧ r < n ∧ DkOk d' ∧ d'.l = d.l ∧ d.at_ ≤ d'.at_ ∧ (d.at_ < d.l.length → d.at_ < d'.at_) := by
  unfold passkeycast_Deck_Next
  obtain ⟨h3, h4, h5⟩ := hd
  by_cases h : (d.l.length : Int) ≤ d.at_
  · simp only [h, decide_true, cond_true]
    exact ⟨d, 0, rfl, by omega, by omega, ⟨h3, h4, h5⟩, rfl, by omega, by omega⟩
  · simp only [h, decide_false, cond_false]
    rw [wrap_id (n := d.at_ + 1) (by omega) (by omega), wrap_id (by omega) (by omega), show d.at_ + 1 - 1 = d.at_ by omega, getI_some h3 (by omega)]
    obtain ⟨r, hr, hr1, hr2⟩ := mod_ok (ati d.l d.at_) n h1 h2
    simp only [Option.bind_some, hr]
    exact ⟨_, r, rfl, hr1, hr2, ⟨by show 0 ≤ d.at_ + 1; omega, by show d.at_ + 1 ≤ (d.l.length : Int); omega, h5⟩, rfl, by show d.at_ ≤ d.at_ + 1; omega, fun _ => by show d.at_ < d.at_ + 1; omega⟩

def After (d : PasskeycastDeck) (d' : PasskeycastDeck) : Prop := DkOk d' ∧ d'.l = d.l ∧ d.at_ ≤ d'.at_ ∧ (d.at_ < d.l.length → d.at_ < d'.at_)
theorem After.step {d d' d'' : PasskeycastDeck} (h : After d d') (h2 : DkOk d'' ∧ d''.l = d'.l ∧ d'.at_ ≤ d''.at_ ∧ (d'.at_ < d'.l.length → d'.at_ < d''.at_)) : After d d'' :=
  ⟨h2.1, h2.2.1.trans h.2.1, by have := h.2.2.1; omega, fun q => by have := h.2.2.2 q; omega⟩
theorem Ok.next {β : Type} {d0 d : PasskeycastDeck} {n : Int} {f : (((PasskeycastDeck × Unit) × Unit) × (Int × Unit)) → Option β} {Q : β → Prop} (h1 : 0 < n) (h2 : n < 9223372036854775808) (hd : After d0 d)
    (h : ∀ d' r, After d0 d' → 0 ≤ r → r < n → Ok (f (((d', ()), ()), r, ())) Q) : Ok ((passkeycast_Deck_Next (d, ()) n).bind f) Q := by
  obtain ⟨d', r, e, h3, h4, h5⟩ := next_ok d n hd.1 h1 h2
  rw [e]
  exact h d' r (hd.step h5) h3 h4

theorem record_ok (d : PasskeycastDeck) (hd : DkOk d) (hl : d.at_ < d.l.length) : ∃ d' x, passkeycast_Deck_Record (d, ()) = some (((d', ()), ()), x, ()) ∧ DkOk d' ∧ d'.l = d.l ∧ d.at_ < d'.at_ ∧ 0 ≤ x.who ∧ x.who < 2 := by
  have key : Ok (passkeycast_Deck_Record (d, ())) fun r => After d r.1.1.1 ∧ 0 ≤ r.2.1.who ∧ r.2.1.who < 2 := by
    unfold passkeycast_Deck_Record
    obtain ⟨d1, r1, e1, a1, a2, a3, a4, a5, a6⟩ := next_ok d 10 hd (by omega) (by omega)
    have A1 : After d d1 := ⟨a3, a4, a5, a6⟩
    simp only [e1, Option.bind_some]
    repeat (first
      | (refine Ok.next (d0 := d) (by omega) (by omega) (by assumption) ?_; intro d' r hA hr0 hr1)
      | (refine Ok.cond ?_ ?_ <;> intro hc)
      | (refine Ok.get (by simp at *; omega) ?_; intro x)
      | (refine Ok.some ⟨by assumption, ?_, ?_⟩ <;> dsimp only <;> omega)
      | (exfalso; simp at hc; omega))
  obtain ⟨⟨⟨⟨d', u⟩, u2⟩, x, u3⟩, h1, h2⟩ := key
  exact ⟨d', x, h1, h2.1.1, h2.1.2.1, h2.1.2.2.2 hl, h2.2⟩

theorem lastV_ge (p : Int → Bool) (lo hi : Int) (h : 0 ≤ lo) : -1 ≤ lastV p lo hi := by
  rcases lastV_cases p lo hi with ⟨h, _⟩ | ⟨h, _⟩ <;> omega
theorem lastV_lt (p : Int → Bool) (lo hi : Int) (h : 0 ≤ hi) : lastV p lo hi < hi := by
  rcases lastV_cases p lo hi with ⟨h, _⟩ | ⟨_, h, _⟩ <;> omega

/-- what is said of a record depends on the earlier ones alone. -/
theorem xp_congr (l m : List ApiRecord) (i : Int) (h0 : 0 ≤ i) (h1 : i < l.length) (h2 : i < m.length) (h : ∀ j, 0 ≤ j → j ≤ i → ati l j = ati m j) : xp l i = xp m i := by
  have hat : ∀ j, -1 ≤ j → j ≤ i → ati l j = ati m j := by
    intro j a b
    by_cases e : j = -1
    · subst e; exact h 0 (by omega) h0
    · exact h j (by omega) b
  have e0 := hat i (by omega) (by omega)
  have eI : xIs l i = xIs m i := lastV_congr fun k a b => by rw [e0, hat k (by omega) (by omega)]
  have eU : xUs l i = xUs m i := lastV_congr fun k a b => by rw [e0, hat k (by omega) (by omega)]
  have eS : xSg l i = xSg m i := lastV_congr fun k a b => by rw [e0, hat k (by omega) (by omega)]
  have bI := lastV_ge (fun k => okE1 (ati m i) (ati m k)) 0 i (by omega)
  have bI' := lastV_lt (fun k => okE1 (ati m i) (ati m k)) 0 i (by omega)
  have bS := lastV_ge (fun k => okE3 (ati m i) (ati m k)) 0 i (by omega)
  have bS' := lastV_lt (fun k => okE3 (ati m i) (ati m k)) 0 i (by omega)
  change -1 ≤ xIs m i at bI
  change xIs m i < i at bI'
  change -1 ≤ xSg m i at bS
  change xSg m i < i at bS'
  have eB : xBg l i (xIs m i) (xSg m i) = xBg m i (xIs m i) (xSg m i) := lastV_congr fun k a b => by rw [e0, hat k (by omega) (by omega), hat (xIs m i) (by omega) (by omega), hat (xSg m i) (by omega) (by omega)]
  have eG : xGe l (xSg m i) = xGe m (xSg m i) := lastV_congr fun k a b => by rw [hat k (by omega) (by omega), hat (xSg m i) (by omega) (by omega)]
  unfold xp
  rw [eI, eU, eS, eB, eG, e0, hat (xIs m i) (by omega) (by omega)]
  simp only [show ¬ (l.length : Int) ≤ i by omega, show ¬ (m.length : Int) ≤ i by omega]

theorem small_ok {n : Nat} (h : n ≤ 1000000) : small n 152 = true := by
  unfold small
  simp only [decide_eq_true_eq]
  omega

theorem earlier_L0 (a1 : UInt8) (a2 : List Int) (d : PasskeycastDeck) (hd : DkOk d) : Ok (passkeylaw41_MonitorEarlier_L0 (a1, a2, (d, ()), [], ())) fun z => z.1 = a1 ∧ z.2.1 = a2 ∧ z.2.2.1.length ≤ 25 := by
  unfold passkeylaw41_MonitorEarlier_L0
  refine Ok.iter (fun s => s.1 = a1 ∧ s.2.1 = a2 ∧ DkOk s.2.2.1.1 ∧ s.2.2.2.1.length ≤ 25) (fun s => 25 - s.2.2.2.1.length) ⟨rfl, rfl, hd, by simp⟩ (by rw [rounds_eq]; simp) ?_
  rintro ⟨y0, y1, ⟨d, u⟩, l, u2⟩ ⟨rfl, rfl, hd, hl⟩
  simp only [passkeylaw41_MonitorEarlier_L0b, passkeycast_Deck_Left, Option.bind_some]
  refine Ok.cond ?_ ?_ <;> intro hc
  · refine Ok.cond ?_ ?_ <;> intro hc2
    · obtain ⟨d', x, h3, h4, h5, h6, h7⟩ := record_ok d hd (by simpa using hc)
      rw [h3]
      simp only [Option.bind_some]
      simp only [decide_eq_true_eq] at hc2
      rw [small_ok (by simp; omega)]
      refine Ok.some ?_
      refine ⟨⟨rfl, rfl, h4, ?_⟩, ?_⟩ <;> simp <;> omega
    · exact Ok.some ⟨rfl, rfl, hl⟩
  · exact Ok.some ⟨rfl, rfl, hl⟩

theorem earlier_L2 (l : List ApiRecord) (k : Int) (m0 : List ApiRecord) (hm0 : m0.length ≤ 40) (d : PasskeycastDeck) (hd : DkOk d) : Ok (passkeylaw41_MonitorEarlier_L2 ((d, ()), l, k, m0, ())) fun z => z.1 = l ∧ z.2.1 = k ∧ z.2.2.1.length ≤ 40 ∧ ∃ r, z.2.2.1 = m0 ++ r := by
  unfold passkeylaw41_MonitorEarlier_L2
  refine Ok.iter (fun s => s.2.1 = l ∧ s.2.2.1 = k ∧ DkOk s.1.1 ∧ s.2.2.2.1.length ≤ 40 ∧ ∃ r, s.2.2.2.1 = m0 ++ r) (fun s => 40 - s.2.2.2.1.length) ⟨rfl, rfl, hd, hm0, [], by simp⟩ (by rw [rounds_eq]; simp; omega) ?_
  rintro ⟨⟨d, u⟩, y0, y1, m, u2⟩ ⟨rfl, rfl, hd, hl, r, hr⟩
  simp only [passkeylaw41_MonitorEarlier_L2b, passkeycast_Deck_Left, Option.bind_some]
  simp only at hl hr
  refine Ok.cond ?_ ?_ <;> intro hc
  · refine Ok.cond ?_ ?_ <;> intro hc2
    · obtain ⟨d', x, h3, h4, h5, h6, h7⟩ := record_ok d hd (by simpa using hc)
      rw [h3]
      simp only [Option.bind_some]
      simp only [decide_eq_true_eq] at hc2
      rw [small_ok (by simp; omega)]
      refine Ok.some ?_
      refine ⟨⟨rfl, rfl, h4, ?_, r ++ [x], ?_⟩, ?_⟩
      · simp; omega
      · simp [hr]
      · simp; omega
    · exact Ok.some ⟨rfl, rfl, hl, r, hr⟩
  · exact Ok.some ⟨rfl, rfl, hl, r, hr⟩

theorem earlier_L4 (l m : List ApiRecord) (k : Int) (h1 : k ≤ l.length) (h2 : k ≤ m.length) (hl : l.length < 9223372036854775808) (hm : m.length < 9223372036854775808) (h : ∀ j, 0 ≤ j → j < k → ati l j = ati m j) (h0 : 0 ≤ k) :
    Ok (passkeylaw41_MonitorEarlier_L4 (l, k, m, 0, ())) fun z => z = .inr () := by
  unfold passkeylaw41_MonitorEarlier_L4
  refine Ok.iter (fun s => s.1 = l ∧ s.2.1 = k ∧ s.2.2.1 = m ∧ 0 ≤ s.2.2.2.1 ∧ s.2.2.2.1 ≤ k) (fun s => (k - s.2.2.2.1).toNat) ⟨rfl, rfl, rfl, by simp, h0⟩ (by rw [rounds_eq]; simp; omega) ?_
  rintro ⟨y0, y1, y2, i, u2⟩ ⟨rfl, rfl, rfl, hi, hi2⟩
  simp only [passkeylaw41_MonitorEarlier_L4b]
  dsimp only at hi hi2 h1 h2 hl hm h h0
  refine Ok.cond ?_ ?_ <;> intro hc
  · simp only [decide_eq_true_eq] at hc
    rw [explain_ok _ _ hl, explain_ok _ _ hm, xp_congr y0 y2 i hi (by omega) (by omega) (fun j a b => h j a (by omega))]
    simp only [Option.bind_some]
    simp only [decide_true, Bool.and_self, Bool.not_true, cond_false]
    rw [wrap_id (by omega) (by omega)]
    exact Ok.some ⟨⟨rfl, rfl, rfl, by simp; omega, by simp; omega⟩, by simp; omega⟩
  · exact Ok.some rfl

theorem MonitorEarlier_plain (a0 : List Int) (a1 : UInt8) (a2 : List Int) (hd : MonitorEarlier_dom a0 a1 a2) : Ok (passkeylaw41_MonitorEarlier a0 a1 a2) fun r => r.2.1 = true := by
  have h0 := dok_len hd.1
  have h2 := dok_len hd.2.2.1
  dsimp only at h0 h2
  unfold passkeylaw41_MonitorEarlier
  simp only [passkeycast_New, Option.bind_some]
  refine Ok.bind ((earlier_L0 a1 a2 ⟨a0, 0⟩ ⟨by simp, by simp, by simp; omega⟩).mono ?_)
  rintro ⟨z1, z2, l, u⟩ ⟨rfl, rfl, hl⟩
  dsimp only at *
  refine Ok.bind (Ok.mono (Q := fun j : (List Int × List ApiRecord × Int × Unit) => j.1 = z2 ∧ j.2.1 = l ∧ 0 ≤ j.2.2.1 ∧ j.2.2.1 ≤ l.length) ?_ ?_)
  · refine Ok.cond ?_ ?_ <;> intro hc
    · simp only [decide_eq_true_eq] at hc
      have : ¬ (l.length : Int) = 0 := by omega
      simp only [this, decide_false, cond_false]
      refine Ok.some ⟨rfl, rfl, ?_, ?_⟩
      · dsimp only
        exact Int.tmod_nonneg _ (by omega)
      · dsimp only
        exact Int.le_of_lt (Int.tmod_lt_of_pos _ hc)
    · exact Ok.some ⟨rfl, rfl, by simp, by simp⟩
  · rintro ⟨j1, j2, k, u⟩ ⟨rfl, rfl, hk0, hk1⟩
    dsimp only at *
    simp only [hk0, hk1, decide_true, Bool.and_self, cond_true, show k.toNat ≤ j2.length by omega]
    rw [small_ok (by simp; omega)]
    simp only [cond_true]
    refine Ok.bind ((earlier_L2 j2 k (j2.take k.toNat) (by simp; omega) ⟨j1, 0⟩ ⟨by simp, by simp, by simp; omega⟩).mono ?_)
    rintro ⟨z1, z2, m, u⟩ ⟨rfl, rfl, hm, r, hr⟩
    dsimp only at *
    subst hr
    refine Ok.bind ((earlier_L4 z1 (z1.take z2.toNat ++ r) z2 hk1 (by simp; omega) (by omega) (by omega) ?_ hk0).mono ?_)
    · intro j a b
      rw [ati_append_left a (by simp; omega)]
      unfold ati
      simp only [List.getD_eq_getElem?_getD, List.getElem?_take]
      rw [if_pos (by omega)]
    · rintro z rfl
      simp only [Sum.elim_inr, awake_ok, Option.bind_some]
      exact Ok.some rfl

/-! ### MonitorNeeds -/
def s0 : ApiRecord := ⟨6, 0, 0, 4, 2, [97, 108, 105, 99, 101], [2], [], 0#64, 0#64, 0, 0, 0, 0⟩
def s1 : ApiRecord := ⟨5, 0, 0, 0, 2, [104, 116, 116, 112, 115, 58, 47, 47, 97, 46, 101, 120, 97, 109, 112, 108, 101], [2], [], 8#64, 9#64, 0, 0, 0, 0⟩
def s2 : ApiRecord := ⟨3, 0, 0, 0, 2, [], [], [], 8#64, 9#64, 0, 0, 0, 0⟩
def s3 : ApiRecord := ⟨2, 1, 0, 1, 0, [], [], [], 0#64, 0#64, 0, 0, 0, 0⟩
def s4 : ApiRecord := ⟨4, 1, 0, 0, 2, [], [], [1], 8#64, 9#64, 3, 1, 0, 0⟩
def s5 : ApiRecord := ⟨8, 1, 0, 4, 0, [97, 108, 105, 99, 101], [], [1], 0#64, 9#64, 3, 1, 0, 0⟩
theorem story_ok : passkeylaw41_story = some ((), [s0, s1, s2, s3, s4, s5], ()) := rfl

def Far (l : List ApiRecord) : Prop := ∀ r ∈ l, r.who ≠ 0 ∧ r.iD = [7]
theorem far_at {l m : List ApiRecord} (h : Far l) {i : Int} (h0 : 0 ≤ i) (h1 : i < l.length) : (ati (l ++ m) i).who ≠ 0 ∧ (ati (l ++ m) i).iD = [7] := by
  rw [ati_append_left h0 h1]
  unfold ati
  have : i.toNat < l.length := by omega
  rw [List.getD_eq_getElem?_getD, List.getElem?_eq_getElem this]
  exact h _ (List.getElem_mem _)
theorem tail_at {l m : List ApiRecord} (c : Nat) : ati (l ++ m) (l.length + c) = m.getD c default := by
  rw [ati_append_right (by omega)]
  unfold ati
  congr 1
  omega

theorem flag5 : flagP s5 = false := by kernel_rfl
theorem e1_far {r : ApiRecord} (h : r.who ≠ 0) : okE1 s5 r = false := by unfold okE1 s5; simp [h]
theorem e2_far {r : ApiRecord} (h : r.who ≠ 0) : okE2 s5 r = false := by unfold okE2 s5; simp [h]
theorem e3_far {r : ApiRecord} (h : r.iD = [7]) : okE3 s5 r = false := by unfold okE3 s5; simp [h]
theorem e5_far {r : ApiRecord} (h : r.who ≠ 0) : okE5 s4 r = false := by unfold okE5 s4; simp [h]

theorem needs_full (l rest : List ApiRecord) (hl : Far l) (n : Int) (hn : n = l.length) : xp (l ++ ([s0, s1, s2, s3, s4, s5] ++ rest)) (n + 5) = (⟨n, n + 1, n + 4, n + 3⟩, 0) := by
  subst hn
  generalize hL : l ++ ([s0, s1, s2, s3, s4, s5] ++ rest) = L
  have A0 : ati L l.length = s0 := by rw [← hL]; exact tail_at 0
  have A1 : ati L (l.length + 1) = s1 := by rw [← hL]; exact tail_at 1
  have A2 : ati L (l.length + 2) = s2 := by rw [← hL]; exact tail_at 2
  have A3 : ati L (l.length + 3) = s3 := by rw [← hL]; exact tail_at 3
  have A4 : ati L (l.length + 4) = s4 := by rw [← hL]; exact tail_at 4
  have A5 : ati L (l.length + 5) = s5 := by rw [← hL]; exact tail_at 5
  have hF : ∀ i : Int, 0 ≤ i → i < l.length → (ati L i).who ≠ 0 ∧ (ati L i).iD = [7] := fun i a b => by rw [← hL]; exact far_at hl a b
  have hlen : (l.length : Int) + 5 < L.length := by rw [← hL]; simp; omega
  clear hL
  have eI : xIs L (l.length + 5) = l.length := by
    unfold xIs
    rw [A5]
    refine lastV_eq (by omega) (by omega) (by rw [A0]; rfl) fun i a b => ?_
    rcases (show i = l.length + 1 ∨ i = l.length + 2 ∨ i = l.length + 3 ∨ i = l.length + 4 by omega) with rfl | rfl | rfl | rfl
    · rw [A1]; rfl
    · rw [A2]; rfl
    · rw [A3]; rfl
    · rw [A4]; rfl
  have eU : xUs L (l.length + 5) = -1 := by
    unfold xUs
    rw [A5]
    refine lastV_none fun i a b => ?_
    by_cases h : i < l.length
    · exact e2_far (hF i a h).1
    rcases (show i = l.length ∨ i = l.length + 1 ∨ i = l.length + 2 ∨ i = l.length + 3 ∨ i = l.length + 4 by omega) with rfl | rfl | rfl | rfl | rfl
    · rw [A0]; rfl
    · rw [A1]; rfl
    · rw [A2]; rfl
    · rw [A3]; rfl
    · rw [A4]; rfl
  have eS : xSg L (l.length + 5) = l.length + 4 := by
    unfold xSg
    rw [A5]
    exact lastV_eq (by omega) (by omega) (by rw [A4]; rfl) fun i a b => by omega
  have eB : xBg L (l.length + 5) l.length (l.length + 4) = l.length + 1 := by
    unfold xBg
    rw [A5, A0, A4]
    refine lastV_eq (by omega) (by omega) (by rw [A1]; rfl) fun i a b => ?_
    rcases (show i = l.length + 2 ∨ i = l.length + 3 by omega) with rfl | rfl
    · rw [A2]; rfl
    · rw [A3]; rfl
  have eG : xGe L (l.length + 4) = l.length + 3 := by
    unfold xGe
    rw [A4]
    exact lastV_eq (by omega) (by omega) (by rw [A3]; rfl) fun i a b => by omega
  unfold xp
  rw [eI, eU, eS, eB, eG, A5, A0, flag5]
  rw [if_neg (by omega), if_neg (by simp [s5]), if_neg (by omega), if_neg (by omega), if_neg (by simp [s0, s5]), if_neg (by omega), if_neg (by omega), if_neg (by simp; omega)]

theorem needs_0 (l rest : List ApiRecord) (hl : Far l) (n : Int) (hn : n = l.length) : (xp (l ++ ([s1, s2, s3, s4, s5] ++ rest)) (n + 4)).2 = 35 := by
  subst hn
  generalize hL : l ++ ([s1, s2, s3, s4, s5] ++ rest) = L
  have A1 : ati L l.length = s1 := by rw [← hL]; exact tail_at 0
  have A2 : ati L (l.length + 1) = s2 := by rw [← hL]; exact tail_at 1
  have A3 : ati L (l.length + 2) = s3 := by rw [← hL]; exact tail_at 2
  have A4 : ati L (l.length + 3) = s4 := by rw [← hL]; exact tail_at 3
  have A5 : ati L (l.length + 4) = s5 := by rw [← hL]; exact tail_at 4
  have hF : ∀ i : Int, 0 ≤ i → i < l.length → (ati L i).who ≠ 0 ∧ (ati L i).iD = [7] := fun i a b => by rw [← hL]; exact far_at hl a b
  have hlen : (l.length : Int) + 4 < L.length := by rw [← hL]; simp; omega
  clear hL
  have eI : xIs L (l.length + 4) = -1 := by
    unfold xIs
    rw [A5]
    refine lastV_none fun i a b => ?_
    by_cases h : i < l.length
    · exact e1_far (hF i a h).1
    rcases (show i = l.length ∨ i = l.length + 1 ∨ i = l.length + 2 ∨ i = l.length + 3 by omega) with rfl | rfl | rfl | rfl
    · rw [A1]; rfl
    · rw [A2]; rfl
    · rw [A3]; rfl
    · rw [A4]; rfl
  unfold xp
  rw [eI, A5]
  rw [if_neg (by omega), if_neg (by simp [s5]), if_pos (by omega)]

theorem needs_1 (l rest : List ApiRecord) (hl : Far l) (n : Int) (hn : n = l.length) : (xp (l ++ ([s0, s2, s3, s4, s5] ++ rest)) (n + 4)).2 = 34 := by
  subst hn
  generalize hL : l ++ ([s0, s2, s3, s4, s5] ++ rest) = L
  have A1 : ati L l.length = s0 := by rw [← hL]; exact tail_at 0
  have A2 : ati L (l.length + 1) = s2 := by rw [← hL]; exact tail_at 1
  have A3 : ati L (l.length + 2) = s3 := by rw [← hL]; exact tail_at 2
  have A4 : ati L (l.length + 3) = s4 := by rw [← hL]; exact tail_at 3
  have A5 : ati L (l.length + 4) = s5 := by rw [← hL]; exact tail_at 4
  have hF : ∀ i : Int, 0 ≤ i → i < l.length → (ati L i).who ≠ 0 ∧ (ati L i).iD = [7] := fun i a b => by rw [← hL]; exact far_at hl a b
  have hlen : (l.length : Int) + 4 < L.length := by rw [← hL]; simp; omega
  clear hL
  have eI : xIs L (l.length + 4) = l.length := by
    unfold xIs
    rw [A5]
    refine lastV_eq (by omega) (by omega) (by rw [A1]; rfl) fun i a b => ?_
    rcases (show i = l.length + 1 ∨ i = l.length + 2 ∨ i = l.length + 3 by omega) with rfl | rfl | rfl
    · rw [A2]; rfl
    · rw [A3]; rfl
    · rw [A4]; rfl
  have eU : xUs L (l.length + 4) = -1 := by
    unfold xUs
    rw [A5]
    refine lastV_none fun i a b => ?_
    by_cases h : i < l.length
    · exact e2_far (hF i a h).1
    rcases (show i = l.length ∨ i = l.length + 1 ∨ i = l.length + 2 ∨ i = l.length + 3 by omega) with rfl | rfl | rfl | rfl
    · rw [A1]; rfl
    · rw [A2]; rfl
    · rw [A3]; rfl
    · rw [A4]; rfl
  have eS : xSg L (l.length + 4) = l.length + 3 := by
    unfold xSg
    rw [A5]
    exact lastV_eq (by omega) (by omega) (by rw [A4]; rfl) fun i a b => by omega
  have eB : xBg L (l.length + 4) l.length (l.length + 3) = -1 := by
    unfold xBg
    rw [A5, A1, A4]
    refine lastV_none fun i a b => ?_
    rcases (show i = l.length + 1 ∨ i = l.length + 2 by omega) with rfl | rfl
    · rw [A2]; rfl
    · rw [A3]; rfl
  unfold xp
  rw [eI, eU, eS, eB, A5, A1]
  rw [if_neg (by omega), if_neg (by simp [s5]), if_neg (by omega), if_neg (by omega), if_neg (by simp [s0, s5]), if_neg (by omega), if_pos (by omega)]

theorem needs_4 (l rest : List ApiRecord) (hl : Far l) (n : Int) (hn : n = l.length) : (xp (l ++ ([s0, s1, s2, s3, s5] ++ rest)) (n + 4)).2 = 15 := by
  subst hn
  generalize hL : l ++ ([s0, s1, s2, s3, s5] ++ rest) = L
  have A1 : ati L l.length = s0 := by rw [← hL]; exact tail_at 0
  have A2 : ati L (l.length + 1) = s1 := by rw [← hL]; exact tail_at 1
  have A3 : ati L (l.length + 2) = s2 := by rw [← hL]; exact tail_at 2
  have A4 : ati L (l.length + 3) = s3 := by rw [← hL]; exact tail_at 3
  have A5 : ati L (l.length + 4) = s5 := by rw [← hL]; exact tail_at 4
  have hF : ∀ i : Int, 0 ≤ i → i < l.length → (ati L i).who ≠ 0 ∧ (ati L i).iD = [7] := fun i a b => by rw [← hL]; exact far_at hl a b
  have hlen : (l.length : Int) + 4 < L.length := by rw [← hL]; simp; omega
  clear hL
  have eI : xIs L (l.length + 4) = l.length := by
    unfold xIs
    rw [A5]
    refine lastV_eq (by omega) (by omega) (by rw [A1]; rfl) fun i a b => ?_
    rcases (show i = l.length + 1 ∨ i = l.length + 2 ∨ i = l.length + 3 by omega) with rfl | rfl | rfl
    · rw [A2]; rfl
    · rw [A3]; rfl
    · rw [A4]; rfl
  have eU : xUs L (l.length + 4) = -1 := by
    unfold xUs
    rw [A5]
    refine lastV_none fun i a b => ?_
    by_cases h : i < l.length
    · exact e2_far (hF i a h).1
    rcases (show i = l.length ∨ i = l.length + 1 ∨ i = l.length + 2 ∨ i = l.length + 3 by omega) with rfl | rfl | rfl | rfl
    · rw [A1]; rfl
    · rw [A2]; rfl
    · rw [A3]; rfl
    · rw [A4]; rfl
  have eS : xSg L (l.length + 4) = -1 := by
    unfold xSg
    rw [A5]
    refine lastV_none fun i a b => ?_
    by_cases h : i < l.length
    · exact e3_far (hF i a h).2
    rcases (show i = l.length ∨ i = l.length + 1 ∨ i = l.length + 2 ∨ i = l.length + 3 by omega) with rfl | rfl | rfl | rfl
    · rw [A1]; rfl
    · rw [A2]; rfl
    · rw [A3]; rfl
    · rw [A4]; rfl
  unfold xp
  rw [eI, eU, eS, A5, A1]
  rw [if_neg (by omega), if_neg (by simp [s5]), if_neg (by omega), if_neg (by omega), if_neg (by simp [s0, s5]), if_pos (by omega)]

theorem needs_3 (l rest : List ApiRecord) (hl : Far l) (n : Int) (hn : n = l.length) : (xp (l ++ ([s0, s1, s2, s4, s5] ++ rest)) (n + 4)).2 = 22 := by
  subst hn
  generalize hL : l ++ ([s0, s1, s2, s4, s5] ++ rest) = L
  have A1 : ati L l.length = s0 := by rw [← hL]; exact tail_at 0
  have A2 : ati L (l.length + 1) = s1 := by rw [← hL]; exact tail_at 1
  have A3 : ati L (l.length + 2) = s2 := by rw [← hL]; exact tail_at 2
  have A4 : ati L (l.length + 3) = s4 := by rw [← hL]; exact tail_at 3
  have A5 : ati L (l.length + 4) = s5 := by rw [← hL]; exact tail_at 4
  have hF : ∀ i : Int, 0 ≤ i → i < l.length → (ati L i).who ≠ 0 ∧ (ati L i).iD = [7] := fun i a b => by rw [← hL]; exact far_at hl a b
  have hlen : (l.length : Int) + 4 < L.length := by rw [← hL]; simp; omega
  clear hL
  have eI : xIs L (l.length + 4) = l.length := by
    unfold xIs
    rw [A5]
    refine lastV_eq (by omega) (by omega) (by rw [A1]; rfl) fun i a b => ?_
    rcases (show i = l.length + 1 ∨ i = l.length + 2 ∨ i = l.length + 3 by omega) with rfl | rfl | rfl
    · rw [A2]; rfl
    · rw [A3]; rfl
    · rw [A4]; rfl
  have eU : xUs L (l.length + 4) = -1 := by
    unfold xUs
    rw [A5]
    refine lastV_none fun i a b => ?_
    by_cases h : i < l.length
    · exact e2_far (hF i a h).1
    rcases (show i = l.length ∨ i = l.length + 1 ∨ i = l.length + 2 ∨ i = l.length + 3 by omega) with rfl | rfl | rfl | rfl
    · rw [A1]; rfl
    · rw [A2]; rfl
    · rw [A3]; rfl
    · rw [A4]; rfl
  have eS : xSg L (l.length + 4) = l.length + 3 := by
    unfold xSg
    rw [A5]
    exact lastV_eq (by omega) (by omega) (by rw [A4]; rfl) fun i a b => by omega
  have eB : xBg L (l.length + 4) l.length (l.length + 3) = l.length + 1 := by
    unfold xBg
    rw [A5, A1, A4]
    refine lastV_eq (by omega) (by omega) (by rw [A2]; rfl) fun i a b => ?_
    rcases (show i = l.length + 2 by omega) with rfl
    rw [A3]; rfl
  have eG : xGe L (l.length + 3) = -1 := by
    unfold xGe
    rw [A4]
    refine lastV_none fun i a b => ?_
    by_cases h : i < l.length
    · exact e5_far (hF i a h).1
    rcases (show i = l.length ∨ i = l.length + 1 ∨ i = l.length + 2 by omega) with rfl | rfl | rfl
    · rw [A1]; rfl
    · rw [A2]; rfl
    · rw [A3]; rfl
  unfold xp
  rw [eI, eU, eS, eB, eG, A5, A1, flag5]
  rw [if_neg (by omega), if_neg (by simp [s5]), if_neg (by omega), if_neg (by omega), if_neg (by simp [s0, s5]), if_neg (by omega), if_neg (by omega), if_pos (by simp)]

theorem needs_L0 (a0 : UInt8) (a2 : List Int) (d : PasskeycastDeck) (hd : DkOk d) : Ok (passkeylaw41_MonitorNeeds_L0 (a0, a2, (d, ()), [], ())) fun z => z.1 = a0 ∧ z.2.1 = a2 ∧ z.2.2.1.length ≤ 10 ∧ Far z.2.2.1 := by
  unfold passkeylaw41_MonitorNeeds_L0
  refine Ok.iter (fun s => s.1 = a0 ∧ s.2.1 = a2 ∧ DkOk s.2.2.1.1 ∧ s.2.2.2.1.length ≤ 10 ∧ Far s.2.2.2.1) (fun s => 10 - s.2.2.2.1.length) ⟨rfl, rfl, hd, by simp, fun r h => by cases h⟩ (by rw [rounds_eq]; simp) ?_
  rintro ⟨y0, y1, ⟨d, u⟩, l, u2⟩ ⟨rfl, rfl, hd, hl, hf⟩
  simp only [passkeylaw41_MonitorNeeds_L0b, passkeycast_Deck_Left, Option.bind_some]
  refine Ok.cond ?_ ?_ <;> intro hc
  · refine Ok.cond ?_ ?_ <;> intro hc2
    · obtain ⟨d', x, h3, h4, h5, h6, h7, h8⟩ := record_ok d hd (by simpa using hc)
      rw [h3]
      simp only [Option.bind_some]
      simp only [decide_eq_true_eq] at hc2
      rw [small_ok (by simp; omega)]
      refine Ok.some ?_
      refine ⟨⟨rfl, rfl, h4, ?_, ?_⟩, ?_⟩
      · simp; omega
      · intro r hr
        rcases List.mem_append.1 hr with hr | hr
        · exact hf r hr
        · rw [List.mem_singleton] at hr
          subst hr
          refine ⟨?_, rfl⟩
          dsimp only
          rw [wrap_id (by omega) (by omega)]
          omega
      · simp; omega
    · exact Ok.some ⟨rfl, rfl, hl, hf⟩
  · exact Ok.some ⟨rfl, rfl, hl, hf⟩

theorem needs_L2 (l : List ApiRecord) (want at0 : Int) (f0 g0 : List ApiRecord) (hf0 : f0.length ≤ 30) (hg0 : g0.length ≤ f0.length) (d : PasskeycastDeck) (hd : DkOk d) : Ok (passkeylaw41_MonitorNeeds_L2 ((d, ()), l, want, f0, at0, g0, ())) fun z => z.1 = l ∧ z.2.1 = want ∧ z.2.2.2.1 = at0 ∧ z.2.2.1.length ≤ 30 ∧ z.2.2.2.2.1.length ≤ 30 ∧ ∃ r, z.2.2.1 = f0 ++ r ∧ z.2.2.2.2.1 = g0 ++ r := by
  unfold passkeylaw41_MonitorNeeds_L2
  refine Ok.iter (fun s => s.2.1 = l ∧ s.2.2.1 = want ∧ s.2.2.2.2.1 = at0 ∧ DkOk s.1.1 ∧ s.2.2.2.1.length ≤ 30 ∧ s.2.2.2.2.2.1.length ≤ s.2.2.2.1.length ∧ ∃ r, s.2.2.2.1 = f0 ++ r ∧ s.2.2.2.2.2.1 = g0 ++ r) (fun s => 30 - s.2.2.2.1.length) ⟨rfl, rfl, rfl, hd, hf0, hg0, [], by simp⟩ (by rw [rounds_eq]; simp; omega) ?_
  rintro ⟨⟨d, u⟩, y1, y2, f, y4, g, u2⟩ ⟨rfl, rfl, rfl, hd, hl, hl2, r, hr, hr2⟩
  simp only [passkeylaw41_MonitorNeeds_L2b, passkeycast_Deck_Left, Option.bind_some]
  dsimp only at *
  refine Ok.cond ?_ ?_ <;> intro hc
  · refine Ok.cond ?_ ?_ <;> intro hc2
    · obtain ⟨d', x, h3, h4, h5, h6, h7, h8⟩ := record_ok d hd (by simpa using hc)
      rw [h3]
      simp only [Option.bind_some]
      simp only [decide_eq_true_eq] at hc2
      rw [small_ok (by simp; omega), small_ok (by simp; omega)]
      refine Ok.some ?_
      refine ⟨⟨rfl, rfl, rfl, h4, ?_, ?_, r ++ [x], ?_, ?_⟩, ?_⟩
      · simp; omega
      · simp; omega
      · simp [hr]
      · simp [hr2]
      · simp; omega
    · exact Ok.some ⟨rfl, rfl, rfl, hl, by dsimp only; omega, r, hr, hr2⟩
  · exact Ok.some ⟨rfl, rfl, rfl, hl, by dsimp only; omega, r, hr, hr2⟩

theorem MonitorNeeds_plain (a0 : UInt8) (a1 : List Int) (a2 : List Int) (hd : MonitorNeeds_dom a0 a1 a2) : Ok (passkeylaw41_MonitorNeeds a0 a1 a2) fun r => r.2.1 = true := by
  have h0 := dok_len hd.2.1
  have h2 := dok_len hd.2.2.1
  dsimp only at h0 h2
  unfold passkeylaw41_MonitorNeeds
  simp only [passkeycast_New, Option.bind_some]
  refine Ok.bind ((needs_L0 a0 a2 ⟨a1, 0⟩ ⟨by simp, by simp, by simp; omega⟩).mono ?_)
  rintro ⟨z1, z2, l, u⟩ ⟨rfl, rfl, hl, hf⟩
  dsimp only at *
  simp only [story_ok, Option.bind_some, show ((4 : UInt8).toBitVec = 0) = False by decide, decide_false, cond_false]
  have hw : (UInt8.ofBitVec (z1.toBitVec % (4 : UInt8).toBitVec)).toNat < 4 := by
    have : (UInt8.ofBitVec (z1.toBitVec % (4 : UInt8).toBitVec)).toNat = z1.toNat % 4 := rfl
    omega
  generalize (UInt8.ofBitVec (z1.toBitVec % (4 : UInt8).toBitVec)).toNat = q at hw
  have tl : ∀ (want : Int) (g0 : List ApiRecord), g0.length = l.length + 5 → (∀ rest, (xp (g0 ++ rest) (l.length + 4)).2 = want) → Ok ((passkeylaw41_MonitorNeeds_L2 (((⟨z2, 0⟩ : PasskeycastDeck), ()), l, want, (l ++ [s0, s1, s2, s3, s4, s5]), (IntKind.wrap .i64 (((l).length : Int) + (5 : Int))), g0, ())).bind (fun (z15 : ((List (ApiRecord)) × Int × (List (ApiRecord)) × Int × (List (ApiRecord)) × Unit)) => ((monitor_Explain z15.2.2.1 z15.2.2.2.1).bind fun r16 => ((monitor_Explain z15.2.2.2.2.1 (IntKind.wrap .i64 (z15.2.2.2.1 - (1 : Int)))).bind fun r17 => (bif (decide (r16.2.2.1 = (0 : Int))) then (bif (decide (r16.2.1.issued = ((z15.1).length : Int))) then (bif (decide (r16.2.1.begun = (IntKind.wrap .i64 (((z15.1).length : Int) + (1 : Int))))) then (bif (decide (r16.2.1.signed = (IntKind.wrap .i64 (((z15.1).length : Int) + (4 : Int))))) then (bif (decide (r16.2.1.gesture = (IntKind.wrap .i64 (((z15.1).length : Int) + (3 : Int))))) then (bif (decide (r17.2.2.1 = z15.2.1)) then ((passkeylaw41_awake).bind fun r18 => (some ((), (r18.2.1, ()))))
 else (some ((), (false, ()))))
 else (some ((), (false, ()))))
 else (some ((), (false, ()))))
 else (some ((), (false, ()))))
 else (some ((), (false, ()))))
 else (some ((), (false, ())))))))) fun r => r.2.1 = true := by
    intro want g0 hg hx
    refine Ok.bind ((needs_L2 l want _ (l ++ [s0, s1, s2, s3, s4, s5]) g0 (by simp; omega) (by simp; omega) ⟨z2, 0⟩ ⟨by simp, by simp, by simp; omega⟩).mono ?_)
    rintro ⟨w1, w2, f, w4, g, u⟩ ⟨q1, q2, q3, hf1, hg1, r, q4, q5⟩
    dsimp only at *
    subst q1; subst q2; subst q3; subst q4; subst q5
    rw [wrap_id (n := (w1.length : Int) + 5) (by omega) (by omega), wrap_id (n := (w1.length : Int) + 5 - 1) (by omega) (by omega), wrap_id (n := (w1.length : Int) + 1) (by omega) (by omega), wrap_id (n := (w1.length : Int) + 4) (by omega) (by omega), wrap_id (n := (w1.length : Int) + 3) (by omega) (by omega)]
    rw [explain_ok _ _ (by omega), explain_ok _ _ (by omega), show (w1.length : Int) + 5 - 1 = w1.length + 4 by omega, hx r, List.append_assoc, needs_full w1 r hf _ rfl]
    simp only [Option.bind_some, decide_true, cond_true, awake_ok]
    exact Ok.some rfl
  have hs : ∀ n : Nat, n ≤ 40 → small n 152 = true := fun n h => small_ok (by omega)
  have w1' : IntKind.i64.wrap (0 + 1) = 1 := rfl
  have w2' : IntKind.i64.wrap (1 + 1) = 2 := rfl
  have w4' : IntKind.i64.wrap (4 + 1) = 5 := rfl
  have w3' : IntKind.i64.wrap (3 + 1) = 4 := rfl
  rcases (show q = 0 ∨ q = 1 ∨ q = 2 ∨ q = 3 by omega) with rfl | rfl | rfl | rfl
  · refine Ok.cond (fun _ => Ok.bind ⟨_, rfl, Ok.cond (fun _ => Ok.bind ⟨_, rfl, ?_⟩) (fun h => by simp at h)⟩) (fun h => by simp at h)
    dsimp only
    iterate 9 refine Ok.cond (fun _ => ?_) (fun h => by first | (exfalso; rw [hs _ (by first | omega | (simp; omega) | (simp only [w1', w2', w4', w3']; simp; omega))] at h; cases h) | exact absurd h (by decide))
    refine tl 35 _ ?_ ?_
    · rw [w1']; simp
    · intro rest
      have := needs_0 l rest hf _ rfl
      rw [w1']; simpa using this
  · refine Ok.cond (fun _ => Ok.bind ⟨_, rfl, Ok.cond (fun _ => Ok.bind ⟨_, rfl, ?_⟩) (fun h => by simp at h)⟩) (fun h => by simp at h)
    dsimp only
    iterate 9 refine Ok.cond (fun _ => ?_) (fun h => by first | (exfalso; rw [hs _ (by first | omega | (simp; omega) | (simp only [w1', w2', w4', w3']; simp; omega))] at h; cases h) | exact absurd h (by decide))
    refine tl 34 _ ?_ ?_
    · rw [w2']; simp
    · intro rest
      have := needs_1 l rest hf _ rfl
      rw [w2']; simpa using this
  · refine Ok.cond (fun _ => Ok.bind ⟨_, rfl, Ok.cond (fun _ => Ok.bind ⟨_, rfl, ?_⟩) (fun h => by simp at h)⟩) (fun h => by simp at h)
    dsimp only
    iterate 9 refine Ok.cond (fun _ => ?_) (fun h => by first | (exfalso; rw [hs _ (by first | omega | (simp; omega) | (simp only [w1', w2', w4', w3']; simp; omega))] at h; cases h) | exact absurd h (by decide))
    refine tl 15 _ ?_ ?_
    · rw [w4']; simp
    · intro rest
      have := needs_4 l rest hf _ rfl
      rw [w4']; simpa using this
  · refine Ok.cond (fun _ => Ok.bind ⟨_, rfl, Ok.cond (fun _ => Ok.bind ⟨_, rfl, ?_⟩) (fun h => by simp at h)⟩) (fun h => by simp at h)
    dsimp only
    iterate 9 refine Ok.cond (fun _ => ?_) (fun h => by first | (exfalso; rw [hs _ (by first | omega | (simp; omega) | (simp only [w1', w2', w4', w3']; simp; omega))] at h; cases h) | exact absurd h (by decide))
    refine tl 22 _ ?_ ?_
    · rw [w3']; simp
    · intro rest
      have := needs_3 l rest hf _ rfl
      rw [w3']; simpa using this
end Go.Proofs.Ytkbnckjaemabjaa

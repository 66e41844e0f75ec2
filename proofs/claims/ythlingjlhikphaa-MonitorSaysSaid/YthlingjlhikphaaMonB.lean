/- The law MonitorSays, plainly: the program's monitor and the document's say the same. No condition. -/
import Derived.Test.YthlingjlhikphaaMonA
set_option linter.unusedVariables false
set_option maxRecDepth 100000
namespace Go.Proofs.Ythlingjlhikphaa
open Go Go.Abs
theorem bif_and {α : Type} (a b : Bool) (x y : α) : (bif a then (bif b then x else y) else y) = bif (a && b) then x else y := by cases a <;> cases b <;> rfl
theorem lastV_zero (p : Int → Bool) : lastV p 0 0 = -1 := rfl
theorem lastV_succ (p : Int → Bool) (k : Nat) : lastV p 0 ((k : Int) + 1) = bif p k then (k : Int) else lastV p 0 k := by
  unfold lastV
  rw [show ((k : Int) + 1 - 0).toNat = k + 1 by omega, show ((k : Int) - 0).toNat = k by omega]
  simp only [lastO, Int.zero_add]
  cases p k <;> simp
theorem lastV_over (p : Int → Bool) (a b : Int) (h : -1 ≤ a) : lastV (fun k => decide (a < k) && p k) 0 b = lastV p (a + 1) b := by
  rcases lastV_cases p (a + 1) b with ⟨e, h1⟩ | ⟨h1, h2, h3, h4⟩
  · rw [e]
    refine lastV_none fun i hi1 hi2 => ?_
    by_cases hq : a < i
    · simp [h1 i (by omega) hi2]
    · simp [hq]
  · refine lastV_eq (by omega) h2 (by simp [h3]; omega) fun i hi1 hi2 => by simp [h4 i hi1 hi2]
theorem has_ok (r : ApiRecord) (k w n : Int) : passkeyref40_has r k w n = some ((), decide (r.kind = k ∧ r.who = w ∧ r.number = n), ()) := by
  unfold passkeyref40_has
  by_cases h1 : r.kind = k <;> by_cases h2 : r.who = w <;> simp [h1, h2]
theorem within_ok (a b c : Int) : passkeyref40_within a b c = some ((), decide (b ≤ a ∧ a ≤ c), ()) := by
  unfold passkeyref40_within
  by_cases h1 : b ≤ a <;> simp [h1]
theorem E1_eq (x r : ApiRecord) : (decide (r.kind = 6 ∧ r.who = x.who ∧ r.number = x.number) && decide (r.kind2 = 2)) = okE1 x r := by
  unfold okE1
  rw [Bool.eq_iff_iff]; simp [and_assoc]
theorem E2_eq (x r : ApiRecord) : (decide (r.kind = 7 ∧ r.who = x.who ∧ r.number = x.number) || decide (r.kind = 8 ∧ r.who = x.who ∧ r.number = x.number)) = okE2 x r := by
  unfold okE2
  rw [Bool.eq_iff_iff]; simp [or_and_right]
theorem E3_eq (x r : ApiRecord) : (decide (r.kind = 4) && (decide (r.kind2 = 2) && (decide (r.iD = x.iD) && (decide (r.leaf = x.leaf) && (decide (r.hash = x.hash) && decide (r.flags = x.flags)))))) = okE3 x r := by
  unfold okE3
  rw [Bool.eq_iff_iff]; simp
theorem E4_eq (x is sg r : ApiRecord) : (decide (r.kind = 5) && (decide (r.kind2 = 2) && (decide (r.hash = x.hash) && (decide (r.challenge = is.challenge) && decide (r.word = sg.word))))) = okE4 x is sg r := by
  unfold okE4
  rw [Bool.eq_iff_iff]; simp
theorem E5_eq (sg r : ApiRecord) : (decide (r.kind = 2) && (decide (r.who = sg.who) && (decide (sg.since < r.time) && decide (1 ≤ r.number ∧ r.number ≤ 3)))) = okE5 sg r := by
  unfold okE5
  rw [Bool.eq_iff_iff]; simp
  intro _ _ _
  omega
theorem rE_step (l : List ApiRecord) (i : Int) (z c : ApiCause) (x : ApiRecord) (u : Bool) (k : Int) (h0 : 0 ≤ k) (h1 : k < i) (h2 : i ≤ l.length) :
    passkeyref40_Explain_L0b l i (z, ()) (x, ()) (c, ()) u k = some (.inl (l, i, (z, ()), (x, ()), (⟨bif okE1 x (ati l k) then k else c.issued, c.begun, bif okE3 x (ati l k) then k else c.signed, c.gesture⟩, ()), (u || okE2 x (ati l k)), IntKind.wrap .i64 (k + 1), ())) := by
  unfold passkeyref40_Explain_L0b
  rw [getI_some h0 (by omega)]
  simp only [h1, decide_true, cond_true, Option.bind_some, has_ok]
  generalize ati l k = r
  simp only [bif_and, ← E1_eq x r, ← E2_eq x r, ← E3_eq x r]
  generalize hp : (decide (r.kind = 6 ∧ r.who = x.who ∧ r.number = x.number) && decide (r.kind2 = 2)) = p1
  have key : ∀ (c' : ApiCause), ((some (l, i, (z, ()), (x, ()), (c', ()), u, k, (r, ()), ()) : Option (List ApiRecord × Int × (ApiCause × Unit) × (ApiRecord × Unit) × (ApiCause × Unit) × Bool × Int × (ApiRecord × Unit) × Unit))) = some (l, i, (z, ()), (x, ()), (c', ()), u, k, (r, ()), ()) := fun _ => rfl
  cases p1 <;> simp only [cond_true, cond_false, Option.bind_some, bif_and]
  all_goals
    generalize (decide (r.kind = 4) && (decide (r.kind2 = 2) && (decide (r.iD = x.iD) && (decide (r.leaf = x.leaf) && (decide (r.hash = x.hash) && decide (r.flags = x.flags)))))) = p3
    generalize decide (r.kind = 7 ∧ r.who = x.who ∧ r.number = x.number) = p7
    generalize decide (r.kind = 8 ∧ r.who = x.who ∧ r.number = x.number) = p8
    cases u <;> cases p7 <;> cases p8 <;> cases p3 <;> rfl
theorem rE_L0 (l : List ApiRecord) (i : Nat) (z : ApiCause) (h2 : (i : Int) ≤ l.length) (hl : l.length < 9223372036854775808) :
    Ok (passkeyref40_Explain_L0 (l, (i : Int), (z, ()), (ati l i, ()), (⟨-1, -1, -1, -1⟩, ()), false, 0, ())) fun r => r = (l, (z, ()), (ati l i, ()), (⟨xIs l i, -1, xSg l i, -1⟩, ()), decide (0 ≤ xUs l i), ()) := by
  unfold passkeyref40_Explain_L0
  refine Ok.iter (fun s => ∃ k : Nat, k ≤ i ∧ s = (l, (i : Int), (z, ()), (ati l i, ()), (⟨lastV (fun k => okE1 (ati l i) (ati l k)) 0 k, -1, lastV (fun k => okE3 (ati l i) (ati l k)) 0 k, -1⟩, ()), decide (0 ≤ lastV (fun k => okE2 (ati l i) (ati l k)) 0 k), (k : Int), ()))
    (fun s => (i - s.2.2.2.2.2.2.1).toNat) ⟨0, by omega, by simp [lastV_zero]⟩ (by rw [rounds_eq]; simp; omega) ?_
  rintro _ ⟨k, hk, rfl⟩
  dsimp only
  by_cases hki : k < i
  · rw [rE_step l i z _ _ _ k (by omega) (by omega) h2, wrap_id (by omega) (by omega)]
    refine Ok.some ⟨⟨k + 1, by omega, ?_⟩, by dsimp only; omega⟩
    simp only [Int.natCast_add, Int.cast_ofNat_Int, lastV_succ, Prod.mk.injEq, true_and, and_true]
    cases okE2 (ati l i) (ati l k) <;> simp
  · have : k = i := by omega
    subst this
    unfold passkeyref40_Explain_L0b
    simp only [Int.lt_irrefl, decide_false, cond_false]
    exact Ok.some rfl
theorem rE3_step (l : List ApiRecord) (z c : ApiCause) (x s : ApiRecord) (k : Int) (h0 : 0 ≤ k) (h1 : k < c.signed) (h2 : c.signed ≤ l.length) (h3 : 0 ≤ c.issued) (h4 : c.issued < l.length) :
    passkeyref40_Explain_L3b l (z, ()) (x, ()) (c, ()) (s, ()) k = some (.inl (l, (z, ()), (x, ()), (⟨c.issued, bif decide (c.issued < k) && okE4 x (ati l c.issued) s (ati l k) then k else c.begun, c.signed, bif okE5 s (ati l k) then k else c.gesture⟩, ()), (s, ()), IntKind.wrap .i64 (k + 1), ())) := by
  unfold passkeyref40_Explain_L3b
  rw [getI_some h0 (by omega), getI_some h3 h4]
  simp only [h1, decide_true, cond_true, Option.bind_some, within_ok, bif_and]
  generalize ati l k = r
  simp only [← E4_eq x (ati l c.issued) s r, ← E5_eq s r]
  generalize (decide (c.issued < k) && (decide (r.kind = 5) && (decide (r.kind2 = 2) && (decide (r.hash = x.hash) && (decide (r.challenge = (ati l c.issued).challenge) && decide (r.word = s.word)))))) = p4
  cases p4 <;> simp only [cond_true, cond_false, Option.bind_some, bif_and]
  all_goals
    generalize (decide (r.kind = 2) && (decide (r.who = s.who) && (decide (s.since < r.time) && decide (1 ≤ r.number ∧ r.number ≤ 3)))) = p5
    cases p5 <;> rfl
theorem rE_L3 (l : List ApiRecord) (z : ApiCause) (x s : ApiRecord) (a : Int) (b : Nat) (h2 : (b : Int) ≤ l.length) (h3 : 0 ≤ a) (h4 : a < l.length) (hl : l.length < 9223372036854775808) :
    Ok (passkeyref40_Explain_L3 (l, (z, ()), (x, ()), (⟨a, -1, (b : Int), -1⟩, ()), (s, ()), 0, ())) fun r => r = ((z, ()), (x, ()), (⟨a, lastV (fun k => okE4 x (ati l a) s (ati l k)) (a + 1) b, (b : Int), lastV (fun k => okE5 s (ati l k)) 0 b⟩, ()), ()) := by
  unfold passkeyref40_Explain_L3
  refine Ok.iter (fun q => ∃ k : Nat, k ≤ b ∧ q = (l, (z, ()), (x, ()), (⟨a, lastV (fun k => decide (a < k) && okE4 x (ati l a) s (ati l k)) 0 k, (b : Int), lastV (fun k => okE5 s (ati l k)) 0 k⟩, ()), (s, ()), (k : Int), ()))
    (fun q => (b - q.2.2.2.2.2.1).toNat) ⟨0, by omega, by simp [lastV_zero]⟩ (by rw [rounds_eq]; simp; omega) ?_
  rintro _ ⟨k, hk, rfl⟩
  dsimp only
  by_cases hki : k < b
  · rw [rE3_step l z _ x s k (by omega) (by dsimp only; omega) h2 h3 h4, wrap_id (by omega) (by omega)]
    refine Ok.some ⟨⟨k + 1, by omega, ?_⟩, by dsimp only; omega⟩
    simp only [Int.natCast_add, Int.cast_ofNat_Int, lastV_succ, Prod.mk.injEq, true_and, and_true]
  · have : k = b := by omega
    subst this
    unfold passkeyref40_Explain_L3b
    simp only [Int.lt_irrefl, decide_false, cond_false]
    rw [← lastV_over _ a k (by omega)]
    exact Ok.some rfl
theorem rExplain_ok (l : List ApiRecord) (i : Int) (hl : l.length < 9223372036854775807) : passkeyref40_Explain l i = some ((), (xp l i).1, (xp l i).2, ()) := by
  unfold passkeyref40_Explain xp
  rw [within_ok, wrap_id (by omega) (by omega)]
  by_cases h1 : i < 0 ∨ (l.length : Int) ≤ i
  · have : decide (0 ≤ i ∧ i ≤ (l.length : Int) - 1) = false := by simp; omega
    simp [this, h1, zc]
  have h1' : decide (0 ≤ i ∧ i ≤ (l.length : Int) - 1) = true := by simp; omega
  rw [getI_some (by omega) (by omega)]
  simp only [h1, if_false, Option.bind_some, h1', Bool.not_true, cond_false]
  by_cases h3' : ¬ (ati l i).kind = 8
  · simp [h3', zc]
  have h3 : (ati l i).kind = 8 := Decidable.not_not.1 h3'
  obtain ⟨n, rfl⟩ : ∃ n : Nat, i = n := ⟨i.toNat, by omega⟩
  obtain ⟨r, e1, rfl⟩ := rE_L0 l n ⟨0, 0, 0, 0⟩ (by omega) (by omega)
  rw [e1]
  simp only [h3, decide_true, Bool.not_true, cond_false, Option.bind_some, ne_eq, not_true, if_false]
  have r1 : xIs l n < n := lastV_lt _ _ _ (by omega)
  have r3 : xSg l n < n := lastV_lt _ _ _ (by omega)
  generalize hIs : xIs l n = a at *
  generalize hSg : xSg l n = b at *
  by_cases h4 : a < 0
  · simp [h4, zc]
  by_cases h5 : 0 ≤ xUs l n
  · simp [h4, h5, zc]
  simp only [h4, h5, decide_false, cond_false, if_false]
  rw [getI_some (show 0 ≤ a by omega) (show a < l.length by omega)]
  have tail : ((bif (decide (b < (0 : Int))) then (some ((), ((⟨(0 : Int), (0 : Int), (0 : Int), (0 : Int)⟩ : ApiCause), (15 : Int), ())))
 else ((getI l b).bind fun x11 => ((passkeyref40_Explain_L3 (l, (⟨0, 0, 0, 0⟩, ()), (ati l n, ()), (⟨a, -1, b, -1⟩, ()), (x11, ()), (0 : Int), ())).bind (fun (z16 : ((ApiCause × Unit) × (ApiRecord × Unit) × (ApiCause × Unit) × Unit)) => (bif (decide (z16.2.2.1.1.begun < (0 : Int))) then (some ((), ((⟨(0 : Int), (0 : Int), (0 : Int), (0 : Int)⟩ : ApiCause), (34 : Int), ())))
 else (let v17 : Int := (IntKind.wrap .i64 ((BitVec.ofInt (IntKind.bits .i64) z16.2.1.1.flags &&& BitVec.ofInt (IntKind.bits .i64) (1 : Int)).toNat : Int))
 (bif (decide (v17 = (0 : Int))) then (some ((), ((⟨(0 : Int), (0 : Int), (0 : Int), (0 : Int)⟩ : ApiCause), (22 : Int), ())))
 else (bif (decide (z16.2.2.1.1.gesture < (0 : Int))) then (some ((), ((⟨(0 : Int), (0 : Int), (0 : Int), (0 : Int)⟩ : ApiCause), (22 : Int), ())))
 else (some ((), (z16.2.2.1.1, (0 : Int), ()))))))))))) : Option (Unit × (ApiCause × Int × Unit))) = some ((), (if b < 0 then (zc, (15 : Int)) else
  if xBg l n a b < 0 then (zc, 34) else
  if flagP (ati l n) = true ∨ xGe l b < 0 then (zc, 22) else
  (⟨a, xBg l n a b, b, xGe l b⟩, 0)).1, (if b < 0 then (zc, (15 : Int)) else
  if xBg l n a b < 0 then (zc, 34) else
  if flagP (ati l n) = true ∨ xGe l b < 0 then (zc, 22) else
  (⟨a, xBg l n a b, b, xGe l b⟩, 0)).2, ()) := by
    by_cases h6 : b < 0
    · simp [h6, zc]
    rw [getI_some (by omega) (by omega)]
    obtain ⟨m, rfl⟩ : ∃ m : Nat, b = m := ⟨b.toNat, by omega⟩
    obtain ⟨r, e2, rfl⟩ := rE_L3 l ⟨0, 0, 0, 0⟩ (ati l n) (ati l m) a m (by omega) (by omega) (by omega) (by omega)
    simp only [h6, decide_false, cond_false, Option.bind_some, if_false, e2]
    rw [show lastV (fun k => okE4 (ati l n) (ati l a) (ati l m) (ati l k)) (a + 1) m = xBg l n a m from rfl, show lastV (fun k => okE5 (ati l m) (ati l k)) 0 m = xGe l m from rfl]
    by_cases h7 : xBg l n a m < 0
    · simp [h7, zc]
    simp only [h7, decide_false, cond_false, if_false]
    change (bif flagP (ati l n) then _ else _) = _
    cases flagP (ati l n) <;> by_cases h9 : xGe l m < 0 <;> simp [h9, zc]
  by_cases h6 : (ati l a).text = []
  · simp only [h6, decide_true, Bool.not_true, cond_false, Option.bind_some, ne_eq, not_true, false_and, if_false]
    exact tail
  · by_cases h7 : (ati l a).text = (ati l n).text
    · simp only [h6, h7, decide_false, decide_true, Bool.not_true, Bool.not_false, cond_true, cond_false, Option.bind_some, ne_eq, not_true, and_false, if_false]
      rw [h7] at h6
      simp only [h6, decide_false, Bool.not_false, cond_true]
      exact tail
    · simp [h6, h7, zc]
theorem sm16 {n : Nat} (h : n ≤ 100000) : small n 16 = true := by
  unfold small
  simp only [decide_eq_true_eq]
  omega
theorem sm24 {n : Nat} (h : n ≤ 100000) : small n 24 = true := by
  unfold small
  simp only [decide_eq_true_eq]
  omega
theorem sm1 {n : Nat} (h : n ≤ 100000) : small n 1 = true := by
  unfold small
  simp only [decide_eq_true_eq]
  omega
def anyAt (p : ApiRecord → Bool) (l : List ApiRecord) : Nat → Bool
  | 0 => false
  | k + 1 => anyAt p l k || p (ati l k)
theorem anyAt_of {p : ApiRecord → Bool} {l : List ApiRecord} : ∀ {n k : Nat}, k < n → p (ati l k) = true → anyAt p l n = true
  | 0, _, h, _ => by omega
  | n + 1, k, h, hp => by
    simp only [anyAt, Bool.or_eq_true]
    by_cases e : k = n
    · subst e; exact .inr hp
    · exact .inl (anyAt_of (by omega) hp)
def chkAt (l : List ApiRecord) : Nat → List ApiFinding
  | 0 => []
  | k + 1 => bif decide ((ati l k).kind = 8) && !decide ((xp l k).2 = 0) then chkAt l k ++ [⟨k, (xp l k).2⟩] else chkAt l k
theorem chkAt_len (l : List ApiRecord) : ∀ k, (chkAt l k).length ≤ k
  | 0 => by simp [chkAt]
  | k + 1 => by
    have := chkAt_len l k
    simp only [chkAt]
    cases decide ((ati l k).kind = 8) && !decide ((xp l k).2 = 0) <;> simp <;> omega
theorem Check_ok (l : List ApiRecord) (hl : l.length ≤ 1000) : monitor_Check l = some ((), chkAt l l.length, ()) := by
  have key : Ok (monitor_Check_L0 (l, [], (l.length : Int), 0, ())) fun r => r = (chkAt l l.length, ()) := by
    unfold monitor_Check_L0
    refine Ok.iter (fun s => ∃ k : Nat, k ≤ l.length ∧ s = (l, chkAt l k, (l.length : Int), (k : Int), ())) (fun s => (l.length - s.2.2.2.1).toNat) ⟨0, by omega, rfl⟩ (by rw [rounds_eq]; simp; omega) ?_
    rintro _ ⟨k, hk, rfl⟩
    have hc := chkAt_len l k
    dsimp only
    unfold monitor_Check_L0b
    by_cases hki : k < l.length
    · have hlt : ((k : Int) < (l.length : Int)) := by omega
      rw [getI_some (by omega) hlt, explain_ok _ _ (by omega), wrap_id (by omega) (by omega)]
      have hsm : ∀ x : ApiFinding, small ((chkAt l k).length + [x].length) 16 = true := fun x => sm16 (by simp; omega)
      simp only [hlt, decide_true, cond_true, Option.bind_some, hsm]
      have step : ∀ c : List ApiFinding, c = chkAt l (k + 1) → (∃ k' : Nat, k' ≤ l.length ∧ (l, c, (l.length : Int), (k : Int) + 1, ()) = (l, chkAt l k', (l.length : Int), (k' : Int), ())) ∧ ((l.length : Int) - ((k : Int) + 1)).toNat < (l.length - (k : Int)).toNat :=
        fun c hc => ⟨⟨k + 1, by omega, by rw [hc]; rfl⟩, by omega⟩
      by_cases h1 : (ati l k).kind = 8
      · by_cases h2 : (xp l k).2 = 0
        · simp only [h1, h2, decide_true, Bool.not_true, cond_false]
          refine Ok.some (step _ ?_); simp [chkAt, h2]
        · simp only [h1, h2, decide_true, decide_false, Bool.not_true, Bool.not_false, cond_false, cond_true]
          refine Ok.some (step _ ?_); simp [chkAt, h1, h2]
      · simp only [h1, decide_false, Bool.not_false, cond_true]
        refine Ok.some (step _ ?_); simp [chkAt, h1]
    · have : k = l.length := by omega
      subst this
      simp only [Int.lt_irrefl, decide_false, cond_false]
      exact Ok.some rfl
  obtain ⟨r, e, rfl⟩ := key
  unfold monitor_Check
  rw [e]; rfl
theorem rCheck_ok (l : List ApiRecord) (hl : l.length ≤ 1000) : passkeyref40_Check l = some ((), chkAt l l.length, ()) := by
  have key : Ok (passkeyref40_Check_L0 (l, [], 0, ())) fun r => r = (chkAt l l.length, ()) := by
    unfold passkeyref40_Check_L0
    refine Ok.iter (fun s => ∃ k : Nat, k ≤ l.length ∧ s = (l, chkAt l k, (k : Int), ())) (fun s => (l.length - s.2.2.1).toNat) ⟨0, by omega, rfl⟩ (by rw [rounds_eq]; simp; omega) ?_
    rintro _ ⟨k, hk, rfl⟩
    have hc := chkAt_len l k
    dsimp only
    unfold passkeyref40_Check_L0b
    by_cases hki : k < l.length
    · have hlt : ((k : Int) < (l.length : Int)) := by omega
      rw [getI_some (by omega) hlt, rExplain_ok _ _ (by omega), wrap_id (by omega) (by omega)]
      have hsm : ∀ x : ApiFinding, small ((chkAt l k).length + [x].length) 16 = true := fun x => sm16 (by simp; omega)
      simp only [hlt, decide_true, cond_true, Option.bind_some, hsm]
      have step : ∀ c : List ApiFinding, c = chkAt l (k + 1) → (∃ k' : Nat, k' ≤ l.length ∧ (l, c, (k : Int) + 1, ()) = (l, chkAt l k', (k' : Int), ())) ∧ ((l.length : Int) - ((k : Int) + 1)).toNat < (l.length - (k : Int)).toNat :=
        fun c hc => ⟨⟨k + 1, by omega, by rw [hc]; rfl⟩, by omega⟩
      by_cases h1 : (ati l k).kind = 8
      · by_cases h2 : (xp l k).2 = 0
        · simp only [h1, h2, decide_true, Bool.not_true, cond_false]
          refine Ok.some (step _ ?_); simp [chkAt, h2]
        · simp only [h1, h2, decide_true, decide_false, Bool.not_true, Bool.not_false, cond_false, cond_true]
          refine Ok.some (step _ ?_); simp [chkAt, h1, h2]
      · simp only [h1, decide_false, Bool.not_false, cond_true]
        refine Ok.some (step _ ?_); simp [chkAt, h1]
    · have : k = l.length := by omega
      subst this
      simp only [Int.lt_irrefl, decide_false, cond_false]
      exact Ok.some rfl
  obtain ⟨r, e, rfl⟩ := key
  unfold passkeyref40_Check
  rw [e]; rfl
theorem keq7_eq (x y : MonitorUse) : keq7 x y = decide (x = y) := by
  obtain ⟨a, b, c⟩ := x
  obtain ⟨a', b', c'⟩ := y
  unfold keq7
  rw [Bool.eq_iff_iff]
  simp
theorem keq6_eq (x y : List UInt8) : keq6 x y = decide (x = y) := by
  unfold keq6
  rw [Bool.eq_iff_iff]
  simp
def sameL (r x : ApiRecord) : Bool := decide (x.kind = 8 ∧ x.who = r.who ∧ x.iD = r.iD ∧ x.leaf = r.leaf)
def lvAt (l : List ApiRecord) : Nat → List ApiFinding
  | 0 => []
  | k + 1 => bif decide ((ati l k).kind = 8) && anyAt (sameL (ati l k)) l k then lvAt l k ++ [⟨k, 37⟩] else lvAt l k
theorem lvAt_len (l : List ApiRecord) : ∀ k, (lvAt l k).length ≤ k
  | 0 => by simp [lvAt]
  | k + 1 => by
    have := lvAt_len l k
    simp only [lvAt]
    cases decide ((ati l k).kind = 8) && anyAt (sameL (ati l k)) l k <;> simp <;> omega
def SeenL (l : List ApiRecord) (k : Nat) (seen : List MonitorUse) : Prop := ∀ u : MonitorUse, seen.any (keq7 u) = anyAt (fun x => decide (x.kind = 8) && decide (u = ⟨x.who, x.iD, x.leaf⟩)) l k
theorem anyAt_congr {p q : ApiRecord → Bool} {l : List ApiRecord} (h : ∀ x, p x = q x) : ∀ n, anyAt p l n = anyAt q l n
  | 0 => rfl
  | n + 1 => by simp only [anyAt, anyAt_congr h n, h]
theorem seenL_sameL {l : List ApiRecord} {k : Nat} {seen : List MonitorUse} (h : SeenL l k seen) (r : ApiRecord) : seen.any (keq7 ⟨r.who, r.iD, r.leaf⟩) = anyAt (sameL r) l k := by
  rw [h]
  refine anyAt_congr (fun x => ?_) k
  unfold sameL
  rw [Bool.eq_iff_iff]
  simp only [MonitorUse.mk.injEq, Bool.and_eq_true, decide_eq_true_eq]
  constructor
  · rintro ⟨a, b, c, d⟩; exact ⟨a, b.symm, c.symm, d.symm⟩
  · rintro ⟨a, b, c, d⟩; exact ⟨a, b.symm, c.symm, d.symm⟩
theorem any_put (seen : List MonitorUse) (v u : MonitorUse) : (bif seen.any (keq7 v) then seen else seen ++ [v]).any (keq7 u) = (seen.any (keq7 u) || decide (u = v)) := by
  cases h : seen.any (keq7 v)
  · simp [keq7_eq]
  · simp only [cond_true]
    by_cases e : u = v
    · subst e; simp [h]
    · simp [e]
theorem Leaves_ok (l : List ApiRecord) (hl : l.length ≤ 1000) : monitor_Leaves l = some ((), lvAt l l.length, ()) := by
  have key : Ok (monitor_Leaves_L0 (l, [], [], (l.length : Int), 0, ())) fun r => r = (lvAt l l.length, ()) := by
    unfold monitor_Leaves_L0
    refine Ok.iter (fun s => ∃ (k : Nat) (seen : List MonitorUse), k ≤ l.length ∧ SeenL l k seen ∧ s = (l, lvAt l k, seen, (l.length : Int), (k : Int), ())) (fun s => (l.length - s.2.2.2.2.1).toNat) ⟨0, [], by omega, fun u => rfl, rfl⟩ (by rw [rounds_eq]; simp; omega) ?_
    rintro _ ⟨k, seen, hk, hs, rfl⟩
    have hc := lvAt_len l k
    dsimp only
    unfold monitor_Leaves_L0b
    by_cases hki : k < l.length
    · have hlt : ((k : Int) < (l.length : Int)) := by omega
      rw [getI_some (by omega) hlt, wrap_id (by omega) (by omega)]
      have hsm : ∀ x : ApiFinding, small ((lvAt l k).length + [x].length) 16 = true := fun x => sm16 (by simp; omega)
      simp only [hlt, decide_true, cond_true, Option.bind_some, hsm]
      have step : ∀ (c : List ApiFinding) (seen' : List MonitorUse), c = lvAt l (k + 1) → SeenL l (k + 1) seen' → (∃ (k' : Nat) (seen : List MonitorUse), k' ≤ l.length ∧ SeenL l k' seen ∧ (l, c, seen', (l.length : Int), (k : Int) + 1, ()) = (l, lvAt l k', seen, (l.length : Int), (k' : Int), ())) ∧ ((l.length : Int) - ((k : Int) + 1)).toNat < (l.length - (k : Int)).toNat :=
        fun c seen' hc hs' => ⟨⟨k + 1, seen', by omega, hs', by rw [hc]; rfl⟩, by omega⟩
      rw [seenL_sameL hs]
      have hput : (ati l k).kind = 8 → SeenL l (k + 1) (bif seen.any (keq7 ⟨(ati l k).who, (ati l k).iD, (ati l k).leaf⟩) then seen else seen ++ [⟨(ati l k).who, (ati l k).iD, (ati l k).leaf⟩]) := by
        intro h8 u
        rw [any_put, hs u]
        simp only [anyAt, h8, decide_true, Bool.true_and]
      rw [seenL_sameL hs] at hput
      by_cases h1 : (ati l k).kind = 8
      · have hput := hput h1
        simp only [h1, decide_true, Bool.not_true, cond_false]
        cases h2 : anyAt (sameL (ati l k)) l k
        · rw [h2] at hput
          simp only [cond_false] at hput ⊢
          refine Ok.some (step _ _ ?_ hput); simp [lvAt, h2]
        · rw [h2] at hput
          simp only [cond_true] at hput ⊢
          refine Ok.some (step _ _ ?_ hput); simp [lvAt, h1, h2]
      · simp only [h1, decide_false, Bool.not_false, cond_true]
        refine Ok.some (step _ _ ?_ (fun u => by rw [hs u]; simp [anyAt, h1])); simp [lvAt, h1]
    · have : k = l.length := by omega
      subst this
      simp only [Int.lt_irrefl, decide_false, cond_false]
      exact Ok.some rfl
  obtain ⟨r, e, rfl⟩ := key
  unfold monitor_Leaves
  rw [e]; rfl
theorem again_ok (l : List ApiRecord) (i : Nat) (hi : i < l.length) (hl : l.length ≤ 1000) : passkeyref40_again l i = some ((), anyAt (sameL (ati l i)) l i, ()) := by
  have key : Ok (passkeyref40_again_L0 (l, (i : Int), 0, ())) fun r => r = (bif anyAt (sameL (ati l i)) l i then .inl (true, ()) else .inr ()) := by
    unfold passkeyref40_again_L0
    refine Ok.iter (fun s => ∃ k : Nat, k ≤ i ∧ anyAt (sameL (ati l i)) l k = false ∧ s = (l, (i : Int), (k : Int), ())) (fun s => (i - s.2.2.1).toNat) ⟨0, by omega, rfl, rfl⟩ (by rw [rounds_eq]; simp; omega) ?_
    rintro _ ⟨k, hk, hn, rfl⟩
    dsimp only
    unfold passkeyref40_again_L0b
    by_cases hki : k < i
    · have hlt : ((k : Int) < (i : Int)) := by omega
      rw [getI_some (l := l) (i := (k : Int)) (by omega) (by omega), getI_some (l := l) (i := (i : Int)) (by omega) (by omega), wrap_id (by omega) (by omega)]
      simp only [hlt, decide_true, cond_true, Option.bind_some, bif_and]
      rw [show (decide ((ati l k).kind = 8) && (decide ((ati l k).who = (ati l i).who) && (decide ((ati l k).iD = (ati l i).iD) && decide ((ati l k).leaf = (ati l i).leaf)))) = sameL (ati l i) (ati l k) by unfold sameL; rw [Bool.eq_iff_iff]; simp]
      cases h : sameL (ati l i) (ati l k)
      · exact Ok.some ⟨⟨k + 1, by omega, by simp [anyAt, hn, h], rfl⟩, by dsimp only; omega⟩
      · refine Ok.some ?_
        rw [anyAt_of hki h]; rfl
    · have : k = i := by omega
      subst this
      simp only [Int.lt_irrefl, decide_false, cond_false]
      refine Ok.some ?_
      rw [hn]; rfl
  obtain ⟨r, e, rfl⟩ := key
  unfold passkeyref40_again
  rw [e]
  cases anyAt (sameL (ati l i)) l i <;> rfl
theorem rLeaves_ok (l : List ApiRecord) (hl : l.length ≤ 1000) : passkeyref40_Leaves l = some ((), lvAt l l.length, ()) := by
  have key : Ok (passkeyref40_Leaves_L0 (l, [], 0, ())) fun r => r = (lvAt l l.length, ()) := by
    unfold passkeyref40_Leaves_L0
    refine Ok.iter (fun s => ∃ k : Nat, k ≤ l.length ∧ s = (l, lvAt l k, (k : Int), ())) (fun s => (l.length - s.2.2.1).toNat) ⟨0, by omega, rfl⟩ (by rw [rounds_eq]; simp; omega) ?_
    rintro _ ⟨k, hk, rfl⟩
    have hc := lvAt_len l k
    dsimp only
    unfold passkeyref40_Leaves_L0b
    by_cases hki : k < l.length
    · have hlt : ((k : Int) < (l.length : Int)) := by omega
      rw [getI_some (by omega) hlt, again_ok l k hki hl, wrap_id (by omega) (by omega)]
      have hsm : ∀ x : ApiFinding, small ((lvAt l k).length + [x].length) 16 = true := fun x => sm16 (by simp; omega)
      simp only [hlt, decide_true, cond_true, Option.bind_some, hsm]
      have step : ∀ c : List ApiFinding, c = lvAt l (k + 1) → (∃ k' : Nat, k' ≤ l.length ∧ (l, c, (k : Int) + 1, ()) = (l, lvAt l k', (k' : Int), ())) ∧ ((l.length : Int) - ((k : Int) + 1)).toNat < (l.length - (k : Int)).toNat :=
        fun c hc => ⟨⟨k + 1, by omega, by rw [hc]; rfl⟩, by omega⟩
      by_cases h1 : (ati l k).kind = 8
      · simp only [h1, decide_true, cond_true]
        cases h2 : anyAt (sameL (ati l k)) l k
        · refine Ok.some (step _ ?_); simp [lvAt, h2]
        · refine Ok.some (step _ ?_); simp [lvAt, h1, h2]
      · simp only [h1, decide_false, cond_false]
        refine Ok.some (step _ ?_); simp [lvAt, h1]
    · have : k = l.length := by omega
      subst this
      simp only [Int.lt_irrefl, decide_false, cond_false]
      exact Ok.some rfl
  obtain ⟨r, e, rfl⟩ := key
  unfold passkeyref40_Leaves
  rw [e]; rfl
end Go.Proofs.Ythlingjlhikphaa

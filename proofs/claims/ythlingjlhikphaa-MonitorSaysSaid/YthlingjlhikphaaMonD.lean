/- The law MonitorSays, plainly. No condition. -/
import Derived.Test.YthlingjlhikphaaMonC
set_option linter.unusedVariables false
set_option maxRecDepth 100000
namespace Go.Proofs.Ythlingjlhikphaa
open Go Go.Abs
theorem Ok.next' {β : Type} {d : PasskeycastDeck} {n : Int} {f : (((PasskeycastDeck × Unit) × Unit) × (Int × Unit)) → Option β} {Q : β → Prop} (h1 : 0 < n) (h2 : n < 9223372036854775808) (hd : DkOk d)
    (h : ∀ d' r, DkOk d' → 0 ≤ r → r < n → Ok (f (((d', ()), ()), r, ())) Q) : Ok ((passkeycast_Deck_Next (d, ()) n).bind f) Q := by
  obtain ⟨d', r, e, h3, h4, h5, _⟩ := next_ok d n hd h1 h2
  rw [e]
  exact h d' r h5 h3 h4
theorem Ok.record {β : Type} {d : PasskeycastDeck} {f : (((PasskeycastDeck × Unit) × Unit) × (ApiRecord × Unit)) → Option β} {Q : β → Prop} (hd : DkOk d)
    (h : ∀ d' x, DkOk d' → x.iD.length ≤ 1 → Ok (f (((d', ()), ()), x, ())) Q) : Ok ((passkeycast_Deck_Record (d, ())).bind f) Q := by
  obtain ⟨d', x, e, h1, h2⟩ := record_ok d hd
  rw [e]
  exact h d' x h1 h2
theorem Short.set {l : List ApiRecord} (h : Short l) {x : ApiRecord} (hx : x.iD.length ≤ 1000) (i : Nat) : Short (l.set i x) := fun y hy => by
  rcases List.mem_or_eq_of_mem_set hy with hy | rfl
  · exact h y hy
  · exact hx
theorem Short.get {l : List ApiRecord} (h : Short l) {i : Nat} (hi : i < l.length) : l[i].iD.length ≤ 1000 := h _ (List.getElem_mem hi)
theorem Short.append {l m : List ApiRecord} (h : Short l) (hm : Short m) : Short (l ++ m) := fun y hy => by
  rcases List.mem_append.1 hy with hy | hy
  · exact h y hy
  · exact hm y hy
theorem says_L0 (l : List ApiRecord) (n : List Int) (i : Int) (hl : l.length ≤ 30) : Ok (passkeylaw41_MonitorSays_L0 (l, n, i, 0, ())) fun r => r = .inl (true, ()) ∨ (r = .inr (l, n, i, ()) ∧ Short l) := by
  unfold passkeylaw41_MonitorSays_L0
  refine Ok.iter (fun s => ∃ k : Nat, k ≤ l.length ∧ (∀ j, j < k → (ati l j).iD.length ≤ 1000) ∧ s = (l, n, i, (k : Int), ())) (fun s => (l.length - s.2.2.2.1).toNat) ⟨0, by omega, fun j hj => by omega, rfl⟩ (by rw [rounds_eq]; simp; omega) ?_
  rintro _ ⟨k, hk, hj, rfl⟩
  dsimp only
  unfold passkeylaw41_MonitorSays_L0b
  by_cases hki : k < l.length
  · have hlt : ((k : Int) < (l.length : Int)) := by omega
    rw [getI_some (by omega) hlt, wrap_id (by omega) (by omega)]
    simp only [hlt, decide_true, cond_true, Option.bind_some, awake_ok]
    refine Ok.cond ?_ ?_ <;> intro h1
    · exact Ok.some (.inl rfl)
    refine Ok.cond ?_ ?_ <;> intro h2
    · exact Ok.some (.inl rfl)
    refine Ok.cond ?_ ?_ <;> intro h3
    · exact Ok.some (.inl rfl)
    refine Ok.some ⟨⟨k + 1, by omega, fun j hj' => ?_, rfl⟩, by dsimp only; omega⟩
    by_cases e : j = k
    · subst e; simp only [decide_eq_false_iff_not] at h3; omega
    · exact hj j (by omega)
  · have : k = l.length := by omega
    subst this
    simp only [Int.lt_irrefl, decide_false, cond_false]
    refine Ok.some (.inr ⟨rfl, fun x hx => ?_⟩)
    obtain ⟨j, hjl, rfl⟩ := List.mem_iff_getElem.1 hx
    have := hj j hjl
    unfold ati at this
    simpa [List.getD_eq_getElem?_getD, List.getElem?_eq_getElem hjl] using this
theorem says_L2 (l : List ApiRecord) (i : Int) (d : PasskeycastDeck) (k : Int) (hd : DkOk d) (hk0 : 0 ≤ k) (hk : k ≤ 30) : Ok (passkeylaw41_MonitorSays_L2 (l, i, (d, ()), [], k, ())) fun z => z.1 = l ∧ z.2.1 = i ∧ DkOk z.2.2.1.1 ∧ Short z.2.2.2.1 ∧ z.2.2.2.1.length ≤ 30 := by
  unfold passkeylaw41_MonitorSays_L2
  refine Ok.iter (fun s => s.1 = l ∧ s.2.1 = i ∧ DkOk s.2.2.1.1 ∧ Short s.2.2.2.1 ∧ 0 ≤ s.2.2.2.2.1 ∧ (s.2.2.2.1.length : Int) + s.2.2.2.2.1 ≤ 30) (fun s => s.2.2.2.2.1.toNat) ⟨rfl, rfl, hd, (fun x hx => by cases hx), hk0, by simpa using hk⟩ (by rw [rounds_eq]; dsimp only; omega) ?_
  rintro ⟨y0, y1, ⟨d, u⟩, m, k, u2⟩ ⟨rfl, rfl, hd, hs, hk0, hk⟩
  dsimp only at hd hs hk0 hk ⊢
  unfold passkeylaw41_MonitorSays_L2b
  refine Ok.cond ?_ ?_ <;> intro hc
  · simp only [decide_eq_true_eq] at hc
    refine Ok.record hd ?_
    intro d' x hd' hx
    dsimp only
    rw [small_ok (by simp; omega), wrap_id (by omega) (by omega)]
    refine Ok.some ⟨⟨rfl, rfl, hd', ?_, ?_, ?_⟩, ?_⟩
    · exact hs.append fun y hy => by simp only [List.mem_singleton] at hy; subst hy; omega
    · dsimp only; omega
    · dsimp only; simp; omega
    · dsimp only; omega
  · exact Ok.some ⟨rfl, rfl, hd, hs, by dsimp only; omega⟩
theorem says_L4 (l m : List ApiRecord) (i : Int) (d : PasskeycastDeck) (s : List ApiRecord) (k : Int) (hd : DkOk d) (hk0 : 0 ≤ k) (hk : k ≤ 3) (hs : Short s) (hl : s.length = 12) : Ok (passkeylaw41_MonitorSays_L4 (l, i, (d, ()), m, s, k, ())) fun z => z.1 = l ∧ z.2.1 = i ∧ z.2.2.1 = m ∧ Short z.2.2.2.1 ∧ z.2.2.2.1.length ≤ 12 := by
  unfold passkeylaw41_MonitorSays_L4
  refine Ok.iter (fun s => s.1 = l ∧ s.2.1 = i ∧ DkOk s.2.2.1.1 ∧ s.2.2.2.1 = m ∧ Short s.2.2.2.2.1 ∧ 0 ≤ s.2.2.2.2.2.1 ∧ s.2.2.2.2.2.1 ≤ 3 ∧ (9 : Int) + s.2.2.2.2.2.1 ≤ s.2.2.2.2.1.length ∧ s.2.2.2.2.1.length ≤ 12) (fun s => s.2.2.2.2.2.1.toNat) ⟨rfl, rfl, hd, rfl, hs, hk0, hk, by dsimp only; omega, by dsimp only; omega⟩ (by rw [rounds_eq]; dsimp only; omega) ?_
  clear hd hk0 hk hs hl
  rintro ⟨y0, y1, ⟨d, u⟩, y3, s, k, u2⟩ ⟨rfl, rfl, hd, rfl, hs, hk0, hk3, hl9, hl12⟩
  dsimp only at hd hs hk0 hk3 hl9 hl12 ⊢
  unfold passkeylaw41_MonitorSays_L4b
  refine Ok.cond ?_ ?_ <;> intro hc
  · simp only [decide_eq_true_eq] at hc
    have done : ∀ (d' : PasskeycastDeck) (s' : List ApiRecord), DkOk d' → Short s' → s.length ≤ s'.length + 1 → s'.length ≤ s.length →
        (y0 = y0 ∧ y1 = y1 ∧ DkOk d' ∧ y3 = y3 ∧ Short s' ∧ 0 ≤ k - 1 ∧ k - 1 ≤ 3 ∧ (9 : Int) + (k - 1) ≤ s'.length ∧ s'.length ≤ 12) ∧ (k - 1).toNat < k.toNat :=
      fun d' s' h1 h2 h3 h4 => ⟨⟨rfl, rfl, h1, rfl, h2, by omega, by omega, by omega, by omega⟩, by omega⟩
    rw [wrap_id (n := k - 1) (by omega) (by omega)]
    refine Ok.next' (by omega) (by omega) hd ?_
    intro d1 j hd1 hj0 hj1
    refine Ok.next' (by omega) (by omega) hd1 ?_
    intro d2 c hd2 hc0 hc1
    have hjn : j.toNat < s.length := by omega
    have hjb : (decide ((0 : Int) ≤ j) && decide (j < (s.length : Int))) = true := by simp [hj0, hj1]
    have hgx := hs.get hjn
    dsimp only
    simp only [hjb, cond_true, List.getElem?_eq_getElem hjn, Option.bind_some]
    refine Ok.cond ?_ ?_ <;> intro c0
    · refine Ok.record hd2 ?_
      intro d3 x hd3 hx
      exact Ok.some (done d3 _ hd3 (hs.set (x := x) (by omega) _) (by simp) (by simp))
    refine Ok.cond ?_ ?_ <;> intro c1
    · refine Ok.next' (by omega) (by omega) hd2 ?_
      intro d3 j2 hd3 hj20 hj21
      have hjn2 : j2.toNat < s.length := by omega
      have hjb2 : (decide ((0 : Int) ≤ j2) && decide (j2 < (s.length : Int))) = true := by simp [hj20, hj21]
      have hgx2 := hs.get hjn2
      dsimp only
      simp only [hjb2, cond_true, List.getElem?_eq_getElem hjn2, Option.bind_some]
      rw [List.getElem?_eq_getElem (by simpa using hjn2)]
      exact Ok.some (done _ _ hd3 ((hs.set hgx2 _).set hgx _) (by simp) (by simp))
    refine Ok.cond ?_ ?_ <;> intro c2
    · rw [wrap_id (n := j + 1) (by omega) (by omega)]
      have e1 : (decide ((0 : Int) ≤ j) && decide (j ≤ (s.length : Int))) = true := by simp; omega
      have e2 : decide (j.toNat ≤ s.length) = true := by simp; omega
      have e3 : (decide ((0 : Int) ≤ j + 1) && decide (j + 1 ≤ (s.length : Int))) = true := by simp; omega
      have e4 : decide (s.length - (j + 1).toNat + (j + 1).toNat ≤ s.length) = true := by simp; omega
      simp only [e1, e2, e3, e4, cond_true, small_ok (n := (s.take j.toNat).length) (by simp; omega), small_ok (n := (s.take j.toNat).length + (List.take (s.length - (j + 1).toNat) (List.drop (j + 1).toNat s)).length) (by simp; omega)]
      refine Ok.some (done _ _ hd2 ?_ (by simp; omega) (by simp; omega))
      exact Short.append (fun y hy => hs y (List.mem_of_mem_take hy)) (fun y hy => hs y (List.mem_of_mem_drop (List.mem_of_mem_take hy)))
    refine Ok.cond ?_ ?_ <;> intro c3
    · refine Ok.next' (by omega) (by omega) hd2 ?_
      intro d3 a hd3 _ _
      refine Ok.next' (by omega) (by omega) hd3 ?_
      intro d4 b hd4 _ _
      dsimp only
      simp only [List.getElem?_set_self hjn, Option.bind_some]
      refine Ok.some (done d4 _ hd4 ?_ (by simp) (by simp))
      exact (hs.set (by exact hgx) _).set (by exact hgx) _
    refine Ok.cond ?_ ?_ <;> intro c4
    · refine Ok.next' (by omega) (by omega) hd2 ?_
      intro d3 a hd3 _ _
      refine Ok.next' (by omega) (by omega) hd3 ?_
      intro d4 b hd4 _ _
      refine Ok.next' (by omega) (by omega) hd4 ?_
      intro d5 b hd5 _ _
      dsimp only
      simp only [List.getElem?_set_self hjn, List.getElem?_set_self (l := s.set _ _) (i := j.toNat) (by simpa using hjn), Option.bind_some]
      refine Ok.some (done d5 _ hd5 ?_ (by simp) (by simp))
      exact ((hs.set (by exact hgx) _).set (by exact hgx) _).set (by exact hgx) _
    refine Ok.cond ?_ ?_ <;> intro c5
    · refine Ok.next' (by omega) (by omega) hd2 ?_
      intro d3 a hd3 _ _
      refine Ok.next' (by omega) (by omega) hd3 ?_
      intro d4 b hd4 _ _
      refine Ok.next' (by omega) (by omega) hd4 ?_
      intro d5 b hd5 _ _
      dsimp only
      simp only [List.getElem?_set_self hjn, List.getElem?_set_self (l := s.set _ _) (i := j.toNat) (by simpa using hjn), Option.bind_some]
      refine Ok.some (done d5 _ hd5 ?_ (by simp) (by simp))
      exact ((hs.set (by exact hgx) _).set (by exact hgx) _).set (by exact hgx) _
    exact Ok.some (done d2 s hd2 hs (by omega) (by omega))
  · exact Ok.some ⟨rfl, rfl, rfl, hs, hl12⟩
theorem story_short : Short ([s0, s1, s2, s3, s4, s5] ++ [s0, s1, s2, s3, s4, s5]) := fun x hx => by
  simp only [List.mem_append, List.mem_cons, List.not_mem_nil, or_false, or_self] at hx
  rcases hx with rfl | rfl | rfl | rfl | rfl | rfl <;> decide
theorem MonitorSays_plain (a0 : List ApiRecord) (a1 : List Int) (a2 : Int) (hd : MonitorSays_dom a0 a1 a2) : Ok (passkeylaw41_MonitorSays a0 a1 a2) fun r => r.2.1 = true := by
  have hlen := dok_len hd.2.1
  dsimp only at hlen
  unfold passkeylaw41_MonitorSays
  refine Ok.cond ?_ ?_ <;> intro hc
  · rw [awake_ok]; exact Ok.some rfl
  simp only [decide_eq_false_iff_not] at hc
  refine Ok.bind ((says_L0 a0 a1 a2 (by omega)).mono ?_)
  rintro _ (rfl | ⟨rfl, hs⟩)
  · exact Ok.some rfl
  simp only [Sum.elim_inr, passkeycast_New, Option.bind_some]
  refine Ok.next' (by omega) (by omega) ⟨by simp, by simp, by simp; omega⟩ ?_
  intro d k hd' hk0 hk1
  refine Ok.bind ((says_L2 a0 a2 d k hd' hk0 (by omega)).mono ?_)
  rintro ⟨z0, z1, ⟨d2, u⟩, m, u2⟩ ⟨rfl, rfl, hd2, hm, hml⟩
  dsimp only at *
  simp only [story_ok, Option.bind_some]
  rw [small_ok (by simp)]
  simp only [cond_true]
  refine Ok.next' (by omega) (by omega) hd2 ?_
  intro d3 k2 hd3 hk20 hk21
  refine Ok.bind ((says_L4 z0 m z1 d3 _ k2 hd3 hk20 (by omega) story_short rfl).mono ?_)
  rintro ⟨w0, w1, w2, s, u3⟩ ⟨rfl, rfl, rfl, hss, hsl⟩
  dsimp only at *
  have hms := same_ok (w2 ++ s) (by simp; omega) (hm.append hss)
  simp only [explain_ok w0 w1 (by omega), rExplain_ok w0 w1 (by omega), Option.bind_some, decide_true, Bool.and_self, cond_true, same_ok w0 (by omega) hs, same_ok w2 (by omega) hm, same_ok s (by omega) hss,
    small_ok (n := w2.length) (by omega), small_ok (n := w2.length + s.length) (by omega), hms, awake_ok]
  exact Ok.some rfl
end Go.Proofs.Ythlingjlhikphaa

/- The law MonitorSays, plainly: copies of credentials, and the law. No condition. -/
import Derived.Test.YthlingjlhikphaaMonB
set_option linter.unusedVariables false
set_option maxRecDepth 100000
namespace Go.Proofs.Ythlingjlhikphaa
open Go Go.Abs
def sgn (x : ApiRecord) : Bool := decide (x.kind = 4) && decide (x.kind2 = 2)
def sameS (r x : ApiRecord) : Bool := decide (x.kind = 4 ∧ x.kind2 = 2 ∧ x.iD = r.iD ∧ x.leaf = r.leaf)
def cpAt (l : List ApiRecord) : Nat → List (List UInt8)
  | 0 => []
  | k + 1 => bif sgn (ati l k) && (anyAt (sameS (ati l k)) l k && !(cpAt l k).any (fun y => decide (y = (ati l k).iD))) then cpAt l k ++ [(ati l k).iD] else cpAt l k
theorem cpAt_len (l : List ApiRecord) : ∀ k, (cpAt l k).length ≤ k
  | 0 => by simp [cpAt]
  | k + 1 => by
    have := cpAt_len l k
    simp only [cpAt]
    cases sgn (ati l k) && (anyAt (sameS (ati l k)) l k && !(cpAt l k).any (fun y => decide (y = (ati l k).iD))) <;> simp <;> omega
def SeenS (l : List ApiRecord) (k : Nat) (seen : List MonitorUse) : Prop := ∀ u : MonitorUse, seen.any (keq7 u) = anyAt (fun x => sgn x && decide (u = ⟨0, x.iD, x.leaf⟩)) l k
theorem seenS_sameS {l : List ApiRecord} {k : Nat} {seen : List MonitorUse} (h : SeenS l k seen) (r : ApiRecord) : seen.any (keq7 ⟨0, r.iD, r.leaf⟩) = anyAt (sameS r) l k := by
  rw [h]
  refine anyAt_congr (fun x => ?_) k
  unfold sameS sgn
  rw [Bool.eq_iff_iff]
  simp only [MonitorUse.mk.injEq, Bool.and_eq_true, decide_eq_true_eq, true_and]
  constructor
  · rintro ⟨⟨a, b⟩, c, d⟩; exact ⟨a, b, c.symm, d.symm⟩
  · rintro ⟨a, b, c, d⟩; exact ⟨⟨a, b⟩, c.symm, d.symm⟩
theorem named_eq (l : List (List UInt8)) (d : List UInt8) : l.any (keq6 d) = l.any (fun y => decide (y = d)) := by
  congr 1
  funext y
  rw [keq6_eq, Bool.eq_iff_iff]
  simp [eq_comm]
theorem Clone_ok (l : List UInt8) (h : l.length ≤ 1000) : bytes_Clone l = some ((), l, ()) := by
  unfold bytes_Clone
  rw [show decide (l.length ≤ 140737488355328) = true by simp; omega]; rfl
def Short (l : List ApiRecord) : Prop := ∀ x ∈ l, x.iD.length ≤ 1000
theorem Short.at {l : List ApiRecord} (h : Short l) {k : Nat} (hk : k < l.length) : (ati l k).iD.length ≤ 1000 := by
  refine h _ ?_
  unfold ati
  simp only [Int.toNat_natCast, List.getD_eq_getElem?_getD, List.getElem?_eq_getElem hk, Option.getD_some]
  exact List.getElem_mem hk
theorem Copies_ok (l : List ApiRecord) (hl : l.length ≤ 1000) (hs : Short l) : monitor_Copies l = some ((), cpAt l l.length, ()) := by
  have key : Ok (monitor_Copies_L0 (l, [], [], [], (l.length : Int), 0, ())) fun r => r = (cpAt l l.length, ()) := by
    unfold monitor_Copies_L0
    refine Ok.iter (fun s => ∃ (k : Nat) (seen : List MonitorUse), k ≤ l.length ∧ SeenS l k seen ∧ s = (l, cpAt l k, seen, cpAt l k, (l.length : Int), (k : Int), ())) (fun s => (l.length - s.2.2.2.2.2.1).toNat) ⟨0, [], by omega, fun u => rfl, rfl⟩ (by rw [rounds_eq]; simp; omega) ?_
    rintro _ ⟨k, seen, hk, hse, rfl⟩
    have hc := cpAt_len l k
    dsimp only
    unfold monitor_Copies_L0b
    by_cases hki : k < l.length
    · have hlt : ((k : Int) < (l.length : Int)) := by omega
      rw [getI_some (by omega) hlt, wrap_id (by omega) (by omega)]
      have hsm : ∀ x : List UInt8, small ((cpAt l k).length + [x].length) 24 = true := fun x => sm24 (by simp; omega)
      simp only [hlt, decide_true, cond_true, Option.bind_some, hsm, Clone_ok _ (hs.at hki)]
      have step : ∀ (c d : List (List UInt8)) (seen' : List MonitorUse), c = cpAt l (k + 1) → d = cpAt l (k + 1) → SeenS l (k + 1) seen' → (∃ (k' : Nat) (seen : List MonitorUse), k' ≤ l.length ∧ SeenS l k' seen ∧ (l, c, seen', d, (l.length : Int), (k : Int) + 1, ()) = (l, cpAt l k', seen, cpAt l k', (l.length : Int), (k' : Int), ())) ∧ ((l.length : Int) - ((k : Int) + 1)).toNat < (l.length - (k : Int)).toNat :=
        fun c d seen' hc hd hs' => ⟨⟨k + 1, seen', by omega, hs', by rw [hc, hd]; rfl⟩, by omega⟩
      have hput : sgn (ati l k) = true → SeenS l (k + 1) (bif seen.any (keq7 ⟨0, (ati l k).iD, (ati l k).leaf⟩) then seen else seen ++ [⟨0, (ati l k).iD, (ati l k).leaf⟩]) := by
        intro h8 u
        rw [any_put, hse u]
        simp only [anyAt, h8, Bool.true_and]
      rw [seenS_sameS hse] at hput ⊢
      rw [named_eq]
      by_cases h1 : (ati l k).kind = 4
      · by_cases h1' : (ati l k).kind2 = 2
        · have hg : sgn (ati l k) = true := by simp [sgn, h1, h1']
          have hput := hput hg
          simp only [h1, h1', decide_true, Bool.not_true, cond_false]
          cases h2 : anyAt (sameS (ati l k)) l k
          · rw [h2] at hput
            simp only [cond_false] at hput ⊢
            refine Ok.some (step _ _ _ ?_ ?_ hput) <;> simp [cpAt, h2]
          · rw [h2] at hput
            simp only [cond_true] at hput ⊢
            cases h3 : (cpAt l k).any (fun y => decide (y = (ati l k).iD))
            · simp only [Bool.not_false, cond_true, cond_false]
              refine Ok.some (step _ _ _ ?_ ?_ hput) <;> simp [cpAt, h2, h3, hg]
            · simp only [Bool.not_true, cond_false]
              refine Ok.some (step _ _ _ ?_ ?_ hput) <;> simp [cpAt, h2, h3]
        · simp only [h1, h1', decide_true, decide_false, Bool.not_true, Bool.not_false, cond_false, cond_true]
          refine Ok.some (step _ _ _ ?_ ?_ (fun u => by rw [hse u]; simp [anyAt, sgn, h1'])) <;> simp [cpAt, sgn, h1']
      · simp only [h1, decide_false, Bool.not_false, cond_true]
        refine Ok.some (step _ _ _ ?_ ?_ (fun u => by rw [hse u]; simp [anyAt, sgn, h1])) <;> simp [cpAt, sgn, h1]
    · have : k = l.length := by omega
      subst this
      simp only [Int.lt_irrefl, decide_false, cond_false]
      exact Ok.some rfl
  obtain ⟨r, e, rfl⟩ := key
  unfold monitor_Copies
  rw [e]; rfl
theorem repeated_ok (l : List ApiRecord) (i : Nat) (hi : i < l.length) (hl : l.length ≤ 1000) : passkeyref40_repeated l i = some ((), anyAt (sameS (ati l i)) l i, ()) := by
  have key : Ok (passkeyref40_repeated_L0 (l, (i : Int), 0, ())) fun r => r = (bif anyAt (sameS (ati l i)) l i then .inl (true, ()) else .inr ()) := by
    unfold passkeyref40_repeated_L0
    refine Ok.iter (fun s => ∃ k : Nat, k ≤ i ∧ anyAt (sameS (ati l i)) l k = false ∧ s = (l, (i : Int), (k : Int), ())) (fun s => (i - s.2.2.1).toNat) ⟨0, by omega, rfl, rfl⟩ (by rw [rounds_eq]; simp; omega) ?_
    rintro _ ⟨k, hk, hn, rfl⟩
    dsimp only
    unfold passkeyref40_repeated_L0b
    by_cases hki : k < i
    · have hlt : ((k : Int) < (i : Int)) := by omega
      rw [getI_some (l := l) (i := (k : Int)) (by omega) (by omega), getI_some (l := l) (i := (i : Int)) (by omega) (by omega), wrap_id (by omega) (by omega)]
      simp only [hlt, decide_true, cond_true, Option.bind_some, bif_and]
      rw [show (decide ((ati l k).kind = 4) && (decide ((ati l k).kind2 = 2) && (decide ((ati l k).iD = (ati l i).iD) && decide ((ati l k).leaf = (ati l i).leaf)))) = sameS (ati l i) (ati l k) by unfold sameS; rw [Bool.eq_iff_iff]; simp]
      cases h : sameS (ati l i) (ati l k)
      · exact Ok.some ⟨⟨k + 1, by omega, by simp [anyAt, hn, h], rfl⟩, by dsimp only; omega⟩
      · refine Ok.some ?_
        rw [anyAt_of hki h]; rfl
    · have : k = i := by omega
      subst this
      simp only [Int.lt_irrefl, decide_false, cond_false]
      refine Ok.some ?_
      rw [hn]; rfl
  obtain ⟨r, e, rfl⟩ := key
  unfold passkeyref40_repeated
  rw [e]
  cases anyAt (sameS (ati l i)) l i <;> rfl
theorem known_ok (l : List ApiRecord) (out : List (List UInt8)) (i : Nat) (hi : i < l.length) (hl : l.length ≤ 1000) (ho : out.length ≤ 1000) :
    Ok (passkeyref40_Copies_L2 (l, out, (i : Int), false, 0, ())) fun r => r = (l, out, (i : Int), out.any (fun y => decide (y = (ati l i).iD)), ()) := by
  unfold passkeyref40_Copies_L2
  refine Ok.iter (fun s => ∃ k : Nat, k ≤ out.length ∧ s = (l, out, (i : Int), (out.take k).any (fun y => decide (y = (ati l i).iD)), (k : Int), ())) (fun s => (out.length - s.2.2.2.2.1).toNat) ⟨0, by omega, rfl⟩ (by rw [rounds_eq]; simp; omega) ?_
  rintro _ ⟨k, hk, rfl⟩
  dsimp only
  unfold passkeyref40_Copies_L2b
  by_cases hki : k < out.length
  · have hlt : ((k : Int) < (out.length : Int)) := by omega
    have h0 : (0 : Int) ≤ (k : Int) := by omega
    rw [getI_some (l := l) (i := (i : Int)) (by omega) (by omega), wrap_id (by omega) (by omega)]
    simp only [hlt, h0, decide_true, cond_true, Option.bind_some, Bool.and_self, Int.toNat_natCast, List.getElem?_eq_getElem hki]
    have hn : (out.take (k + 1)).any (fun y => decide (y = (ati l i).iD)) = ((out.take k).any (fun y => decide (y = (ati l i).iD)) || decide (out[k] = (ati l i).iD)) := by
      rw [List.take_succ_eq_append_getElem hki, List.any_append]; simp only [List.any_cons, List.any_nil, Bool.or_false]
    cases h : (out.take k).any (fun y => decide (y = (ati l i).iD))
    · simp only [cond_false]
      refine Ok.some ⟨⟨k + 1, by omega, ?_⟩, by dsimp only; omega⟩
      rw [hn, h, Bool.false_or]; rfl
    · simp only [cond_true]
      refine Ok.some ⟨⟨k + 1, by omega, ?_⟩, by dsimp only; omega⟩
      rw [hn, h, Bool.true_or]; rfl
  · have : k = out.length := by omega
    subst this
    simp only [Int.lt_irrefl, decide_false, cond_false, List.take_length]
    exact Ok.some rfl
theorem rCopies_ok (l : List ApiRecord) (hl : l.length ≤ 1000) (hs : Short l) : passkeyref40_Copies l = some ((), cpAt l l.length, ()) := by
  have key : Ok (passkeyref40_Copies_L0 (l, [], 0, ())) fun r => r = (cpAt l l.length, ()) := by
    unfold passkeyref40_Copies_L0
    refine Ok.iter (fun s => ∃ k : Nat, k ≤ l.length ∧ s = (l, cpAt l k, (k : Int), ())) (fun s => (l.length - s.2.2.1).toNat) ⟨0, by omega, rfl⟩ (by rw [rounds_eq]; simp; omega) ?_
    rintro _ ⟨k, hk, rfl⟩
    have hc := cpAt_len l k
    dsimp only
    unfold passkeyref40_Copies_L0b
    by_cases hki : k < l.length
    · have hlt : ((k : Int) < (l.length : Int)) := by omega
      have hsm : ∀ x : List UInt8, small ((cpAt l k).length + [x].length) 24 = true := fun x => sm24 (by simp; omega)
      obtain ⟨r, e, rfl⟩ := known_ok l (cpAt l k) k hki hl (by omega)
      rw [getI_some (by omega) hlt, repeated_ok l k hki hl, e]
      simp only [hlt, decide_true, cond_true, Option.bind_some]
      rw [getI_some (by omega) hlt, wrap_id (by omega) (by omega)]
      simp only [Option.bind_some, hsm, sm1 (Nat.le_trans (hs.at hki) (by omega)), cond_true]
      have step : ∀ c : List (List UInt8), c = cpAt l (k + 1) → (∃ k' : Nat, k' ≤ l.length ∧ (l, c, (k : Int) + 1, ()) = (l, cpAt l k', (k' : Int), ())) ∧ ((l.length : Int) - ((k : Int) + 1)).toNat < (l.length - (k : Int)).toNat :=
        fun c hc => ⟨⟨k + 1, by omega, by rw [hc]; rfl⟩, by omega⟩
      by_cases h1 : (ati l k).kind = 4
      · by_cases h1' : (ati l k).kind2 = 2
        · have hg : sgn (ati l k) = true := by simp [sgn, h1, h1']
          simp only [h1, h1', decide_true, Bool.not_true, cond_false]
          cases h2 : anyAt (sameS (ati l k)) l k
          · simp only [Bool.not_false, cond_true]
            refine Ok.some (step _ ?_); simp [cpAt, h2]
          · cases h3 : (cpAt l k).any (fun y => decide (y = (ati l k).iD))
            · simp only [Bool.not_true, Bool.not_false, cond_false, cond_true]
              refine Ok.some (step _ ?_); simp [cpAt, h2, h3, hg]
            · simp only [Bool.not_true, cond_false]
              refine Ok.some (step _ ?_); simp [cpAt, h2, h3]
        · simp only [h1, h1', decide_true, decide_false, Bool.not_true, Bool.not_false, cond_false, cond_true]
          refine Ok.some (step _ ?_); simp [cpAt, sgn, h1']
      · simp only [h1, decide_false, Bool.not_false, cond_true]
        refine Ok.some (step _ ?_); simp [cpAt, sgn, h1]
    · have : k = l.length := by omega
      subst this
      simp only [Int.lt_irrefl, decide_false, cond_false]
      exact Ok.some rfl
  obtain ⟨r, e, rfl⟩ := key
  unfold passkeyref40_Copies
  rw [e]; rfl
theorem sameF_ok (l : List ApiFinding) (h : l.length ≤ 100000) : passkeyref40_SameFindings l l = some ((), true, ()) := by
  have key : Ok (passkeyref40_SameFindings_L0 (l, l, 0, ())) fun r => r = .inr () := by
    unfold passkeyref40_SameFindings_L0
    refine Ok.iter (fun s => ∃ k : Nat, k ≤ l.length ∧ s = (l, l, (k : Int), ())) (fun s => (l.length - s.2.2.1).toNat) ⟨0, by omega, rfl⟩ (by rw [rounds_eq]; simp; omega) ?_
    rintro _ ⟨k, hk, rfl⟩
    dsimp only
    unfold passkeyref40_SameFindings_L0b
    by_cases hki : k < l.length
    · have hlt : ((k : Int) < (l.length : Int)) := by omega
      rw [getI_some (by omega) hlt, wrap_id (by omega) (by omega)]
      simp only [hlt, decide_true, cond_true, Option.bind_some, Bool.and_self, Bool.not_true, cond_false]
      exact Ok.some ⟨⟨k + 1, by omega, rfl⟩, by dsimp only; omega⟩
    · have : k = l.length := by omega
      subst this
      simp only [Int.lt_irrefl, decide_false, cond_false]
      exact Ok.some rfl
  obtain ⟨r, e, rfl⟩ := key
  unfold passkeyref40_SameFindings
  rw [e]; simp
theorem same_L0 (l : List ApiRecord) (hl : l.length ≤ 1000) : Ok (passkeylaw41_same_L0 (l, 0, ())) fun r => r = .inr (l, ()) := by
  unfold passkeylaw41_same_L0
  refine Ok.iter (fun s => ∃ k : Nat, k ≤ l.length ∧ s = (l, (k : Int), ())) (fun s => (l.length - s.2.1).toNat) ⟨0, by omega, rfl⟩ (by rw [rounds_eq]; simp; omega) ?_
  rintro _ ⟨k, hk, rfl⟩
  dsimp only
  unfold passkeylaw41_same_L0b
  by_cases hki : k < l.length
  · have hlt : ((k : Int) < (l.length : Int)) := by omega
    rw [explain_ok _ _ (by omega), rExplain_ok _ _ (by omega), wrap_id (by omega) (by omega)]
    simp only [hlt, decide_true, cond_true, Option.bind_some, Bool.and_self, Bool.not_true, cond_false]
    exact Ok.some ⟨⟨k + 1, by omega, rfl⟩, by dsimp only; omega⟩
  · have : k = l.length := by omega
    subst this
    simp only [Int.lt_irrefl, decide_false, cond_false]
    exact Ok.some rfl
theorem same_L2 (l : List ApiRecord) (p : List (List UInt8)) (hp : p.length ≤ 1000) : Ok (passkeylaw41_same_L2 (l, p, p, 0, ())) fun r => r = .inr (l, ()) := by
  unfold passkeylaw41_same_L2
  refine Ok.iter (fun s => ∃ k : Nat, k ≤ p.length ∧ s = (l, p, p, (k : Int), ())) (fun s => (p.length - s.2.2.2.1).toNat) ⟨0, by omega, rfl⟩ (by rw [rounds_eq]; simp; omega) ?_
  rintro _ ⟨k, hk, rfl⟩
  dsimp only
  unfold passkeylaw41_same_L2b
  by_cases hki : k < p.length
  · have hlt : ((k : Int) < (p.length : Int)) := by omega
    have h0 : (0 : Int) ≤ (k : Int) := by omega
    rw [wrap_id (by omega) (by omega)]
    simp only [hlt, h0, decide_true, cond_true, Option.bind_some, Bool.and_self, Int.toNat_natCast, List.getElem?_eq_getElem hki, Bool.not_true, cond_false]
    exact Ok.some ⟨⟨k + 1, by omega, rfl⟩, by dsimp only; omega⟩
  · have : k = p.length := by omega
    subst this
    simp only [Int.lt_irrefl, decide_false, cond_false]
    exact Ok.some rfl
theorem same_ok (l : List ApiRecord) (hl : l.length ≤ 1000) (hs : Short l) : passkeylaw41_same l = some ((), true, ()) := by
  have h1 := chkAt_len l l.length
  have h2 := lvAt_len l l.length
  have h3 := cpAt_len l l.length
  unfold passkeylaw41_same
  obtain ⟨r, e, rfl⟩ := same_L0 l hl
  rw [e]
  simp only [Option.bind_some, Sum.elim_inr, Copies_ok l hl hs, rCopies_ok l hl hs, decide_true, Bool.not_true, cond_false]
  obtain ⟨r, e, rfl⟩ := same_L2 l (cpAt l l.length) (by omega)
  rw [e]
  simp only [Option.bind_some, Sum.elim_inr, Check_ok l hl, rCheck_ok l hl, Leaves_ok l hl, rLeaves_ok l hl, sameF_ok _ (Nat.le_trans h1 (by omega)), sameF_ok _ (Nat.le_trans h2 (by omega)), cond_true]
end Go.Proofs.Ythlingjlhikphaa

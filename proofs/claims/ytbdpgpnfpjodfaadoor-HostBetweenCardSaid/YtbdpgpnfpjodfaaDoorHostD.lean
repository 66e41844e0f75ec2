/- What the functions on rules compute: matching, public suffixes, registrable domains, parsing. No condition. -/
import Derived.Test.YtbdpgpnfpjodfaaDoorHostC
set_option linter.unusedVariables false
set_option linter.unusedSimpArgs false
set_option maxRecDepth 100000
namespace Go.Proofs.YtbdpgpnfpjodfaaDoor
open Go Go.Abs

/-! ### matching -/
def mat (s : ApiSuffix) (L : List (List UInt8)) : Bool := fok s && (endsL L s.labels && (!s.wild || decide (s.labels.length < L.length)))
theorem fmt_ok (s : ApiSuffix) : decide ((fmt s).2 = 0) = fok s := by
  unfold fmt
  cases fok s <;> rfl
theorem matches_ok (s : ApiSuffix) (L : List (List UInt8)) (hL : L.length < 1000000) : host_matches s L = some ((), mat s L, ()) := by
  unfold host_matches mat
  rw [FormatRule_ok]
  simp only [bindS, fmt_ok]
  rw [ends_ok _ _ hL]
  simp only [bindS]
  have e : decide ((s.labels.length : Int) < (L.length : Int)) = decide (s.labels.length < L.length) := by rw [decide_eq_decide]; omega
  rw [e]
  cases fok s <;> cases endsL L s.labels <;> cases s.wild <;> simp
theorem mat_len {s : ApiSuffix} {L : List (List UInt8)} (h : mat s L = true) : s.labels.length ≤ L.length ∧ (s.wild = true → s.labels.length < L.length) ∧ (s.wild && s.except) = false ∧ (s.except = true → 2 ≤ s.labels.length) := by
  unfold mat fok endsL at h
  simp only [Bool.and_eq_true, Bool.or_eq_true, Bool.not_eq_true', decide_eq_true_eq] at h
  refine ⟨h.2.1.1, fun hw => ?_, h.1.2.2.1, fun he => ?_⟩
  · rcases h.2.2 with q | q
    · rw [hw] at q; cases q
    · exact q
  · have := h.1.2.2.2
    rw [he] at this
    simpa using this

/-! ### public suffixes -/
def imax (a b : Int) : Int := bif decide (a < b) then b else a
def pubStep (L : List (List UInt8)) (p : Int × Int) (s : ApiSuffix) : Int × Int :=
  bif mat s L then (bif s.except then (p.1, imax p.2 s.labels.length) else (imax p.1 (s.labels.length + (bif s.wild then 1 else 0)), p.2)) else p
def pub2 (L : List (List UInt8)) (l : List ApiSuffix) : Int × Int := (l.take 64).foldl (pubStep L) (1, 0)
def pub (l : List ApiSuffix) (s : List UInt8) : Int := bif decide (labs s = []) then 0 else bif decide (0 < (pub2 (labs s) l).2) then (pub2 (labs s) l).2 - 1 else (pub2 (labs s) l).1
theorem labs_len (s : List UInt8) : (labs s).length ≤ 101 ∧ ∀ x ∈ labs s, x.length ≤ 100 := by
  unfold labs
  by_cases h : vali s = 0
  · have h1 := vali_len h
    obtain ⟨h2, h3⟩ := spl_len 46 s
    simp only [h, decide_true, cond_true]
    exact ⟨by omega, fun x hx => by have := h3 x hx; omega⟩
  · simp [h]
theorem imax_le {a b B : Int} (h1 : a ≤ B) (h2 : b ≤ B) : imax a b ≤ B := by
  unfold imax
  cases decide (a < b)
  · exact h1
  · exact h2
theorem imax_ge1 (a b : Int) : a ≤ imax a b := by
  unfold imax
  by_cases h : a < b <;> simp [h]
  omega
theorem imax_ge2 (a b : Int) : b ≤ imax a b := by
  unfold imax
  by_cases h : a < b <;> simp [h]
  omega
/-- the numbers stay within the number of labels. -/
theorem pubStep_le {L : List (List UInt8)} (hL : 1 ≤ L.length) {p : Int × Int} (s : ApiSuffix) (h : 1 ≤ p.1 ∧ p.1 ≤ L.length ∧ 0 ≤ p.2 ∧ p.2 ≤ L.length) : 1 ≤ (pubStep L p s).1 ∧ (pubStep L p s).1 ≤ L.length ∧ 0 ≤ (pubStep L p s).2 ∧ (pubStep L p s).2 ≤ L.length := by
  unfold pubStep
  cases hm : mat s L
  · exact h
  · obtain ⟨m1, m2, m3, m4⟩ := mat_len hm
    cases he : s.except
    · simp only [cond_true, cond_false]
      refine ⟨Int.le_trans h.1 (imax_ge1 _ _), imax_le h.2.1 ?_, h.2.2.1, h.2.2.2⟩
      cases hw : s.wild
      · simp; omega
      · have := m2 hw
        simp; omega
    · simp only [cond_true, cond_false]
      exact ⟨h.1, h.2.1, Int.le_trans h.2.2.1 (imax_ge1 _ _), imax_le h.2.2.2 (by omega)⟩
theorem foldl_inv {α β : Type} {f : α → β → α} {P : α → Prop} (h : ∀ a b, P a → P (f a b)) : ∀ (l : List β) (a : α), P a → P (l.foldl f a)
  | [], _, ha => ha
  | x :: r, a, ha => foldl_inv h r (f a x) (h a x ha)
theorem pub2_le {L : List (List UInt8)} (hL : 1 ≤ L.length) (l : List ApiSuffix) : 1 ≤ (pub2 L l).1 ∧ (pub2 L l).1 ≤ L.length ∧ 0 ≤ (pub2 L l).2 ∧ (pub2 L l).2 ≤ L.length :=
  foldl_inv (P := fun p : Int × Int => 1 ≤ p.1 ∧ p.1 ≤ L.length ∧ 0 ≤ p.2 ∧ p.2 ≤ L.length) (fun a b h => pubStep_le hL b h) _ _ ⟨by simp, by simp; omega, by simp, by simp⟩
theorem pub_le (l : List ApiSuffix) (s : List UInt8) : 0 ≤ pub l s ∧ pub l s ≤ (labs s).length := by
  unfold pub
  by_cases h : labs s = []
  · simp [h]
  · have hp := List.length_pos_iff.2 h
    have := pub2_le (L := labs s) hp l
    simp only [h, decide_false, cond_false]
    by_cases h2 : 0 < (pub2 (labs s) l).2
    · simp only [h2, decide_true, cond_true]; omega
    · simp only [h2, decide_false, cond_false]; omega
theorem len0 {α : Type} (l : List α) : decide ((l.length : Int) = 0) = decide (l.length = 0) := by rw [decide_eq_decide]; omega
theorem len0' {α : Type} [DecidableEq α] (l : List α) : decide ((l.length : Int) = 0) = decide (l = []) := by rw [decide_eq_decide]; rw [← List.length_eq_zero_iff]; omega
theorem Public_ok (l : List ApiSuffix) (s : List UInt8) : host_Public l s = some ((), pub l s, ()) := by
  unfold host_Public pub
  rw [Labels_ok]
  simp only [bindS, len0']
  by_cases h : labs s = []
  · simp [h]
  · have hp := List.length_pos_iff.2 h
    have hLl := (labs_len s).1
    simp only [h, decide_false, cond_false]
    generalize labs s = L at *
    have e64 : (bif decide ((64 : Int) < (l.length : Int)) then (64 : Int) else (l.length : Int)) = ((min 64 l.length : Nat) : Int) := by
      by_cases h64 : 64 < l.length
      · rw [show decide ((64 : Int) < (l.length : Int)) = true by simp; omega]; simp; omega
      · rw [show decide ((64 : Int) < (l.length : Int)) = false by simp; omega]; simp; omega
    rw [e64, show (decide ((0 : Int) ≤ ((min 64 l.length : Nat) : Int)) && decide (((min 64 l.length : Nat) : Int) ≤ (l.length : Int))) = true by simp; omega]
    simp only [cond_true]
    have et : List.take ((min 64 l.length : Nat) : Int).toNat l = l.take 64 := by
      rw [Int.toNat_natCast, List.take_eq_take_iff]; omega
    rw [et]
    have hl64 : (l.take 64).length ≤ 64 := by rw [List.length_take]; omega
    unfold pub2
    generalize l.take 64 = l' at *
    unfold host_Public_L0
    rw [iter_scan (fun i (p : Int × Int) => (L, p.1, p.2, l', (l'.length : Int), i, ())) l' (fun _ x p => .inl (pubStep L p x)) (fun p => (p.1, p.2, ())) (fun _ p => 1 ≤ p.1 ∧ p.1 ≤ L.length ∧ 0 ≤ p.2 ∧ p.2 ≤ L.length) ?_ ?_ (1, 0) ⟨by simp, by simp; omega, by simp, by simp⟩ rounds (by rw [rounds_eq]; omega)]
    · rw [scan_fold (pubStep L)]
      have := foldl_inv (P := fun p : Int × Int => 1 ≤ p.1 ∧ p.1 ≤ L.length ∧ 0 ≤ p.2 ∧ p.2 ≤ L.length) (fun a b h => pubStep_le hp b h) l' (1, 0) ⟨by simp, by simp; omega, by simp, by simp⟩
      simp only [bindS]
      generalize l'.foldl (pubStep L) (1, 0) = q at *
      rw [wrap_id (by omega) (by omega)]
      cases decide (0 < q.2) <;> rfl
    · rintro i x ⟨p1, p2⟩ hx hI
      obtain ⟨hi, hx'⟩ := List.getElem?_eq_some_iff.1 hx
      refine ⟨?_, fun a' ha => by cases ha; exact pubStep_le hp x hI⟩
      simp only [host_Public_L0b]
      have hg : getI l' (i : Int) = some x := by simp [getI, hx]
      rw [hg, show decide ((i : Int) < (l'.length : Int)) = true by simp; omega, wrap_id (n := (i : Int) + 1) (by omega) (by omega)]
      simp only [cond_true, bindS]
      rw [matches_ok x L (by omega)]
      simp only [bindS, pubStep, Sum.map_inl]
      cases hm : mat x L
      · rfl
      · obtain ⟨m1, m2, m3, m4⟩ := mat_len hm
        cases he : x.except
        · cases hw : x.wild
          · simp [imax]
          · rw [wrap_id (n := (x.labels.length : Int) + 1) (by omega) (by omega)]
            simp [imax]
        · rfl
    · rintro ⟨p1, p2⟩ _
      simp only [host_Public_L0b]
      simp
theorem rPublic_ok (l : List ApiSuffix) (s : List UInt8) (hr : ∀ x ∈ l, x.labels.length ≤ 1000000) : passkeyref23_Public l s = some ((), pub l s, ()) := by
  unfold passkeyref23_Public pub
  rw [rLabels_ok]
  simp only [bindS, len0']
  by_cases h : labs s = []
  · simp [h]
  · have hp := List.length_pos_iff.2 h
    have hLl := (labs_len s).1
    simp only [h, decide_false, cond_false]
    generalize labs s = L at *
    have hl64 : (l.take 64).length ≤ 64 := by rw [List.length_take]; omega
    unfold pub2
    unfold passkeyref23_Public_L0
    rw [iter_scan (fun i (p : Int × Int) => (l, L, p.1, p.2, i, ())) (l.take 64) (fun _ x p => .inl (pubStep L p x)) (fun p => (p.1, p.2, ())) (fun _ p => 1 ≤ p.1 ∧ p.1 ≤ L.length ∧ 0 ≤ p.2 ∧ p.2 ≤ L.length) ?_ ?_ (1, 0) ⟨by simp, by simp; omega, by simp, by simp⟩ rounds (by rw [rounds_eq]; omega)]
    · rw [scan_fold (pubStep L)]
      have := foldl_inv (P := fun p : Int × Int => 1 ≤ p.1 ∧ p.1 ≤ L.length ∧ 0 ≤ p.2 ∧ p.2 ≤ L.length) (fun a b h => pubStep_le hp b h) (l.take 64) (1, 0) ⟨by simp, by simp; omega, by simp, by simp⟩
      simp only [bindS]
      generalize (l.take 64).foldl (pubStep L) (1, 0) = q at *
      rw [wrap_id (by omega) (by omega)]
      cases decide (0 < q.2) <;> rfl
    · rintro i x ⟨p1, p2⟩ hx hI
      obtain ⟨hi, hx'⟩ := List.getElem?_eq_some_iff.1 hx
      have hi2 : i < 64 ∧ i < l.length := by rw [List.length_take] at hi; omega
      have hxl : l[i]? = some x := by rw [← hx, List.getElem?_take_of_lt hi2.1]
      refine ⟨?_, fun a' ha => by cases ha; exact pubStep_le hp x hI⟩
      simp only [passkeyref23_Public_L0b]
      have hg : getI l (i : Int) = some x := by simp [getI, hxl]
      rw [hg, show decide ((i : Int) < (l.length : Int)) = true by simp; omega, show decide ((i : Int) < 64) = true by simp; omega, wrap_id (n := (i : Int) + 1) (by omega) (by omega)]
      simp only [cond_true, bindS]
      have hwr : IntKind.wrap .i64 ((i : Int) + 1) = (i : Int) + 1 := wrap_id (by omega) (by omega)
      rw [rFormatRule_ok x (hr x (List.mem_of_getElem? hxl)), rends_ok L x.labels (by omega)]
      simp only [bindS, pubStep, Sum.map_inl, fmt_ok]
      cases hf : fok x
      · have : mat x L = false := by simp [mat, hf]
        rw [this]
        rfl
      · have h50 := fok_len hf
        cases hq : endsL L x.labels
        · have : mat x L = false := by simp [mat, hq]
          rw [this]
          rfl
        · have hle : x.labels.length ≤ L.length := by
            unfold endsL at hq
            simp only [Bool.and_eq_true, decide_eq_true_eq] at hq
            exact hq.1
          cases hw : x.wild
          · have : mat x L = true := by simp [mat, hf, hq, hw]
            rw [this]
            cases he : x.except <;> simp [imax, hw, he, hwr]
          · have hex : x.except = false := by
              have : (x.wild && x.except) = false := by
                unfold fok at hf
                simp only [Bool.and_eq_true, Bool.not_eq_true'] at hf
                exact hf.2.2.1
              rw [hw] at this
              simpa using this
            rw [wrap_id (n := (x.labels.length : Int) + 1) (by omega) (by omega)]
            by_cases hlt : x.labels.length < L.length
            · have : mat x L = true := by simp [mat, hf, hq, hlt]
              rw [this, show decide ((L.length : Int) = (x.labels.length : Int)) = false by simp; omega]
              simp [imax, hw, hex, hwr]
            · have : mat x L = false := by simp [mat, hf, hq, hw, hlt]
              rw [this, show decide ((L.length : Int) = (x.labels.length : Int)) = true by simp; omega]
              rfl
    · rintro ⟨p1, p2⟩ _
      simp only [passkeyref23_Public_L0b]
      by_cases h64 : 64 < l.length
      · rw [show (l.take 64).length = 64 by rw [List.length_take]; omega]
        simp
      · rw [show (l.take 64).length = l.length by rw [List.length_take]; omega]
        simp

/-! ### registrable domains -/
def reg (l : List ApiSuffix) (s : List UInt8) : List UInt8 × Bool := bif decide (((labs s).length : Int) ≤ pub l s) then ([], false) else (joinD ((labs s).drop ((labs s).length - (pub l s).toNat - 1)), true)
theorem reg_at {L : List (List UInt8)} {n : Int} (h : ¬ (L.length : Int) ≤ n) (h0 : 0 ≤ n) (hL : L.length < 1000000) : IntKind.wrap .i64 (IntKind.wrap .i64 ((L.length : Int) - n) - 1) = ((L.length - n.toNat - 1 : Nat) : Int) := by
  rw [wrap_id (n := (L.length : Int) - n) (by omega) (by omega), wrap_id (by omega) (by omega)]
  omega
theorem Registrable_ok (l : List ApiSuffix) (s : List UInt8) : host_Registrable l s = some ((), (reg l s).1, (reg l s).2, ()) := by
  unfold host_Registrable reg
  rw [Labels_ok, Public_ok]
  simp only [bindS]
  have h0 := (pub_le l s).1
  obtain ⟨h1, h2⟩ := labs_len s
  by_cases h : ((labs s).length : Int) ≤ pub l s
  · simp [h]
  · rw [reg_at h h0 (by omega)]
    simp only [h, decide_false, cond_false]
    rw [show (decide ((0 : Int) ≤ (((labs s).length - (pub l s).toNat - 1 : Nat) : Int)) && decide ((((labs s).length - (pub l s).toNat - 1 : Nat) : Int) ≤ ((labs s).length : Int))) = true by simp; omega]
    simp only [cond_true, Int.toNat_natCast]
    rw [show decide ((labs s).length - ((labs s).length - (pub l s).toNat - 1) + ((labs s).length - (pub l s).toNat - 1) ≤ (labs s).length) = true by simp; omega, List.take_of_length_le (by rw [List.length_drop]; omega)]
    simp only [cond_true]
    rw [Join_ok _ (by rw [List.length_drop]; omega) (fun x hx => by have := h2 x (List.mem_of_mem_drop hx); omega)]
    rfl
theorem rRegistrable_ok (l : List ApiSuffix) (s : List UInt8) (hr : ∀ x ∈ l, x.labels.length ≤ 1000000) : passkeyref23_Registrable l s = some ((), (reg l s).1, (reg l s).2, ()) := by
  unfold passkeyref23_Registrable reg
  rw [rLabels_ok, rPublic_ok l s hr]
  simp only [bindS]
  have h0 := (pub_le l s).1
  obtain ⟨h1, h2⟩ := labs_len s
  by_cases h : ((labs s).length : Int) ≤ pub l s
  · simp [h]
  · rw [reg_at h h0 (by omega)]
    simp only [h, decide_false, cond_false]
    rw [show (decide ((0 : Int) ≤ (((labs s).length - (pub l s).toNat - 1 : Nat) : Int)) && decide ((((labs s).length - (pub l s).toNat - 1 : Nat) : Int) ≤ ((labs s).length : Int))) = true by simp; omega]
    simp only [cond_true, Int.toNat_natCast]
    rw [show decide ((labs s).length - ((labs s).length - (pub l s).toNat - 1) + ((labs s).length - (pub l s).toNat - 1) ≤ (labs s).length) = true by simp; omega, List.take_of_length_le (by rw [List.length_drop]; omega)]
    simp only [cond_true]
    rw [rjoin_ok _ (by rw [List.length_drop]; omega) (fun x hx => by have := h2 x (List.mem_of_mem_drop hx); omega)]
    rfl

/-! ### within -/
def wthn (a b : List UInt8) : Bool := decide (vali a = 0) && (decide (vali b = 0) && endsL (spl 46 a) (spl 46 b))
theorem Within_ok (a b : List UInt8) : host_Within a b = some ((), wthn a b, ()) := by
  unfold host_Within wthn
  simp only [Validate_ok, Labels_ok, bindS]
  by_cases ha : vali a = 0
  · by_cases hb : vali b = 0
    · have := (labs_len a).1
      rw [ends_ok _ _ (by omega)]
      simp [ha, hb, labs]
    · simp [ha, hb]
  · simp [ha]
theorem rWithin_ok (a b : List UInt8) : passkeyref23_Within a b = some ((), wthn a b, ()) := by
  unfold passkeyref23_Within wthn
  simp only [rValidate_ok, bindS]
  by_cases ha : vali a = 0
  · by_cases hb : vali b = 0
    · have h1 := vali_len ha
      have h2 := vali_len hb
      have h3 := (spl_len 46 a).1
      rw [rsplit_ok a 46 (by omega), rsplit_ok b 46 (by omega)]
      simp only [bindS]
      rw [rends_ok _ _ (by omega)]
      simp [ha, hb]
    · simp [ha, hb]
  · simp [ha]

/-! ### comparing -/
theorem SameTexts_ok (a b : List (List UInt8)) (hb : b.length < 1000000) : passkeyref23_SameTexts a b = some ((), decide (a = b), ()) := by
  unfold passkeyref23_SameTexts
  by_cases h : a.length = b.length
  · rw [show (!decide ((a.length : Int) = (b.length : Int))) = false by simp; omega]
    simp only [cond_false]
    unfold passkeyref23_SameTexts_L0
    rw [iter_scan (fun i (_ : Unit) => (a, b, i, ())) a (fun i x _ => bif decide (b[i]? = some x) then .inl () else .inr (.inl (false, ()))) (fun _ => .inr ()) (fun _ _ => True) ?_ ?_ () trivial rounds (by rw [rounds_eq]; omega)]
    · rw [scan_allI (fun i x => decide (b[i]? = some x))]
      have e : allI (fun i x => decide (b[i]? = some x)) 0 a = decide (a = b) := by
        rw [Bool.eq_iff_iff, allI_iff, decide_eq_true_eq]
        simp only [Nat.zero_add, decide_eq_true_eq]
        constructor
        · intro hp
          apply List.ext_getElem?
          intro i
          by_cases hi : i < a.length
          · rw [hp i a[i] (by simp [hi])]; simp [hi]
          · rw [List.getElem?_eq_none (by omega), List.getElem?_eq_none (by omega)]
        · rintro rfl i x hx
          exact hx
      rw [e]
      cases decide (a = b) <;> rfl
    · intro i x _ hx _
      obtain ⟨hi, hx'⟩ := List.getElem?_eq_some_iff.1 hx
      refine ⟨?_, fun _ _ => trivial⟩
      simp only [passkeyref23_SameTexts_L0b]
      have hg : getI a (i : Int) = some x := by simp [getI, hx]
      have hg2 : getI b (i : Int) = some b[i] := by simp [getI]
      rw [hg, hg2, show decide ((i : Int) < (a.length : Int)) = true by simp; omega, wrap_id (n := (i : Int) + 1) (by omega) (by omega)]
      simp only [cond_true, bindS]
      have : decide (b[i]? = some x) = decide (x = b[i]) := by
        rw [decide_eq_decide, List.getElem?_eq_getElem (by omega), Option.some.injEq]
        exact eq_comm
      rw [this]
      cases decide (x = b[i]) <;> rfl
    · intro _ _
      simp only [passkeyref23_SameTexts_L0b]
      simp
  · rw [show (!decide ((a.length : Int) = (b.length : Int))) = true by simp; omega]
    have : ¬ a = b := fun e => h (by rw [e])
    simp [this]
theorem SameRule_ok (a b : ApiSuffix) (hb : b.labels.length < 1000000) : passkeyref23_SameRule a b = some ((), decide (a = b), ()) := by
  unfold passkeyref23_SameRule
  rw [SameTexts_ok _ _ hb]
  obtain ⟨a1, a2, a3⟩ := a
  obtain ⟨b1, b2, b3⟩ := b
  simp only [bindS, ApiSuffix.mk.injEq]
  by_cases h : a1 = b1
  · simp only [h, decide_true, cond_true, true_and]
    cases a2 <;> cases b2 <;> cases a3 <;> cases b3 <;> rfl
  · simp [h]

/-! ### parsing -/
theorem CutPrefix_ok (s p : List UInt8) : strings_CutPrefix s p = some ((), (bif p.isPrefixOf s then s.drop p.length else s), p.isPrefixOf s, ()) := by
  unfold strings_CutPrefix stringslite_CutPrefix stringslite_HasPrefix
  by_cases h : p.length ≤ s.length
  · rw [show decide ((p.length : Int) ≤ (s.length : Int)) = true by simp; omega]
    have e : decide (s.take p.length = p) = p.isPrefixOf s := by
      rw [Bool.eq_iff_iff, decide_eq_true_eq, List.isPrefixOf_iff_prefix, List.prefix_iff_eq_take]
      exact eq_comm
    simp only [cond_true, Int.natCast_nonneg, decide_true, Bool.and_self, Int.toNat_natCast, e, bindS]
    cases p.isPrefixOf s <;> rfl
  · rw [show decide ((p.length : Int) ≤ (s.length : Int)) = false by simp; omega]
    have e : p.isPrefixOf s = false := by
      cases hq : p.isPrefixOf s
      · rfl
      · have := (List.isPrefixOf_iff_prefix.1 hq).length_le; omega
    rw [e]
    rfl
def ruleOf (L : List (List UInt8)) (w e : Bool) : ApiSuffix × Int := bif decide (L = []) || (e && decide (L.length < 2)) then (⟨[], false, false⟩, 2) else (⟨L, w, e⟩, 0)
def parse (t : List UInt8) : ApiSuffix × Int := match t with
  | 42 :: 46 :: r => ruleOf (labs r) true false
  | 33 :: r => ruleOf (labs r) false true
  | r => ruleOf (labs r) false false
theorem ruleOf_prog (L : List (List UInt8)) (w e : Bool) : (bif (decide ((L.length : Int) = (0 : Int))) then (some ((), ((⟨[], false, false⟩ : ApiSuffix), (2 : Int), ())))
 else (bif e then (bif (decide ((L.length : Int) < (2 : Int))) then (some ((), ((⟨[], false, false⟩ : ApiSuffix), (2 : Int), ())))
 else (some ((), ((⟨L, w, e⟩ : ApiSuffix), (0 : Int), ()))))
 else (some ((), ((⟨L, w, e⟩ : ApiSuffix), (0 : Int), ()))))) = some ((), (ruleOf L w e).1, (ruleOf L w e).2, ()) := by
  unfold ruleOf
  rw [len0', show decide ((L.length : Int) < 2) = decide (L.length < 2) by rw [decide_eq_decide]; omega]
  cases decide (L = []) <;> cases e <;> cases decide (L.length < 2) <;> rfl
theorem ParseRule_ok (t : List UInt8) : host_ParseRule t = some ((), (parse t).1, (parse t).2, ()) := by
  unfold host_ParseRule
  simp only [CutPrefix_ok, bindS]
  unfold parse
  split
  · rename_i r
    simp only [List.isPrefixOf, BEq.rfl, Bool.and_self, Bool.and_true, cond_true, Bool.not_true, cond_false, bindS, List.length_cons, List.length_nil, List.drop_succ_cons, List.drop_zero, Labels_ok]
    exact ruleOf_prog (labs r) true false
  · rename_i r
    simp only [List.isPrefixOf, show ((42 : UInt8) == 33) = false by decide, Bool.false_and, Bool.not_false, cond_true, cond_false, BEq.rfl, Bool.and_self, Bool.and_true, bindS, List.length_cons, List.length_nil, List.drop_succ_cons, List.drop_zero, Labels_ok]
    exact ruleOf_prog (labs r) false true
  · rename_i h1 h2
    have e1 : List.isPrefixOf [42, 46] t = false := by
      cases hq : List.isPrefixOf [42, 46] t
      · rfl
      · obtain ⟨q, rfl⟩ := List.isPrefixOf_iff_prefix.1 hq
        exact absurd rfl (h1 q)
    have e2 : List.isPrefixOf [33] t = false := by
      cases hq : List.isPrefixOf [33] t
      · rfl
      · obtain ⟨q, rfl⟩ := List.isPrefixOf_iff_prefix.1 hq
        exact absurd rfl (h2 q)
    simp only [e1, e2, Bool.not_false, cond_true, cond_false, bindS, Labels_ok]
    exact ruleOf_prog (labs t) false false
theorem rParseRule_ok (t : List UInt8) : passkeyref23_ParseRule t = some ((), (parse t).1, (parse t).2, ()) := by
  unfold passkeyref23_ParseRule
  unfold parse
  have e33 : ∀ x : UInt8, decide (x.toBitVec = (33 : UInt8).toBitVec) = decide (x = 33) := fun x => by
    rw [decide_eq_decide]; exact UInt8.toBitVec_inj
  split
  · rename_i r
    simp only [List.length_cons, List.take_succ_cons, List.take_zero, decide_true, cond_true]
    rw [show decide ((1 : Int) < ((r.length + 1 + 1 : Nat) : Int)) = true by simp; omega, show decide ((2 : Int) ≤ ((r.length + 1 + 1 : Nat) : Int)) = true by simp; omega]
    simp only [cond_true, bindS, List.drop_succ_cons, List.drop_zero, rLabels_ok]
    exact ruleOf_prog (labs r) true false
  · rename_i r
    have e2 : decide (List.take 2 (33 :: r) = [42, 46]) = false := by simp
    simp only [e2, cond_false]
    have e0 : getI (33 :: r) 0 = some 33 := rfl
    simp only [e0, bindS, List.length_cons]
    rw [show decide ((0 : Int) < ((r.length + 1 : Nat) : Int)) = true by rw [decide_eq_true_eq]; omega, show decide ((1 : Int) ≤ ((r.length + 1 : Nat) : Int)) = true by simp; omega]
    simp only [e33, decide_true, cond_true, List.drop_succ_cons, List.drop_zero, List.drop_one, List.tail_cons]
    have : (bif decide ((1 : Int) < ((r.length + 1 : Nat) : Int)) then (bif decide ((2 : Int) ≤ ((r.length + 1 : Nat) : Int)) then some (((⟨[], false, false⟩ : ApiSuffix), ()), ((⟨[], false, true⟩ : ApiSuffix), ()), r, ()) else none) else some (((⟨[], false, false⟩ : ApiSuffix), ()), ((⟨[], false, true⟩ : ApiSuffix), ()), r, ())) = some (((⟨[], false, false⟩ : ApiSuffix), ()), ((⟨[], false, true⟩ : ApiSuffix), ()), r, ()) := by
      by_cases h : 1 < r.length + 1
      · rw [show decide ((1 : Int) < ((r.length + 1 : Nat) : Int)) = true by simp; omega, show decide ((2 : Int) ≤ ((r.length + 1 : Nat) : Int)) = true by simp; omega]
        rfl
      · rw [show decide ((1 : Int) < ((r.length + 1 : Nat) : Int)) = false by simp; omega]
        rfl
    rw [this]
    simp only [bindS, rLabels_ok]
    exact ruleOf_prog (labs r) false true
  · rename_i h1 h2
    have e2 : decide (List.take 2 t = [42, 46]) = false := by
      rw [decide_eq_false_iff_not]
      intro h
      have : t = 42 :: 46 :: t.drop 2 := by
        conv => lhs; rw [← List.take_append_drop 2 t, h]
        rfl
      exact h1 _ this
    have e0 : (bif decide ((0 : Int) < (t.length : Int)) then ((getI t 0).bind fun x1 => (bif (decide (x1.toBitVec = (33 : UInt8).toBitVec)) then (bif decide ((1 : Int) ≤ (t.length : Int)) then (some (((⟨[], false, false⟩ : ApiSuffix), ()), ((⟨[], false, true⟩ : ApiSuffix), ()), (List.drop 1 t), ())) else none) else (some (((⟨[], false, false⟩ : ApiSuffix), ()), ((⟨[], false, false⟩ : ApiSuffix), ()), t, ())))) else (some (((⟨[], false, false⟩ : ApiSuffix), ()), ((⟨[], false, false⟩ : ApiSuffix), ()), t, ()))) = some (((⟨[], false, false⟩ : ApiSuffix), ()), ((⟨[], false, false⟩ : ApiSuffix), ()), t, ()) := by
      cases t with
      | nil => rfl
      | cons x r =>
        have hx : x ≠ 33 := fun e => h2 r (by rw [e])
        rw [show decide ((0 : Int) < ((x :: r).length : Int)) = true by rw [decide_eq_true_eq, List.length_cons]; omega]
        have e0 : getI (x :: r) 0 = some x := rfl
        simp only [cond_true, e0, bindS, e33, hx, decide_false, cond_false]
    simp only [e2, cond_false]
    rw [e0]
    have : ∀ (z : Option ((ApiSuffix × Unit) × (ApiSuffix × Unit) × List UInt8 × Unit)), (bif decide ((1 : Int) < (t.length : Int)) then (bif decide ((2 : Int) ≤ (t.length : Int)) then z else none) else z) = z := fun z => by
      by_cases h : 1 < t.length
      · rw [show decide ((1 : Int) < (t.length : Int)) = true by simp; omega, show decide ((2 : Int) ≤ (t.length : Int)) = true by simp; omega]
        rfl
      · rw [show decide ((1 : Int) < (t.length : Int)) = false by simp; omega]
        rfl
    rw [this]
    simp only [bindS, rLabels_ok]
    exact ruleOf_prog (labs t) false false
end Go.Proofs.YtbdpgpnfpjodfaaDoor

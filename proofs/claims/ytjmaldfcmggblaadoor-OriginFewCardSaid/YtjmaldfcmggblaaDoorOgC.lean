/- The laws OriginRelated and OriginFew, plainly. No condition. -/
import Derived.Test.YtjmaldfcmggblaaDoorOgB
set_option linter.unusedVariables false
set_option linter.unusedSimpArgs false
set_option maxRecDepth 100000
namespace Go.Proofs.YtjmaldfcmggblaaDoor
open Go Go.Abs
def fst46 (s : List UInt8) : List UInt8 := (spl 46 s).headD []
theorem CutD_ok (s : List UInt8) (hs : s.length < 1000000) : ∃ b q, strings_Cut s [46] = some ((), fst46 s, b, q, ()) := by
  unfold strings_Cut stringslite_Cut stringslite_Index
  simp only [List.length_singleton, decide_true, cond_true, bindS, Lib.index_one]
  rcases indexByte_cases 46 s with ⟨h1, h2⟩ | ⟨a, b, h1, h2, h3⟩
  · rw [h1]
    refine ⟨[], false, ?_⟩
    unfold fst46
    rw [spl_free h2]; rfl
  · subst h1
    simp only [List.length_append, List.length_cons] at hs
    rw [h3, show decide ((0 : Int) ≤ (a.length : Int)) = true by simp, show decide ((a.length : Int) ≤ ((a ++ 46 :: b).length : Int)) = true by simp; omega]
    have ew : IntKind.wrap .i64 ((a.length : Int) + ((1 : Nat) : Int)) = (a.length : Int) + 1 := wrap_id (by omega) (by omega)
    simp only [List.length_singleton, ew]
    rw [show (decide ((0 : Int) ≤ (a.length : Int) + 1) && decide ((a.length : Int) + 1 ≤ ((a ++ 46 :: b).length : Int))) = true by simp; omega]
    simp only [Bool.and_self, cond_true, bindS, Int.toNat_natCast]
    unfold fst46
    rw [show ((a.length : Int) + 1).toNat = a.length + 1 by omega, spl_app b h2]
    exact ⟨b, true, by simp⟩
theorem keq1_eq (x y : List UInt8) : keq1 x y = decide (x = y) := by
  unfold keq1
  rw [Bool.eq_iff_iff]
  simp
theorem named_eq (l : List (List UInt8)) (d : List UInt8) : l.any (keq1 d) = l.any (fun y => decide (y = d)) := by
  congr 1
  funext y
  rw [keq1_eq, Bool.eq_iff_iff]
  simp [eq_comm]
theorem orig_eq (x o : ApiOrigin) : ((x.secure == o.secure) && (decide (x.host = o.host) && (decide (x.port = o.port) && true))) = decide (x = o) := by
  obtain ⟨a, b, c⟩ := x
  obtain ⟨a', b', c'⟩ := o
  rw [Bool.eq_iff_iff]
  simp
theorem reg_len (l : List ApiSuffix) (s : List UInt8) : (reg l s).1.length < 1000000 := by
  obtain ⟨h1, h2⟩ := labs_len s
  unfold reg
  cases decide (((labs s).length : Int) ≤ pub l s)
  · simp only [cond_false]
    have := joinD_le 100 ((labs s).drop ((labs s).length - (pub l s).toNat - 1)) (fun x hx => h2 x (List.mem_of_mem_drop hx))
    rw [List.length_drop] at this
    have h3 : ((labs s).length - ((labs s).length - (pub l s).toNat - 1)) * (100 + 1) ≤ 101 * 101 := Nat.mul_le_mul (by omega) (by omega)
    omega
  · simp
def rel (l : List ApiSuffix) (o : ApiOrigin) : List (List UInt8) → List (List UInt8) → Bool
  | [], _ => false
  | t :: r, seen => bif decide ((porig t).2 = 0) && (reg l (porig t).1.host).2 then
      (bif seen.any (fun y => decide (y = fst46 (reg l (porig t).1.host).1)) then (bif decide ((porig t).1 = o) then true else rel l o r seen)
       else bif decide (5 ≤ seen.length) then rel l o r seen
       else (bif decide ((porig t).1 = o) then true else rel l o r (seen ++ [fst46 (reg l (porig t).1.host).1])))
    else rel l o r seen
def outP (b : Bool) : (Int × Unit) ⊕ Unit := bif b then .inl (0, ()) else .inr ()
def outV (b : Bool) : Int := bif b then 0 else 34
theorem Related_ok (l : List ApiSuffix) (o : ApiOrigin) (list : List (List UInt8)) (hn : list.length < 1000000) (hl : ∀ t ∈ list, t.length < 1000000) : origin_Related l o list = some ((), outV (rel l o list []), ()) := by
  have key : origin_Related_L0 (l, (o, ()), [], list, (list.length : Int), 0, ()) = some (outP (rel l o list [])) := by
    unfold origin_Related_L0
    refine Eq.trans (iter_fun (fun s => ∃ (k : Nat) (seen : List (List UInt8)), k ≤ list.length ∧ s = (l, (o, ()), seen, list, (list.length : Int), (k : Int), ())) (fun s => (list.length - s.2.2.2.2.2.1).toNat)
      (fun s => outP (rel l o (list.drop s.2.2.2.2.2.1.toNat) s.2.2.1)) ?_ rounds (l, (o, ()), [], list, (list.length : Int), 0, ()) ⟨0, [], by omega, rfl⟩ (by rw [rounds_eq]; dsimp only; omega)) rfl
    · rintro _ ⟨k, seen, hk, rfl⟩
      dsimp only
      unfold origin_Related_L0b
      by_cases hki : k < list.length
      · have hlt : ((k : Int) < (list.length : Int)) := by omega
        have ha : ati list (k : Int) = list[k] := by
          unfold ati
          simp [List.getD_eq_getElem?_getD, List.getElem?_eq_getElem hki]
        have htl := hl _ (List.getElem_mem hki)
        rw [getI_some (by omega) hlt, wrap_id (by omega) (by omega), ha]
        obtain ⟨cb, cq, hcut⟩ := CutD_ok (reg l (porig list[k]).1.host).1 (reg_len l _)
        have stay : ∀ seen' : List (List UInt8), rel l o (list.drop k) seen = rel l o (list.drop (k + 1)) seen' → ∃ t, (some (Sum.inl (l, (o, ()), seen', list, (list.length : Int), (k : Int) + 1, ())) : Option ((List ApiSuffix × (ApiOrigin × Unit) × List (List UInt8) × List (List UInt8) × Int × Int × Unit) ⊕ ((Int × Unit) ⊕ Unit))) = some (Sum.inl t) ∧ (∃ (k' : Nat) (seen : List (List UInt8)), k' ≤ list.length ∧ t = (l, (o, ()), seen, list, (list.length : Int), (k' : Int), ())) ∧ (list.length - t.2.2.2.2.2.1).toNat < (list.length - (k : Int)).toNat ∧ outP (rel l o (list.drop (k : Int).toNat) seen) = outP (rel l o (list.drop t.2.2.2.2.2.1.toNat) t.2.2.1) := by
          intro seen' he
          refine ⟨_, rfl, ⟨k + 1, seen', by omega, rfl⟩, by dsimp only; omega, ?_⟩
          dsimp only
          rw [show ((k : Int) + 1).toNat = k + 1 by omega, Int.toNat_natCast, he]
        simp only [hlt, decide_true, cond_true, bindS, Parse_ok _ htl, Registrable_ok, hcut, orig_eq, named_eq]
        rw [List.drop_eq_getElem_cons hki] at stay
        rw [Int.toNat_natCast] at stay ⊢
        rw [List.drop_eq_getElem_cons hki] at stay ⊢
        simp only [rel] at stay ⊢
        generalize porig list[k] = e at stay ⊢
        generalize reg l e.1.host = g at stay ⊢
        generalize fst46 g.1 = d at stay ⊢
        by_cases h1 : e.2 = 0
        · cases h2 : g.2
          · left
            simp only [h1, h2, decide_true, Bool.not_true, Bool.not_false, cond_false, cond_true, Bool.and_false] at stay ⊢
            exact stay seen rfl
          · cases h3 : seen.any (fun y => decide (y = d))
            · by_cases h5 : 5 ≤ seen.length
              · left
                have h5' : (5 : Int) ≤ (seen.length : Int) := by omega
                simp only [h1, h2, h3, h5, h5', decide_true, Bool.not_true, Bool.not_false, cond_false, cond_true, Bool.and_true] at stay ⊢
                exact stay seen rfl
              · have h5' : ¬ (5 : Int) ≤ (seen.length : Int) := by omega
                by_cases h4 : e.1 = o
                · right
                  simp only [h1, h2, h3, h4, h5, h5', decide_true, decide_false, Bool.not_true, Bool.not_false, cond_false, cond_true, Bool.and_true]
                  rfl
                · left
                  simp only [h1, h2, h3, h4, h5, h5', decide_true, decide_false, Bool.not_true, Bool.not_false, cond_false, cond_true, Bool.and_true] at stay ⊢
                  exact stay _ rfl
            · by_cases h4 : e.1 = o
              · right
                simp only [h1, h2, h3, h4, decide_true, decide_false, Bool.not_true, Bool.not_false, cond_false, cond_true, Bool.and_true]
                rfl
              · left
                simp only [h1, h2, h3, h4, decide_true, decide_false, Bool.not_true, Bool.not_false, cond_false, cond_true, Bool.and_true] at stay ⊢
                exact stay _ rfl
        · left
          simp only [h1, decide_false, Bool.not_false, cond_false, cond_true, Bool.false_and] at stay ⊢
          exact stay seen rfl
      · right
        have : k = list.length := by omega
        subst this
        simp only [Int.lt_irrefl, decide_false, cond_false, Int.toNat_natCast, List.drop_length]
        rfl
  unfold origin_Related
  rw [key]
  cases rel l o list [] <;> rfl
theorem sm16 {n : Nat} (h : n ≤ 100000) : small n 16 = true := by
  unfold small
  simp only [decide_eq_true_eq]
  omega
theorem known_ok (l : List ApiSuffix) (list : List (List UInt8)) (o x : ApiOrigin) (seen : List (List UInt8)) (i : Int) (d : List UInt8) (ho : seen.length ≤ 1000) :
    passkeyref23_Related_L2 (l, list, (o, ()), seen, i, (x, ()), d, false, 0, ()) = some (l, list, (o, ()), seen, i, (x, ()), d, seen.any (fun y => decide (y = d)), ()) := by
  have key : Ok (passkeyref23_Related_L2 (l, list, (o, ()), seen, i, (x, ()), d, false, 0, ())) fun r => r = (l, list, (o, ()), seen, i, (x, ()), d, seen.any (fun y => decide (y = d)), ()) := by
    unfold passkeyref23_Related_L2
    refine Ok.iter (fun s => ∃ k : Nat, k ≤ seen.length ∧ s = (l, list, (o, ()), seen, i, (x, ()), d, (seen.take k).any (fun y => decide (y = d)), (k : Int), ())) (fun s => (seen.length - s.2.2.2.2.2.2.2.2.1).toNat) ⟨0, by omega, rfl⟩ (by rw [rounds_eq]; simp; omega) ?_
    rintro _ ⟨k, hk, rfl⟩
    dsimp only
    unfold passkeyref23_Related_L2b
    by_cases hki : k < seen.length
    · have hlt : ((k : Int) < (seen.length : Int)) := by omega
      have h0 : (0 : Int) ≤ (k : Int) := by omega
      rw [wrap_id (by omega) (by omega)]
      simp only [hlt, h0, decide_true, cond_true, bindS, Bool.and_self, Int.toNat_natCast, List.getElem?_eq_getElem hki]
      have hn : (seen.take (k + 1)).any (fun y => decide (y = d)) = ((seen.take k).any (fun y => decide (y = d)) || decide (seen[k] = d)) := by
        rw [List.take_succ_eq_append_getElem hki, List.any_append]; simp only [List.any_cons, List.any_nil, Bool.or_false]
      cases h : (seen.take k).any (fun y => decide (y = d))
      · simp only [cond_false]
        refine Ok.some ⟨⟨k + 1, by omega, ?_⟩, by dsimp only; omega⟩
        rw [hn, h, Bool.false_or]; rfl
      · simp only [cond_true]
        refine Ok.some ⟨⟨k + 1, by omega, ?_⟩, by dsimp only; omega⟩
        rw [hn, h, Bool.true_or]; rfl
    · have : k = seen.length := by omega
      subst this
      simp only [Int.lt_irrefl, decide_false, cond_false, List.take_length]
      exact Ok.some rfl
  obtain ⟨r, e, rfl⟩ := key
  exact e
theorem spl_head (s : List UInt8) : 0 < (spl 46 s).length ∧ (spl 46 s)[0]? = some (fst46 s) := by
  unfold fst46
  cases h : spl 46 s with
  | nil => exact absurd h (spl_ne 46 s)
  | cons x r => simp
theorem rRelated_ok (l : List ApiSuffix) (hr : ∀ x ∈ l, x.labels.length ≤ 1000000) (o : ApiOrigin) (list : List (List UInt8)) (hn : list.length < 1000000) (hl : ∀ t ∈ list, t.length < 1000000) : passkeyref23_Related l o list = some ((), outV (rel l o list []), ()) := by
  have key : passkeyref23_Related_L0 (l, list, (o, ()), [], 0, ()) = some (outP (rel l o list [])) := by
    unfold passkeyref23_Related_L0
    refine Eq.trans (iter_fun (fun s => ∃ (k : Nat) (seen : List (List UInt8)), k ≤ list.length ∧ seen.length ≤ 5 ∧ s = (l, list, (o, ()), seen, (k : Int), ())) (fun s => (list.length - s.2.2.2.2.1).toNat)
      (fun s => outP (rel l o (list.drop s.2.2.2.2.1.toNat) s.2.2.2.1)) ?_ rounds (l, list, (o, ()), [], 0, ()) ⟨0, [], by omega, by simp, rfl⟩ (by rw [rounds_eq]; dsimp only; omega)) rfl
    · rintro _ ⟨k, seen, hk, hs5, rfl⟩
      dsimp only
      unfold passkeyref23_Related_L0b
      by_cases hki : k < list.length
      · have hlt : ((k : Int) < (list.length : Int)) := by omega
        have ha : ati list (k : Int) = list[k] := by
          unfold ati
          simp [List.getD_eq_getElem?_getD, List.getElem?_eq_getElem hki]
        have htl := hl _ (List.getElem_mem hki)
        have hw : IntKind.wrap .i64 ((k : Int) + 1) = (k : Int) + 1 := wrap_id (by omega) (by omega)
        rw [getI_some (by omega) hlt, hw, ha]
        obtain ⟨hp1, hp2⟩ := spl_head (reg l (porig list[k]).1.host).1
        have hp1' : (0 : Int) < ((spl 46 (reg l (porig list[k]).1.host).1).length : Int) := by omega
        have stay : ∀ seen' : List (List UInt8), seen'.length ≤ 5 → rel l o (list.drop k) seen = rel l o (list.drop (k + 1)) seen' → ∃ t, (some (Sum.inl (l, list, (o, ()), seen', (k : Int) + 1, ())) : Option ((List ApiSuffix × List (List UInt8) × (ApiOrigin × Unit) × List (List UInt8) × Int × Unit) ⊕ ((Int × Unit) ⊕ Unit))) = some (Sum.inl t) ∧ (∃ (k' : Nat) (seen : List (List UInt8)), k' ≤ list.length ∧ seen.length ≤ 5 ∧ t = (l, list, (o, ()), seen, (k' : Int), ())) ∧ (list.length - t.2.2.2.2.1).toNat < (list.length - (k : Int)).toNat ∧ outP (rel l o (list.drop (k : Int).toNat) seen) = outP (rel l o (list.drop t.2.2.2.2.1.toNat) t.2.2.2.1) := by
          intro seen' h5 he
          refine ⟨_, rfl, ⟨k + 1, seen', by omega, h5, rfl⟩, by dsimp only; omega, ?_⟩
          dsimp only
          rw [show ((k : Int) + 1).toNat = k + 1 by omega, Int.toNat_natCast, he]
        have hsm : ∀ x : List UInt8, small (seen.length + [x].length) 16 = true := fun x => sm16 (by simp; omega)
        simp only [hlt, decide_true, cond_true, bindS, rParse_ok _ htl, rRegistrable_ok _ _ hr, rsplit_ok _ _ (reg_len l _), hp1', hp2, known_ok _ _ _ _ _ _ _ (Nat.le_trans hs5 (by omega)), orig_eq, hsm, hw]
        rw [List.drop_eq_getElem_cons hki] at stay
        rw [Int.toNat_natCast] at stay ⊢
        rw [List.drop_eq_getElem_cons hki] at stay ⊢
        simp only [rel] at stay ⊢
        clear hp1 hp2 hp1'
        generalize porig list[k] = e at stay ⊢
        generalize reg l e.1.host = g at stay ⊢
        generalize fst46 g.1 = d at stay ⊢
        by_cases h1 : e.2 = 0
        · cases h2 : g.2
          · left
            simp only [h1, h2, decide_true, Bool.not_true, Bool.not_false, cond_false, cond_true, Bool.and_false] at stay ⊢
            exact stay seen hs5 rfl
          · cases h3 : seen.any (fun y => decide (y = d))
            · by_cases h5 : 5 ≤ seen.length
              · left
                have h5' : (5 : Int) ≤ (seen.length : Int) := by omega
                simp only [h1, h2, h3, h5, h5', decide_true, Bool.not_true, Bool.not_false, cond_false, cond_true, Bool.and_true] at stay ⊢
                exact stay seen hs5 rfl
              · have h5' : ¬ (5 : Int) ≤ (seen.length : Int) := by omega
                by_cases h4 : e.1 = o
                · right
                  simp only [h1, h2, h3, h4, h5, h5', decide_true, decide_false, Bool.not_true, Bool.not_false, cond_false, cond_true, Bool.and_true]
                  rfl
                · left
                  simp only [h1, h2, h3, h4, h5, h5', decide_true, decide_false, Bool.not_true, Bool.not_false, cond_false, cond_true, Bool.and_true] at stay ⊢
                  exact stay _ (by simp; omega) rfl
            · by_cases h4 : e.1 = o
              · right
                simp only [h1, h2, h3, h4, decide_true, decide_false, Bool.not_true, Bool.not_false, cond_false, cond_true, Bool.and_true]
                rfl
              · left
                simp only [h1, h2, h3, h4, decide_true, decide_false, Bool.not_true, Bool.not_false, cond_false, cond_true, Bool.and_true] at stay ⊢
                exact stay _ hs5 rfl
        · left
          simp only [h1, decide_false, Bool.not_false, cond_false, cond_true, Bool.false_and] at stay ⊢
          exact stay seen hs5 rfl
      · right
        have : k = list.length := by omega
        subst this
        simp only [Int.lt_irrefl, decide_false, cond_false, Int.toNat_natCast, List.drop_length]
        rfl
  unfold passkeyref23_Related
  rw [key]
  cases rel l o list [] <;> rfl
theorem rel_L0 (n m : Int) (l : List (List UInt8)) (more : List Int) (hl : l.length ≤ 10) : Ok (passkeylaw24_OriginRelated_L0 (n, m, l, more, 0, ())) fun r => r = .inl (true, ()) ∨ (r = .inr (n, m, l, more, ()) ∧ ∀ t ∈ l, t.length ≤ 150) := by
  unfold passkeylaw24_OriginRelated_L0
  refine Ok.iter (fun s => ∃ k : Nat, k ≤ l.length ∧ (∀ j (hj : j < l.length), j < k → l[j].length ≤ 150) ∧ s = (n, m, l, more, (k : Int), ())) (fun s => (l.length - s.2.2.2.2.1).toNat) ⟨0, by omega, fun j _ hj => by omega, rfl⟩ (by rw [rounds_eq]; simp; omega) ?_
  rintro _ ⟨k, hk, hj, rfl⟩
  dsimp only
  unfold passkeylaw24_OriginRelated_L0b
  by_cases hki : k < l.length
  · have hlt : ((k : Int) < (l.length : Int)) := by omega
    have ha : ati l (k : Int) = l[k] := by
      unfold ati
      simp [List.getD_eq_getElem?_getD, List.getElem?_eq_getElem hki]
    rw [getI_some (by omega) hlt, wrap_id (by omega) (by omega), ha]
    simp only [hlt, decide_true, cond_true, bindS, awake_ok]
    refine Ok.cond ?_ ?_ <;> intro h1
    · exact Ok.some (.inl rfl)
    refine Ok.some ⟨⟨k + 1, by omega, fun j hjl hj' => ?_, rfl⟩, by dsimp only; omega⟩
    by_cases e : j = k
    · subst e; simp only [decide_eq_false_iff_not] at h1; omega
    · exact hj j hjl (by omega)
  · have : k = l.length := by omega
    subst this
    simp only [Int.lt_irrefl, decide_false, cond_false]
    refine Ok.some (.inr ⟨rfl, fun x hx => ?_⟩)
    obtain ⟨j, hjl, rfl⟩ := List.mem_iff_getElem.1 hx
    exact hj j hjl hjl
theorem rel_L2 (m : Int) (more : List Int) (r : List ApiSuffix) (l : List (List UInt8)) (hm : more.length ≤ 12) (hl : l.length ≤ 10) (hs : ∀ t ∈ l, t.length ≤ 150) :
    Ok (passkeylaw24_OriginRelated_L2 (m, more, r, l, 0, ())) fun z => ∃ l', z = (m, r, l', ()) ∧ l'.length ≤ 22 ∧ ∀ t ∈ l', t.length ≤ 150 := by
  unfold passkeylaw24_OriginRelated_L2
  refine Ok.iter (fun s => ∃ (k : Nat) (l' : List (List UInt8)), k ≤ more.length ∧ l'.length ≤ 10 + k ∧ (∀ t ∈ l', t.length ≤ 150) ∧ s = (m, more, r, l', (k : Int), ())) (fun s => (more.length - s.2.2.2.2.1).toNat) ⟨0, l, by omega, by omega, hs, rfl⟩ (by rw [rounds_eq]; simp; omega) ?_
  rintro _ ⟨k, l', hk, hl', hs', rfl⟩
  dsimp only
  unfold passkeylaw24_OriginRelated_L2b
  by_cases hki : k < more.length
  · have hlt : ((k : Int) < (more.length : Int)) := by omega
    rw [getI_some (by omega) hlt, wrap_id (by omega) (by omega)]
    obtain ⟨t, ht, htl⟩ := text_ok (ati more k) (IntKind.wrap .i64 (Int.tdiv (ati more k) 30))
    have hsm : ∀ x : List UInt8, small (l'.length + [x].length) 16 = true := fun x => sm16 (by simp; omega)
    simp only [hlt, decide_true, cond_true, bindS, ht, hsm]
    refine Ok.some ⟨⟨k + 1, _, by omega, by simp; omega, fun x hx => ?_, rfl⟩, by dsimp only; omega⟩
    rcases List.mem_append.1 hx with hx | hx
    · exact hs' x hx
    · simp only [List.mem_singleton] at hx; subst hx; omega
  · have : k = more.length := by omega
    subst this
    simp only [Int.lt_irrefl, decide_false, cond_false]
    exact Ok.some ⟨l', rfl, by omega, hs'⟩
theorem OriginRelated_plain (a0 a1 : Int) (a2 : List (List UInt8)) (a3 : List Int) (hd : OriginRelated_dom a0 a1 a2 a3) : Ok (passkeylaw24_OriginRelated a0 a1 a2 a3) fun r => r.2.1 = true := by
  unfold passkeylaw24_OriginRelated
  refine Ok.cond (fun _ => awakeOk) (fun h0 => ?_)
  refine Ok.cond (fun _ => awakeOk) (fun h1 => ?_)
  simp only [decide_eq_false_iff_not] at h0 h1
  refine Ok.bind ((rel_L0 a0 a1 a2 a3 (by omega)).mono ?_)
  rintro _ (rfl | ⟨rfl, hs⟩)
  · exact Ok.some rfl
  obtain ⟨r, hr, hrl, hra⟩ := Rules_ok a0
  have hrs : ∀ x ∈ r, x.labels.length ≤ 1000000 := fun x hx => by
    obtain ⟨j, hj, _⟩ := hra x hx
    have := all8_len hj
    omega
  simp only [Sum.elim_inr, hr, bindS, sm16 (n := a2.length) (by omega), cond_true]
  refine Ok.bind ((rel_L2 a1 a3 r a2 (by omega) (by omega) hs).mono ?_)
  rintro _ ⟨l', rfl, hll, hls⟩
  dsimp only
  have hlB : ∀ t ∈ l', t.length < 1000000 := fun t ht => by have := hls t ht; omega
  obtain ⟨q, hq, eq⟩ := Mod_ok a1 8192 (by omega) (by omega)
  rw [show ((8192 : Nat) : Int) = 8192 from rfl] at eq
  obtain ⟨x, hx, _⟩ := Origin_ok (q : Int) (by omega) (by omega)
  simp only [eq, hx, bindS]
  have tail : Ok (Option.bind (some ((Sum.inl (r, l', (x, ()), ())) : (List ApiSuffix × List (List UInt8) × (ApiOrigin × Unit) × Unit) ⊕ (Unit × (Bool × Unit)))) (Sum.elim (fun (j19 : ((List (ApiSuffix)) × (List (List UInt8)) × (ApiOrigin × Unit) × Unit)) => ((origin_Related j19.1 j19.2.2.1.1 j19.2.1).bind fun r20 => ((passkeyref23_Related j19.1 j19.2.2.1.1 j19.2.1).bind fun r21 => (bif (decide (r20.2.1 = r21.2.1)) then ((passkeylaw24_awake).bind fun r22 => (some ((), (r22.2.1, ()))))
 else (some ((), (false, ()))))))) some)) fun r => r.2.1 = true := by
    simp only [bindS, Sum.elim_inl, Related_ok r x l' (by omega) hlB, rRelated_ok r hrs x l' (by omega) hlB, decide_true, cond_true]
    exact awakeOk
  by_cases h2 : (0 : Int) < (l'.length : Int)
  · obtain ⟨j, hj, ej⟩ := Mod_ok a1 l'.length (by omega) (by omega)
    have hj' : (decide ((0 : Int) ≤ (j : Int)) && decide ((j : Int) < (l'.length : Int))) = true := by simp; omega
    simp only [h2, decide_true, cond_true, ej, bindS, hj', Int.toNat_natCast, List.getElem?_eq_getElem hj, rParse_ok _ (hlB _ (List.getElem_mem hj)), Related_ok r _ l' (by omega) hlB, rRelated_ok r hrs _ l' (by omega) hlB, Bool.not_true, cond_false]
    exact tail
  · simp only [h2, decide_false, cond_false]
    exact tail
end Go.Proofs.YtjmaldfcmggblaaDoor

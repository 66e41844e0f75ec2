/- What the functions on host names compute: cutting at the periods, joining, names. No condition. -/
import Derived.Test.YtbdpgpnfpjodfaaDoorHostA
import Derived.Lib.Split
import Derived.Lib.IndexBytes
import Derived.Lib.SplitLaws
set_option linter.unusedVariables false
set_option linter.unusedSimpArgs false
set_option maxRecDepth 100000
namespace Go.Proofs.YtbdpgpnfpjodfaaDoor
open Go Go.Abs

/-! ### cutting -/
def spl (c : UInt8) : List UInt8 → List (List UInt8)
  | [] => [[]]
  | x :: r => if x = c then [] :: spl c r else match spl c r with
    | [] => [[x]]
    | p :: ps => (x :: p) :: ps
theorem spl_ne (c : UInt8) : ∀ s, spl c s ≠ []
  | [] => by simp [spl]
  | x :: r => by
    unfold spl
    split
    · simp
    · split <;> simp
theorem spl_free {c : UInt8} : ∀ {s : List UInt8}, c ∉ s → spl c s = [s]
  | [], _ => rfl
  | x :: r, h => by
    simp only [List.mem_cons, not_or] at h
    unfold spl
    rw [if_neg (fun e => h.1 e.symm), spl_free h.2]
theorem spl_app {c : UInt8} : ∀ {a : List UInt8} (b : List UInt8), c ∉ a → spl c (a ++ c :: b) = a :: spl c b
  | [], b, _ => by simp [spl]
  | x :: a, b, h => by
    simp only [List.mem_cons, not_or] at h
    rw [List.cons_append, spl, if_neg (fun e => h.1 e.symm), spl_app b h.2]
theorem indexByte_cases (c : UInt8) : ∀ s : List UInt8, (Lib.indexByte s c = -1 ∧ c ∉ s) ∨ ∃ a b, s = a ++ c :: b ∧ c ∉ a ∧ Lib.indexByte s c = (a.length : Int)
  | [] => .inl ⟨rfl, by simp⟩
  | x :: r => by
    by_cases hx : x = c
    · subst hx
      exact .inr ⟨[], r, rfl, by simp, by simp [Lib.indexByte]⟩
    · have hb : (x == c) = false := by simpa using hx
      rcases indexByte_cases c r with ⟨h1, h2⟩ | ⟨a, b, h1, h2, h3⟩
      · left
        refine ⟨by simp [Lib.indexByte, hb, h1], ?_⟩
        simp only [List.mem_cons, not_or]
        exact ⟨fun e => hx e.symm, h2⟩
      · right
        refine ⟨x :: a, b, by simp [h1], ?_, ?_⟩
        · simp only [List.mem_cons, not_or]
          exact ⟨fun e => hx e.symm, h2⟩
        · have : ¬ (Lib.indexByte r c == -1) = true := by rw [h3]; simp
          rw [Lib.indexByte, hb]
          simp only [Bool.false_eq_true, if_false, this, h3]
          simp
theorem splitK_spl (c : UInt8) : ∀ (k : Nat) (s : List UInt8), s.count c ≤ k → Lib.splitK [c] 0 k s = spl c s
  | 0, s, h => by
    have : c ∉ s := List.count_eq_zero.1 (by omega)
    rw [spl_free this]; rfl
  | k + 1, s, h => by
    unfold Lib.splitK
    rw [Lib.index_one]
    rcases indexByte_cases c s with ⟨h1, h2⟩ | ⟨a, b, h1, h2, h3⟩
    · rw [h1, spl_free h2]; rfl
    · have : ¬ ((Lib.indexByte s c == -1) = true) := by rw [h3]; simp
      rw [if_neg this, h3]
      subst h1
      have e1 : ((a.length : Int).toNat + 0) = a.length := by simp
      have e2 : ((a.length : Int).toNat + [c].length) = a.length + 1 := by simp
      rw [e1, e2, List.take_left', spl_app b h2, show List.drop (a.length + 1) (a ++ c :: b) = b by simp, splitK_spl c k b]
      · rw [List.count_append, List.count_cons_self] at h
        omega
      · rfl
theorem split_spl (s : List UInt8) (c : UInt8) : Lib.split s [c] = spl c s := by
  unfold Lib.split
  rw [Lib.count_one]
  exact splitK_spl c _ s (Nat.le_refl _)
theorem Split_ok (s : List UInt8) (h : s.length < 4294967281) : strings_Split s [46] = some ((), spl 46 s, ()) := by
  unfold strings_Split
  rw [split_spl]
  simp [h]
theorem small16 {n : Nat} (h : n < 100000000) : small n 16 = true := by
  unfold small
  simp only [decide_eq_true_eq]
  omega
theorem rsplit_ok (s : List UInt8) (c : UInt8) (hs : s.length < 1000000) : passkeyref23_split s c = some ((), spl c s, ()) := by
  unfold passkeyref23_split
  have : Ok (passkeyref23_split_L0 (s, c, [], 0, 0, ())) fun z => z.1 = s ∧ z.2.1.length ≤ s.length ∧ 0 ≤ z.2.2.1 ∧ z.2.2.1 ≤ s.length ∧ z.2.1 ++ [s.drop z.2.2.1.toNat] = spl c s := by
    unfold passkeyref23_split_L0
    refine Ok.iter (fun q => q.1 = s ∧ q.2.1 = c ∧ (q.2.2.1.length : Int) ≤ q.2.2.2.2.1 ∧ 0 ≤ q.2.2.2.1 ∧ q.2.2.2.1 ≤ q.2.2.2.2.1 ∧ q.2.2.2.2.1 ≤ (s.length : Int) ∧ c ∉ (s.drop q.2.2.2.1.toNat).take (q.2.2.2.2.1.toNat - q.2.2.2.1.toNat) ∧ q.2.2.1 ++ spl c (s.drop q.2.2.2.1.toNat) = spl c s) (fun q => s.length - q.2.2.2.2.1.toNat) ⟨rfl, rfl, by simp, by simp, by simp, by simp, by simp, by simp⟩ (by rw [rounds_eq]; dsimp only; omega) ?_
    rintro ⟨y0, y1, y2, y3, y4, u⟩ ⟨h1, h2, h3, h4, h5, h6, h7, h8⟩
    dsimp only at *
    subst h1; subst h2
    simp only [passkeyref23_split_L0b]
    by_cases hi : y4 < (y0.length : Int)
    · rw [getI_some (by omega) hi, wrap_id (n := y4 + 1) (by omega) (by omega)]
      simp only [hi, decide_true, cond_true, bindS]
      have hx : ati y0 y4 = y0[y4.toNat]'(by omega) := by simp [ati, show y4.toNat < y0.length by omega]
      have ex : y0.drop y3.toNat = (y0.drop y3.toNat).take (y4.toNat - y3.toNat) ++ ati y0 y4 :: y0.drop (y4.toNat + 1) := by
        conv => lhs; rw [← List.take_append_drop (y4.toNat - y3.toNat) (y0.drop y3.toNat)]
        rw [List.drop_drop, show y3.toNat + (y4.toNat - y3.toNat) = y4.toNat by omega, List.drop_eq_getElem_cons (show y4.toNat < y0.length by omega), hx]
      by_cases hc : ati y0 y4 = y1
      · rw [show decide ((ati y0 y4).toBitVec = y1.toBitVec) = true by rw [hc]; simp]
        rw [show (decide ((0 : Int) ≤ y4) && decide (y4 ≤ (y0.length : Int))) = true by simp; omega, show (decide ((0 : Int) ≤ y3) && decide (y3 ≤ (y4.toNat : Int))) = true by simp; omega]
        simp only [cond_true]
        rw [small16 (by simp; omega)]
        simp only [cond_true]
        refine Ok.some ?_
        dsimp only
        refine ⟨⟨rfl, rfl, by simp; omega, by omega, by omega, by omega, by simp, ?_⟩, by omega⟩
        rw [← h8]
        rw [hc] at ex
        conv => rhs; rw [ex, spl_app _ h7]
        rw [show (y4 + 1).toNat = y4.toNat + 1 by omega, List.append_assoc]
        congr 1
        rw [List.singleton_append, List.drop_take]
      · rw [show decide ((ati y0 y4).toBitVec = y1.toBitVec) = false by rw [decide_eq_false_iff_not]; exact fun e => hc (UInt8.toBitVec_inj.1 e)]
        simp only [cond_false]
        refine Ok.some ?_
        dsimp only
        refine ⟨⟨rfl, rfl, by omega, by omega, by omega, by omega, ?_, h8⟩, by omega⟩
        rw [ex, show (y4 + 1).toNat - y3.toNat = (y4.toNat - y3.toNat) + 1 by omega, List.take_append]
        have hl : ((y0.drop y3.toNat).take (y4.toNat - y3.toNat)).length = y4.toNat - y3.toNat := by simp; omega
        rw [hl]
        simp only [List.mem_append, not_or]
        refine ⟨fun h => h7 (List.mem_of_mem_take h), ?_⟩
        rw [show y4.toNat - y3.toNat + 1 - (y4.toNat - y3.toNat) = 1 by omega]
        simp only [List.take_succ_cons, List.take_zero, List.mem_cons, List.not_mem_nil, or_false]
        exact fun e => hc e.symm
    · simp only [hi, decide_false, cond_false]
      refine Ok.some ?_
      dsimp only
      refine ⟨rfl, by omega, h4, by omega, ?_⟩
      rw [← h8]
      congr 1
      rw [spl_free]
      intro hm
      apply h7
      rwa [List.take_of_length_le (by simp; omega)]
  obtain ⟨⟨z0, z1, z2, u⟩, h0, h1, h2, h3, h4, h5⟩ := this
  dsimp only at *
  subst h1
  rw [h0]
  simp only [bindS]
  rw [show (decide ((0 : Int) ≤ z2) && decide (z2 ≤ (z0.length : Int))) = true by simp; omega]
  simp only [cond_true]
  rw [small16 (by simp; omega)]
  simp only [cond_true]
  rw [h5]

/-! ### names -/
theorem trim_nil (l : List UInt8) : Lib.trimS l [48, 49, 50, 51, 52, 53, 54, 55, 56, 57] = [] ↔ l.all isDig = true := by
  have hp : ∀ x : UInt8, ([48, 49, 50, 51, 52, 53, 54, 55, 56, 57] : List UInt8).contains x = isDig x := fun x => by
    have hq : ∀ n : Fin 256, ([48, 49, 50, 51, 52, 53, 54, 55, 56, 57] : List UInt8).contains (UInt8.ofNat n.val) = isDig (UInt8.ofNat n.val) := by decide +kernel
    have := hq ⟨x.toNat, UInt8.toNat_lt x⟩
    simpa only [UInt8.ofNat_toNat] using this
  have hdw : ∀ m : List UInt8, m.dropWhile (fun x => ([48, 49, 50, 51, 52, 53, 54, 55, 56, 57] : List UInt8).contains x) = [] ↔ m.all isDig = true := by
    intro m
    induction m with
    | nil => simp
    | cons x r ih =>
      rw [List.dropWhile_cons, hp x, List.all_cons]
      cases isDig x
      · simp
      · simpa using ih
  unfold Lib.trimS Lib.trimLeftS Lib.trimRightS
  constructor
  · intro h
    have h2 := (hdw _).1 h
    by_cases hn : l.reverse.dropWhile (fun x => ([48, 49, 50, 51, 52, 53, 54, 55, 56, 57] : List UInt8).contains x) = []
    · have := (hdw _).1 hn
      simpa using this
    · exfalso
      rw [List.all_reverse] at h2
      have hh := List.head_dropWhile_not (fun x => ([48, 49, 50, 51, 52, 53, 54, 55, 56, 57] : List UInt8).contains x) hn
      have := List.all_eq_true.1 h2 _ (List.head_mem hn)
      rw [hp] at hh
      rw [hh] at this
      cases this
  · intro h
    have : l.reverse.dropWhile (fun x => ([48, 49, 50, 51, 52, 53, 54, 55, 56, 57] : List UInt8).contains x) = [] := (hdw _).2 (by simpa using h)
    rw [this]
    rfl
theorem Trim_ok (l : List UInt8) (h : l.length < 1000000) : strings_Trim l [48, 49, 50, 51, 52, 53, 54, 55, 56, 57] = some ((), Lib.trimS l [48, 49, 50, 51, 52, 53, 54, 55, 56, 57], ()) := by
  unfold strings_Trim
  have h1 : l.length ≤ 9223372036854775807 := by omega
  simp only [h1, decide_true, Bool.true_and]
  rfl
def lastL (l : List (List UInt8)) : List UInt8 := l.getD (l.length - 1) []
def vali (s : List UInt8) : Int := bif decide (100 < s.length) then 8 else bif (spl 46 s).all lab then (bif (lastL (spl 46 s)).all isDig then 2 else 0) else 2
theorem spl_len (c : UInt8) : ∀ s : List UInt8, (spl c s).length ≤ s.length + 1 ∧ ∀ x ∈ spl c s, x.length ≤ s.length
  | [] => by simp [spl]
  | x :: r => by
    obtain ⟨h1, h2⟩ := spl_len c r
    unfold spl
    split
    · refine ⟨by simp; omega, ?_⟩
      intro y hy
      rcases List.mem_cons.1 hy with rfl | hy
      · simp
      · have := h2 y hy; simp; omega
    · split
      · simp
      · rename_i p ps e
        rw [e] at h1 h2
        refine ⟨by simp at h1 ⊢; omega, ?_⟩
        intro y hy
        rcases List.mem_cons.1 hy with rfl | hy
        · have := h2 p (by simp); simp; omega
        · have := h2 y (by simp [hy]); simp; omega
theorem getLast_D (l : List (List UInt8)) (h : l ≠ []) : l[l.length - 1]? = some (lastL l) := by
  have : l.length - 1 < l.length := by have := List.length_pos_iff.2 h; omega
  simp [lastL, this]
theorem Validate_ok (s : List UInt8) : host_Validate s = some ((), vali s, ()) := by
  unfold host_Validate vali
  by_cases h : 100 < s.length
  · rw [show decide ((100 : Int) < (s.length : Int)) = true by simp; omega]
    simp [h]
  · rw [show decide ((100 : Int) < (s.length : Int)) = false by simp; omega, Split_ok s (by omega)]
    simp only [h, decide_false, cond_false, bindS]
    obtain ⟨hl1, hl2⟩ := spl_len 46 s
    have hne := spl_ne 46 s
    generalize spl 46 s = L at *
    unfold host_Validate_L0
    rw [iter_scan (fun i (_ : Unit) => (L, L, (L.length : Int), i, ())) L (fun i x _ => bif lab x then .inl () else .inr (.inl (2, ()))) (fun _ => .inr (L, ())) (fun _ _ => True) ?_ ?_ () trivial rounds (by rw [rounds_eq]; omega)]
    · rw [scan_allI (fun _ x => lab x), allI_all]
      simp only [bindS]
      cases L.all lab
      · rfl
      · simp only [cond_true, Sum.elim_inr]
        have hp := List.length_pos_iff.2 hne
        rw [wrap_id (by omega) (by omega)]
        have : getI L ((L.length : Int) - 1) = some (lastL L) := by
          unfold getI
          rw [show decide ((0 : Int) ≤ (L.length : Int) - 1) = true by simp; omega, show ((L.length : Int) - 1).toNat = L.length - 1 by omega]
          exact getLast_D L hne
        rw [this]
        simp only [bindS]
        have hm : lastL L ∈ L := List.mem_of_getElem? (getLast_D L hne)
        rw [Trim_ok _ (by have := hl2 _ hm; omega)]
        simp only [bindS]
        rw [show decide (Lib.trimS (lastL L) [48, 49, 50, 51, 52, 53, 54, 55, 56, 57] = []) = (lastL L).all isDig by rw [Bool.eq_iff_iff, decide_eq_true_eq]; exact trim_nil _]
        cases (lastL L).all isDig <;> rfl
    · intro i x a hx _
      obtain ⟨hi, hx'⟩ := List.getElem?_eq_some_iff.1 hx
      refine ⟨?_, fun _ _ => trivial⟩
      simp only [host_Validate_L0b]
      have hg : getI L (i : Int) = some x := by simp [getI, hx]
      rw [hg, show decide ((i : Int) < (L.length : Int)) = true by simp; omega, wrap_id (n := (i : Int) + 1) (by omega) (by omega)]
      simp only [cond_true, bindS, validLabel_ok]
      cases lab x <;> rfl
    · intro a _
      simp only [host_Validate_L0b]
      simp
theorem rValidate_ok (s : List UInt8) : passkeyref23_Validate s = some ((), vali s, ()) := by
  unfold passkeyref23_Validate vali
  by_cases h : 100 < s.length
  · rw [show decide ((100 : Int) < (s.length : Int)) = true by simp; omega]
    simp [h]
  · rw [show decide ((100 : Int) < (s.length : Int)) = false by simp; omega, rsplit_ok s 46 (by omega)]
    simp only [h, decide_false, cond_false, bindS]
    obtain ⟨hl1, hl2⟩ := spl_len 46 s
    have hne := spl_ne 46 s
    generalize spl 46 s = L at *
    unfold passkeyref23_Validate_L0
    rw [iter_scan (fun i (_ : Unit) => (L, i, ())) L (fun i x _ => bif lab x then .inl () else .inr (.inl (2, ()))) (fun _ => .inr (L, ())) (fun _ _ => True) ?_ ?_ () trivial rounds (by rw [rounds_eq]; omega)]
    · rw [scan_allI (fun _ x => lab x), allI_all]
      simp only [bindS]
      cases L.all lab
      · rfl
      · simp only [cond_true, Sum.elim_inr]
        have hp := List.length_pos_iff.2 hne
        rw [wrap_id (by omega) (by omega)]
        rw [show (decide ((0 : Int) ≤ (L.length : Int) - 1) && decide ((L.length : Int) - 1 < (L.length : Int))) = true by simp; omega, show ((L.length : Int) - 1).toNat = L.length - 1 by omega, getLast_D L hne]
        simp only [cond_true, bindS]
        have hm : lastL L ∈ L := List.mem_of_getElem? (getLast_D L hne)
        have hml := hl2 _ hm
        generalize lastL L = x at *
        unfold passkeyref23_Validate_L2
        rw [iter_scan (fun i (_ : Unit) => (x, i, ())) x (fun i y _ => bif isDig y then .inl () else .inr (.inl (0, ()))) (fun _ => .inr ()) (fun _ _ => True) ?_ ?_ () trivial rounds (by rw [rounds_eq]; omega)]
        · rw [scan_allI (fun _ x => isDig x), allI_all]
          cases x.all isDig <;> rfl
        · intro i y a hx _
          obtain ⟨hi, hx'⟩ := List.getElem?_eq_some_iff.1 hx
          refine ⟨?_, fun _ _ => trivial⟩
          simp only [passkeyref23_Validate_L2b]
          have hg : getI x (i : Int) = some y := by simp [getI, hx]
          rw [hg, show decide ((i : Int) < (x.length : Int)) = true by simp; omega, wrap_id (n := (i : Int) + 1) (by omega) (by omega)]
          simp only [cond_true, bindS, digit_ok]
          cases isDig y <;> rfl
        · intro a _
          simp only [passkeyref23_Validate_L2b]
          simp
    · intro i x a hx _
      obtain ⟨hi, hx'⟩ := List.getElem?_eq_some_iff.1 hx
      refine ⟨?_, fun _ _ => trivial⟩
      simp only [passkeyref23_Validate_L0b]
      rw [show (decide ((0 : Int) ≤ (i : Int)) && decide ((i : Int) < (L.length : Int))) = true by simp; omega, show decide ((i : Int) < (L.length : Int)) = true by simp; omega, wrap_id (n := (i : Int) + 1) (by omega) (by omega), show ((i : Int)).toNat = i by omega, hx]
      simp only [cond_true, bindS, label_ok]
      cases lab x <;> rfl
    · intro a _
      simp only [passkeyref23_Validate_L0b]
      simp
def labs (s : List UInt8) : List (List UInt8) := bif decide (vali s = 0) then spl 46 s else []
theorem vali_len {s : List UInt8} (h : vali s = 0) : s.length ≤ 100 := by
  unfold vali at h
  by_cases h1 : 100 < s.length
  · simp [h1] at h
  · omega
theorem Labels_ok (s : List UInt8) : host_Labels s = some ((), labs s, ()) := by
  unfold host_Labels labs
  rw [Validate_ok]
  simp only [bindS]
  by_cases h : vali s = 0
  · have := vali_len h
    simp only [h, decide_true, Bool.not_true, cond_false, cond_true]
    rw [Split_ok s (by omega)]
    rfl
  · simp [h]
theorem rLabels_ok (s : List UInt8) : passkeyref23_Labels s = some ((), labs s, ()) := by
  unfold passkeyref23_Labels labs
  rw [rValidate_ok]
  simp only [bindS]
  by_cases h : vali s = 0
  · have := vali_len h
    simp only [h, decide_true, Bool.not_true, cond_false, cond_true]
    rw [rsplit_ok s 46 (by omega)]
    rfl
  · simp [h]
end Go.Proofs.YtbdpgpnfpjodfaaDoor

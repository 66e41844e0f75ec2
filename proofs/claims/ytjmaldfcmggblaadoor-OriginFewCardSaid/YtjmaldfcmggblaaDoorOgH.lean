/- What the functions on host names and rules compute. No condition. -/
import Derived.Test.YtjmaldfcmggblaaDoorFns
import Derived.Test.YtjmaldfcmggblaaDoorLib8
import Derived.Lib.Split
import Derived.Lib.IndexBytes
import Derived.Lib.SplitLaws
import Derived.Lib.Join
set_option linter.unusedVariables false
set_option linter.unusedSimpArgs false
set_option maxRecDepth 100000
namespace Go.Proofs.YtjmaldfcmggblaaDoor
open Go Go.Abs
def isDig (x : UInt8) : Bool := decide ((48 : UInt8).toBitVec.toNat ≤ x.toBitVec.toNat) && decide (x.toBitVec.toNat ≤ (57 : UInt8).toBitVec.toNat)
def isLet (x : UInt8) : Bool := decide ((97 : UInt8).toBitVec.toNat ≤ x.toBitVec.toNat) && decide (x.toBitVec.toNat ≤ (122 : UInt8).toBitVec.toNat)
def isDash (x : UInt8) : Bool := decide (x.toBitVec = (45 : UInt8).toBitVec)
theorem isDash_iff {x : UInt8} : isDash x = true ↔ x = 45 := by
  unfold isDash
  rw [decide_eq_true_eq]
  exact UInt8.toBitVec_inj
def okAt (n i : Nat) (x : UInt8) : Bool := (isLet x || isDig x) || (isDash x && (decide (0 < i) && decide (i + 1 < n)))
def inner (x : UInt8) : Bool := (isLet x || isDig x) || isDash x
def lab (l : List UInt8) : Bool := decide (1 ≤ l.length ∧ l.length ≤ 63) && ((!decide (l.head? = some 45) && !decide (l.getLast? = some 45)) && l.all inner)
theorem allI_ok (l : List UInt8) (h : 1 ≤ l.length) : allI (okAt l.length) 0 l = ((!decide (l.head? = some 45) && !decide (l.getLast? = some 45)) && l.all inner) := by
  rw [Bool.eq_iff_iff]
  rw [allI_iff]
  simp only [Bool.and_eq_true, Bool.not_eq_true', decide_eq_false_iff_not, List.all_eq_true]
  have hdash : isLet 45 = false ∧ isDig 45 = false := by decide
  constructor
  · intro hp
    refine ⟨⟨fun hh => ?_, fun hh => ?_⟩, fun x hx => ?_⟩
    · have e : l[0]? = some 45 := by rw [← List.head?_eq_getElem?]; exact hh
      have := hp 0 45 e
      simp [okAt, hdash] at this
    · have e : l[l.length - 1]? = some 45 := by rw [← List.getLast?_eq_getElem?]; exact hh
      have := hp _ 45 e
      simp [okAt, hdash] at this
      omega
    · obtain ⟨i, hi, rfl⟩ := List.mem_iff_getElem.1 hx
      have := hp i l[i] (by simp [hi])
      simp only [okAt, inner, Bool.or_eq_true, Bool.and_eq_true] at this ⊢
      rcases this with h | h
      · exact .inl h
      · exact .inr h.1
  · rintro ⟨⟨h1, h2⟩, h3⟩ i x hx
    obtain ⟨hi, rfl⟩ := List.getElem?_eq_some_iff.1 hx
    have := h3 _ (List.getElem_mem hi)
    simp only [okAt, inner, Bool.or_eq_true, Bool.and_eq_true, decide_eq_true_eq, Nat.zero_add] at this ⊢
    rcases this with h | h
    · exact .inl h
    · refine .inr ⟨h, ?_, ?_⟩
      · rcases Nat.eq_zero_or_pos i with rfl | hi0
        · exfalso; apply h1
          rw [List.head?_eq_getElem?, hx, isDash_iff.1 h]
        · exact hi0
      · rcases Nat.lt_or_ge (i + 1) l.length with q | q
        · exact q
        · exfalso; apply h2
          have : i = l.length - 1 := by omega
          subst this
          rw [List.getLast?_eq_getElem?, hx, isDash_iff.1 h]
theorem validLabel_ok (l : List UInt8) : host_validLabel l = some ((), lab l, ()) := by
  unfold host_validLabel lab
  by_cases h1 : 1 ≤ l.length
  · by_cases h2 : l.length ≤ 63
    · rw [show decide ((l.length : Int) < 1) = false by simp; omega, show decide ((63 : Int) < (l.length : Int)) = false by simp; omega]
      simp only [cond_false]
      unfold host_validLabel_L0
      rw [iter_scan (fun i (_ : Unit) => (l, (l.length : Int), i, ())) l (fun i x _ => bif okAt l.length i x then .inl () else .inr (.inl (false, ()))) (fun _ => .inr ()) (fun _ _ => True) ?_ ?_ () trivial rounds (by rw [rounds_eq]; omega)]
      · rw [scan_allI, allI_ok l h1]
        simp only [h1, h2, and_self, decide_true, Bool.true_and]
        cases (!decide (l.head? = some 45) && !decide (l.getLast? = some 45)) && l.all inner <;> rfl
      · intro i x a hx _
        obtain ⟨hi, hx'⟩ := List.getElem?_eq_some_iff.1 hx
        refine ⟨?_, fun _ _ => trivial⟩
        simp only [host_validLabel_L0b]
        have hg : getI l (i : Int) = some x := by simp [getI, hx]
        rw [hg, show decide ((i : Int) < (l.length : Int)) = true by simp; omega, wrap_id (n := (i : Int) + 1) (by omega) (by omega), wrap_id (n := (l.length : Int) - 1) (by omega) (by omega)]
        simp only [cond_true, bindS]
        unfold okAt isLet isDig isDash
        rw [show decide ((i : Int) < (l.length : Int) - 1) = decide (i + 1 < l.length) by rw [decide_eq_decide]; omega, show decide ((0 : Int) < (i : Int)) = decide (0 < i) by rw [decide_eq_decide]; omega]
        generalize decide ((97 : UInt8).toBitVec.toNat ≤ x.toBitVec.toNat) = b1
        generalize decide (x.toBitVec.toNat ≤ (122 : UInt8).toBitVec.toNat) = b2
        generalize decide ((48 : UInt8).toBitVec.toNat ≤ x.toBitVec.toNat) = b3
        generalize decide (x.toBitVec.toNat ≤ (57 : UInt8).toBitVec.toNat) = b4
        generalize decide (x.toBitVec = (45 : UInt8).toBitVec) = b5
        generalize decide (0 < i) = b6
        generalize decide (i + 1 < l.length) = b7
        cases b1 <;> cases b2 <;> cases b3 <;> cases b4 <;> cases b5 <;> cases b6 <;> cases b7 <;> rfl
      · intro a _
        simp only [host_validLabel_L0b]
        simp
    · rw [show decide ((l.length : Int) < 1) = false by simp; omega, show decide ((63 : Int) < (l.length : Int)) = true by simp; omega]
      simp [h2]
  · rw [show decide ((l.length : Int) < 1) = true by simp; omega]
    simp [h1]
theorem digit_ok (x : UInt8) : passkeyref23_digit x = some ((), isDig x, ()) := by
  unfold passkeyref23_digit isDig
  cases decide ((48 : UInt8).toBitVec.toNat ≤ x.toBitVec.toNat) <;> rfl
theorem label_ok (l : List UInt8) : passkeyref23_label l = some ((), lab l, ()) := by
  unfold passkeyref23_label lab
  by_cases h1 : 1 ≤ l.length
  · by_cases h2 : l.length ≤ 63
    · rw [show decide ((l.length : Int) < 1) = false by simp; omega, show decide ((63 : Int) < (l.length : Int)) = false by simp; omega]
      simp only [cond_false]
      have e1 : getI l 0 = some l[0] := by simp [getI]
      have e2 : getI l (IntKind.wrap .i64 ((l.length : Int) - 1)) = some l[l.length - 1] := by
        rw [wrap_id (by omega) (by omega)]
        have : ((l.length : Int) - 1).toNat = l.length - 1 := by omega
        simp only [getI, this]
        rw [show decide ((0 : Int) ≤ (l.length : Int) - 1) = true by simp; omega]
        simp only [cond_true]
        rw [List.getElem?_eq_getElem]
      rw [e1, e2]
      simp only [bindS, h1, h2, and_self, decide_true, Bool.true_and]
      have f1 : decide (l.head? = some 45) = decide (l[0].toBitVec = (45 : UInt8).toBitVec) := by
        rw [decide_eq_decide, List.head?_eq_getElem?, List.getElem?_eq_getElem (by omega), Option.some.injEq]
        exact UInt8.toBitVec_inj.symm
      have f2 : decide (l.getLast? = some 45) = decide (l[l.length - 1].toBitVec = (45 : UInt8).toBitVec) := by
        rw [decide_eq_decide, List.getLast?_eq_getElem?, List.getElem?_eq_getElem (by omega), Option.some.injEq]
        exact UInt8.toBitVec_inj.symm
      rw [f1, f2]
      cases decide (l[0].toBitVec = (45 : UInt8).toBitVec)
      · cases decide (l[l.length - 1].toBitVec = (45 : UInt8).toBitVec)
        · simp only [cond_false, Bool.not_false, Bool.and_self, Bool.true_and]
          unfold passkeyref23_label_L0
          rw [iter_scan (fun i (_ : Unit) => (l, i, ())) l (fun i x _ => bif inner x then .inl () else .inr (.inl (false, ()))) (fun _ => .inr ()) (fun _ _ => True) ?_ ?_ () trivial rounds (by rw [rounds_eq]; omega)]
          · rw [scan_allI (fun _ x => inner x), allI_all]
            cases l.all inner <;> rfl
          · intro i x a hx _
            obtain ⟨hi, hx'⟩ := List.getElem?_eq_some_iff.1 hx
            refine ⟨?_, fun _ _ => trivial⟩
            simp only [passkeyref23_label_L0b]
            have hg : getI l (i : Int) = some x := by simp [getI, hx]
            rw [hg, show decide ((i : Int) < (l.length : Int)) = true by simp; omega, wrap_id (n := (i : Int) + 1) (by omega) (by omega)]
            simp only [cond_true, bindS, digit_ok]
            unfold inner isLet isDash
            generalize isDig x = b3
            generalize decide ((97 : UInt8).toBitVec.toNat ≤ x.toBitVec.toNat) = b1
            generalize decide (x.toBitVec.toNat ≤ (122 : UInt8).toBitVec.toNat) = b2
            generalize decide (x.toBitVec = (45 : UInt8).toBitVec) = b5
            cases b1 <;> cases b2 <;> cases b3 <;> cases b5 <;> rfl
          · intro a _
            simp only [passkeyref23_label_L0b]
            simp
        · rfl
      · rfl
    · rw [show decide ((l.length : Int) < 1) = false by simp; omega, show decide ((63 : Int) < (l.length : Int)) = true by simp; omega]
      simp [h2]
  · rw [show decide ((l.length : Int) < 1) = true by simp; omega]
    simp [h1]
def spl (c : UInt8) : List UInt8 → List (List UInt8)
  | [] => [[]]
  | x :: r => if x = c then [] :: spl c r else match spl c r with
    | [] => [[x]]
    | p :: ps => (x :: p) :: ps
theorem spl_ne (c : UInt8) : ∀ s, spl c s ≠ []
  | [] => by simp [spl]
  | x :: r => by
    unfold spl
    split
    · simp
    · split <;> simp
theorem spl_free {c : UInt8} : ∀ {s : List UInt8}, c ∉ s → spl c s = [s]
  | [], _ => rfl
  | x :: r, h => by
    simp only [List.mem_cons, not_or] at h
    unfold spl
    rw [if_neg (fun e => h.1 e.symm), spl_free h.2]
theorem spl_app {c : UInt8} : ∀ {a : List UInt8} (b : List UInt8), c ∉ a → spl c (a ++ c :: b) = a :: spl c b
  | [], b, _ => by simp [spl]
  | x :: a, b, h => by
    simp only [List.mem_cons, not_or] at h
    rw [List.cons_append, spl, if_neg (fun e => h.1 e.symm), spl_app b h.2]
theorem indexByte_cases (c : UInt8) : ∀ s : List UInt8, (Lib.indexByte s c = -1 ∧ c ∉ s) ∨ ∃ a b, s = a ++ c :: b ∧ c ∉ a ∧ Lib.indexByte s c = (a.length : Int)
  | [] => .inl ⟨rfl, by simp⟩
  | x :: r => by
    by_cases hx : x = c
    · subst hx
      exact .inr ⟨[], r, rfl, by simp, by simp [Lib.indexByte]⟩
    · have hb : (x == c) = false := by simpa using hx
      rcases indexByte_cases c r with ⟨h1, h2⟩ | ⟨a, b, h1, h2, h3⟩
      · left
        refine ⟨by simp [Lib.indexByte, hb, h1], ?_⟩
        simp only [List.mem_cons, not_or]
        exact ⟨fun e => hx e.symm, h2⟩
      · right
        refine ⟨x :: a, b, by simp [h1], ?_, ?_⟩
        · simp only [List.mem_cons, not_or]
          exact ⟨fun e => hx e.symm, h2⟩
        · have : ¬ (Lib.indexByte r c == -1) = true := by rw [h3]; simp
          rw [Lib.indexByte, hb]
          simp only [Bool.false_eq_true, if_false, this, h3]
          simp
theorem splitK_spl (c : UInt8) : ∀ (k : Nat) (s : List UInt8), s.count c ≤ k → Lib.splitK [c] 0 k s = spl c s
  | 0, s, h => by
    have : c ∉ s := List.count_eq_zero.1 (by omega)
    rw [spl_free this]; rfl
  | k + 1, s, h => by
    unfold Lib.splitK
    rw [Lib.index_one]
    rcases indexByte_cases c s with ⟨h1, h2⟩ | ⟨a, b, h1, h2, h3⟩
    · rw [h1, spl_free h2]; rfl
    · have : ¬ ((Lib.indexByte s c == -1) = true) := by rw [h3]; simp
      rw [if_neg this, h3]
      subst h1
      have e1 : ((a.length : Int).toNat + 0) = a.length := by simp
      have e2 : ((a.length : Int).toNat + [c].length) = a.length + 1 := by simp
      rw [e1, e2, List.take_left', spl_app b h2, show List.drop (a.length + 1) (a ++ c :: b) = b by simp, splitK_spl c k b]
      · rw [List.count_append, List.count_cons_self] at h
        omega
      · rfl
theorem split_spl (s : List UInt8) (c : UInt8) : Lib.split s [c] = spl c s := by
  unfold Lib.split
  rw [Lib.count_one]
  exact splitK_spl c _ s (Nat.le_refl _)
theorem Split_ok (s : List UInt8) (h : s.length < 4294967281) : strings_Split s [46] = some ((), spl 46 s, ()) := by
  unfold strings_Split
  rw [split_spl]
  simp [h]
theorem small16 {n : Nat} (h : n < 100000000) : small n 16 = true := by
  unfold small
  simp only [decide_eq_true_eq]
  omega
theorem rsplit_ok (s : List UInt8) (c : UInt8) (hs : s.length < 1000000) : passkeyref23_split s c = some ((), spl c s, ()) := by
  unfold passkeyref23_split
  have : Ok (passkeyref23_split_L0 (s, c, [], 0, 0, ())) fun z => z.1 = s ∧ z.2.1.length ≤ s.length ∧ 0 ≤ z.2.2.1 ∧ z.2.2.1 ≤ s.length ∧ z.2.1 ++ [s.drop z.2.2.1.toNat] = spl c s := by
    unfold passkeyref23_split_L0
    refine Ok.iter (fun q => q.1 = s ∧ q.2.1 = c ∧ (q.2.2.1.length : Int) ≤ q.2.2.2.2.1 ∧ 0 ≤ q.2.2.2.1 ∧ q.2.2.2.1 ≤ q.2.2.2.2.1 ∧ q.2.2.2.2.1 ≤ (s.length : Int) ∧ c ∉ (s.drop q.2.2.2.1.toNat).take (q.2.2.2.2.1.toNat - q.2.2.2.1.toNat) ∧ q.2.2.1 ++ spl c (s.drop q.2.2.2.1.toNat) = spl c s) (fun q => s.length - q.2.2.2.2.1.toNat) ⟨rfl, rfl, by simp, by simp, by simp, by simp, by simp, by simp⟩ (by rw [rounds_eq]; dsimp only; omega) ?_
    rintro ⟨y0, y1, y2, y3, y4, u⟩ ⟨h1, h2, h3, h4, h5, h6, h7, h8⟩
    dsimp only at *
    subst h1; subst h2
    simp only [passkeyref23_split_L0b]
    by_cases hi : y4 < (y0.length : Int)
    · rw [getI_some (by omega) hi, wrap_id (n := y4 + 1) (by omega) (by omega)]
      simp only [hi, decide_true, cond_true, bindS]
      have hx : ati y0 y4 = y0[y4.toNat]'(by omega) := by simp [ati, show y4.toNat < y0.length by omega]
      have ex : y0.drop y3.toNat = (y0.drop y3.toNat).take (y4.toNat - y3.toNat) ++ ati y0 y4 :: y0.drop (y4.toNat + 1) := by
        conv => lhs; rw [← List.take_append_drop (y4.toNat - y3.toNat) (y0.drop y3.toNat)]
        rw [List.drop_drop, show y3.toNat + (y4.toNat - y3.toNat) = y4.toNat by omega, List.drop_eq_getElem_cons (show y4.toNat < y0.length by omega), hx]
      by_cases hc : ati y0 y4 = y1
      · rw [show decide ((ati y0 y4).toBitVec = y1.toBitVec) = true by rw [hc]; simp]
        rw [show (decide ((0 : Int) ≤ y4) && decide (y4 ≤ (y0.length : Int))) = true by simp; omega, show (decide ((0 : Int) ≤ y3) && decide (y3 ≤ (y4.toNat : Int))) = true by simp; omega]
        simp only [cond_true]
        rw [small16 (by simp; omega)]
        simp only [cond_true]
        refine Ok.some ?_
        dsimp only
        refine ⟨⟨rfl, rfl, by simp; omega, by omega, by omega, by omega, by simp, ?_⟩, by omega⟩
        rw [← h8]
        rw [hc] at ex
        conv => rhs; rw [ex, spl_app _ h7]
        rw [show (y4 + 1).toNat = y4.toNat + 1 by omega, List.append_assoc]
        congr 1
        rw [List.singleton_append, List.drop_take]
      · rw [show decide ((ati y0 y4).toBitVec = y1.toBitVec) = false by rw [decide_eq_false_iff_not]; exact fun e => hc (UInt8.toBitVec_inj.1 e)]
        simp only [cond_false]
        refine Ok.some ?_
        dsimp only
        refine ⟨⟨rfl, rfl, by omega, by omega, by omega, by omega, ?_, h8⟩, by omega⟩
        rw [ex, show (y4 + 1).toNat - y3.toNat = (y4.toNat - y3.toNat) + 1 by omega, List.take_append]
        have hl : ((y0.drop y3.toNat).take (y4.toNat - y3.toNat)).length = y4.toNat - y3.toNat := by simp; omega
        rw [hl]
        simp only [List.mem_append, not_or]
        refine ⟨fun h => h7 (List.mem_of_mem_take h), ?_⟩
        rw [show y4.toNat - y3.toNat + 1 - (y4.toNat - y3.toNat) = 1 by omega]
        simp only [List.take_succ_cons, List.take_zero, List.mem_cons, List.not_mem_nil, or_false]
        exact fun e => hc e.symm
    · simp only [hi, decide_false, cond_false]
      refine Ok.some ?_
      dsimp only
      refine ⟨rfl, by omega, h4, by omega, ?_⟩
      rw [← h8]
      congr 1
      rw [spl_free]
      intro hm
      apply h7
      rwa [List.take_of_length_le (by simp; omega)]
  obtain ⟨⟨z0, z1, z2, u⟩, h0, h1, h2, h3, h4, h5⟩ := this
  dsimp only at *
  subst h1
  rw [h0]
  simp only [bindS]
  rw [show (decide ((0 : Int) ≤ z2) && decide (z2 ≤ (z0.length : Int))) = true by simp; omega]
  simp only [cond_true]
  rw [small16 (by simp; omega)]
  simp only [cond_true]
  rw [h5]
theorem trim_nil (l : List UInt8) : Lib.trimS l [48, 49, 50, 51, 52, 53, 54, 55, 56, 57] = [] ↔ l.all isDig = true := by
  have hp : ∀ x : UInt8, ([48, 49, 50, 51, 52, 53, 54, 55, 56, 57] : List UInt8).contains x = isDig x := fun x => by
    have hq : ∀ n : Fin 256, ([48, 49, 50, 51, 52, 53, 54, 55, 56, 57] : List UInt8).contains (UInt8.ofNat n.val) = isDig (UInt8.ofNat n.val) := by decide +kernel
    have := hq ⟨x.toNat, UInt8.toNat_lt x⟩
    simpa only [UInt8.ofNat_toNat] using this
  have hdw : ∀ m : List UInt8, m.dropWhile (fun x => ([48, 49, 50, 51, 52, 53, 54, 55, 56, 57] : List UInt8).contains x) = [] ↔ m.all isDig = true := by
    intro m
    induction m with
    | nil => simp
    | cons x r ih =>
      rw [List.dropWhile_cons, hp x, List.all_cons]
      cases isDig x
      · simp
      · simpa using ih
  unfold Lib.trimS Lib.trimLeftS Lib.trimRightS
  constructor
  · intro h
    have h2 := (hdw _).1 h
    by_cases hn : l.reverse.dropWhile (fun x => ([48, 49, 50, 51, 52, 53, 54, 55, 56, 57] : List UInt8).contains x) = []
    · have := (hdw _).1 hn
      simpa using this
    · exfalso
      rw [List.all_reverse] at h2
      have hh := List.head_dropWhile_not (fun x => ([48, 49, 50, 51, 52, 53, 54, 55, 56, 57] : List UInt8).contains x) hn
      have := List.all_eq_true.1 h2 _ (List.head_mem hn)
      rw [hp] at hh
      rw [hh] at this
      cases this
  · intro h
    have : l.reverse.dropWhile (fun x => ([48, 49, 50, 51, 52, 53, 54, 55, 56, 57] : List UInt8).contains x) = [] := (hdw _).2 (by simpa using h)
    rw [this]
    rfl
theorem Trim_ok (l : List UInt8) (h : l.length < 1000000) : strings_Trim l [48, 49, 50, 51, 52, 53, 54, 55, 56, 57] = some ((), Lib.trimS l [48, 49, 50, 51, 52, 53, 54, 55, 56, 57], ()) := by
  unfold strings_Trim
  have h1 : l.length ≤ 9223372036854775807 := by omega
  simp only [h1, decide_true, Bool.true_and]
  rfl
def lastL (l : List (List UInt8)) : List UInt8 := l.getD (l.length - 1) []
def vali (s : List UInt8) : Int := bif decide (100 < s.length) then 8 else bif (spl 46 s).all lab then (bif (lastL (spl 46 s)).all isDig then 2 else 0) else 2
theorem spl_len (c : UInt8) : ∀ s : List UInt8, (spl c s).length ≤ s.length + 1 ∧ ∀ x ∈ spl c s, x.length ≤ s.length
  | [] => by simp [spl]
  | x :: r => by
    obtain ⟨h1, h2⟩ := spl_len c r
    unfold spl
    split
    · refine ⟨by simp; omega, ?_⟩
      intro y hy
      rcases List.mem_cons.1 hy with rfl | hy
      · simp
      · have := h2 y hy; simp; omega
    · split
      · simp
      · rename_i p ps e
        rw [e] at h1 h2
        refine ⟨by simp at h1 ⊢; omega, ?_⟩
        intro y hy
        rcases List.mem_cons.1 hy with rfl | hy
        · have := h2 p (by simp); simp; omega
        · have := h2 y (by simp [hy]); simp; omega
theorem getLast_D (l : List (List UInt8)) (h : l ≠ []) : l[l.length - 1]? = some (lastL l) := by
  have : l.length - 1 < l.length := by have := List.length_pos_iff.2 h; omega
  simp [lastL, this]
theorem Validate_ok (s : List UInt8) : host_Validate s = some ((), vali s, ()) := by
  unfold host_Validate vali
  by_cases h : 100 < s.length
  · rw [show decide ((100 : Int) < (s.length : Int)) = true by simp; omega]
    simp [h]
  · rw [show decide ((100 : Int) < (s.length : Int)) = false by simp; omega, Split_ok s (by omega)]
    simp only [h, decide_false, cond_false, bindS]
    obtain ⟨hl1, hl2⟩ := spl_len 46 s
    have hne := spl_ne 46 s
    generalize spl 46 s = L at *
    unfold host_Validate_L0
    rw [iter_scan (fun i (_ : Unit) => (L, L, (L.length : Int), i, ())) L (fun i x _ => bif lab x then .inl () else .inr (.inl (2, ()))) (fun _ => .inr (L, ())) (fun _ _ => True) ?_ ?_ () trivial rounds (by rw [rounds_eq]; omega)]
    · rw [scan_allI (fun _ x => lab x), allI_all]
      simp only [bindS]
      cases L.all lab
      · rfl
      · simp only [cond_true, Sum.elim_inr]
        have hp := List.length_pos_iff.2 hne
        rw [wrap_id (by omega) (by omega)]
        have : getI L ((L.length : Int) - 1) = some (lastL L) := by
          unfold getI
          rw [show decide ((0 : Int) ≤ (L.length : Int) - 1) = true by simp; omega, show ((L.length : Int) - 1).toNat = L.length - 1 by omega]
          exact getLast_D L hne
        rw [this]
        simp only [bindS]
        have hm : lastL L ∈ L := List.mem_of_getElem? (getLast_D L hne)
        rw [Trim_ok _ (by have := hl2 _ hm; omega)]
        simp only [bindS]
        rw [show decide (Lib.trimS (lastL L) [48, 49, 50, 51, 52, 53, 54, 55, 56, 57] = []) = (lastL L).all isDig by rw [Bool.eq_iff_iff, decide_eq_true_eq]; exact trim_nil _]
        cases (lastL L).all isDig <;> rfl
    · intro i x a hx _
      obtain ⟨hi, hx'⟩ := List.getElem?_eq_some_iff.1 hx
      refine ⟨?_, fun _ _ => trivial⟩
      simp only [host_Validate_L0b]
      have hg : getI L (i : Int) = some x := by simp [getI, hx]
      rw [hg, show decide ((i : Int) < (L.length : Int)) = true by simp; omega, wrap_id (n := (i : Int) + 1) (by omega) (by omega)]
      simp only [cond_true, bindS, validLabel_ok]
      cases lab x <;> rfl
    · intro a _
      simp only [host_Validate_L0b]
      simp
theorem rValidate_ok (s : List UInt8) : passkeyref23_Validate s = some ((), vali s, ()) := by
  unfold passkeyref23_Validate vali
  by_cases h : 100 < s.length
  · rw [show decide ((100 : Int) < (s.length : Int)) = true by simp; omega]
    simp [h]
  · rw [show decide ((100 : Int) < (s.length : Int)) = false by simp; omega, rsplit_ok s 46 (by omega)]
    simp only [h, decide_false, cond_false, bindS]
    obtain ⟨hl1, hl2⟩ := spl_len 46 s
    have hne := spl_ne 46 s
    generalize spl 46 s = L at *
    unfold passkeyref23_Validate_L0
    rw [iter_scan (fun i (_ : Unit) => (L, i, ())) L (fun i x _ => bif lab x then .inl () else .inr (.inl (2, ()))) (fun _ => .inr (L, ())) (fun _ _ => True) ?_ ?_ () trivial rounds (by rw [rounds_eq]; omega)]
    · rw [scan_allI (fun _ x => lab x), allI_all]
      simp only [bindS]
      cases L.all lab
      · rfl
      · simp only [cond_true, Sum.elim_inr]
        have hp := List.length_pos_iff.2 hne
        rw [wrap_id (by omega) (by omega)]
        rw [show (decide ((0 : Int) ≤ (L.length : Int) - 1) && decide ((L.length : Int) - 1 < (L.length : Int))) = true by simp; omega, show ((L.length : Int) - 1).toNat = L.length - 1 by omega, getLast_D L hne]
        simp only [cond_true, bindS]
        have hm : lastL L ∈ L := List.mem_of_getElem? (getLast_D L hne)
        have hml := hl2 _ hm
        generalize lastL L = x at *
        unfold passkeyref23_Validate_L2
        rw [iter_scan (fun i (_ : Unit) => (x, i, ())) x (fun i y _ => bif isDig y then .inl () else .inr (.inl (0, ()))) (fun _ => .inr ()) (fun _ _ => True) ?_ ?_ () trivial rounds (by rw [rounds_eq]; omega)]
        · rw [scan_allI (fun _ x => isDig x), allI_all]
          cases x.all isDig <;> rfl
        · intro i y a hx _
          obtain ⟨hi, hx'⟩ := List.getElem?_eq_some_iff.1 hx
          refine ⟨?_, fun _ _ => trivial⟩
          simp only [passkeyref23_Validate_L2b]
          have hg : getI x (i : Int) = some y := by simp [getI, hx]
          rw [hg, show decide ((i : Int) < (x.length : Int)) = true by simp; omega, wrap_id (n := (i : Int) + 1) (by omega) (by omega)]
          simp only [cond_true, bindS, digit_ok]
          cases isDig y <;> rfl
        · intro a _
          simp only [passkeyref23_Validate_L2b]
          simp
    · intro i x a hx _
      obtain ⟨hi, hx'⟩ := List.getElem?_eq_some_iff.1 hx
      refine ⟨?_, fun _ _ => trivial⟩
      simp only [passkeyref23_Validate_L0b]
      rw [show (decide ((0 : Int) ≤ (i : Int)) && decide ((i : Int) < (L.length : Int))) = true by simp; omega, show decide ((i : Int) < (L.length : Int)) = true by simp; omega, wrap_id (n := (i : Int) + 1) (by omega) (by omega), show ((i : Int)).toNat = i by omega, hx]
      simp only [cond_true, bindS, label_ok]
      cases lab x <;> rfl
    · intro a _
      simp only [passkeyref23_Validate_L0b]
      simp
def labs (s : List UInt8) : List (List UInt8) := bif decide (vali s = 0) then spl 46 s else []
theorem vali_len {s : List UInt8} (h : vali s = 0) : s.length ≤ 100 := by
  unfold vali at h
  by_cases h1 : 100 < s.length
  · simp [h1] at h
  · omega
theorem Labels_ok (s : List UInt8) : host_Labels s = some ((), labs s, ()) := by
  unfold host_Labels labs
  rw [Validate_ok]
  simp only [bindS]
  by_cases h : vali s = 0
  · have := vali_len h
    simp only [h, decide_true, Bool.not_true, cond_false, cond_true]
    rw [Split_ok s (by omega)]
    rfl
  · simp [h]
theorem rLabels_ok (s : List UInt8) : passkeyref23_Labels s = some ((), labs s, ()) := by
  unfold passkeyref23_Labels labs
  rw [rValidate_ok]
  simp only [bindS]
  by_cases h : vali s = 0
  · have := vali_len h
    simp only [h, decide_true, Bool.not_true, cond_false, cond_true]
    rw [rsplit_ok s 46 (by omega)]
    rfl
  · simp [h]
def joinD (l : List (List UInt8)) : List UInt8 := Lib.join l [46]
theorem joinD_nil : joinD [] = [] := rfl
theorem joinD_one (x : List UInt8) : joinD [x] = x := Lib.join_one x [46]
theorem joinD_cons (x y : List UInt8) (r : List (List UInt8)) : joinD (x :: y :: r) = x ++ 46 :: joinD (y :: r) := by
  unfold joinD
  rw [Lib.join_cons, Lib.join_cons]
  simp [Lib.joinTail, List.append_assoc]
theorem joinD_le (B : Nat) : ∀ l : List (List UInt8), (∀ x ∈ l, x.length ≤ B) → (joinD l).length ≤ l.length * (B + 1)
  | [], _ => by simp [joinD_nil]
  | [x], h => by
    rw [joinD_one]
    have := h x (by simp)
    simp; omega
  | x :: y :: r, h => by
    rw [joinD_cons]
    have h1 := h x (by simp)
    have h2 := joinD_le B (y :: r) (fun z hz => h z (by simp only [List.mem_cons] at hz ⊢; exact .inr hz))
    simp only [List.length_append, List.length_cons] at h2 ⊢
    rw [Nat.add_mul (r.length + 1) 1]
    omega
theorem joinD_ge : ∀ l : List (List UInt8), (∀ x ∈ l, 1 ≤ x.length) → 2 * l.length ≤ (joinD l).length + 1
  | [], _ => by simp [joinD_nil]
  | [x], h => by
    rw [joinD_one]
    have := h x (by simp)
    simp; omega
  | x :: y :: r, h => by
    rw [joinD_cons]
    have h1 := h x (by simp)
    have h2 := joinD_ge (y :: r) (fun z hz => h z (by simp only [List.mem_cons] at hz ⊢; exact .inr hz))
    simp only [List.length_append, List.length_cons] at h2 ⊢
    omega
theorem joinD_snoc : ∀ (l : List (List UInt8)) (x : List UInt8), l ≠ [] → joinD (l ++ [x]) = joinD l ++ ([46] ++ x)
  | [], _, h => absurd rfl h
  | [y], x, _ => by rw [List.singleton_append, joinD_cons, joinD_one, joinD_one]; rfl
  | y :: z :: r, x, _ => by
    rw [List.cons_append, List.cons_append, joinD_cons, ← List.cons_append, joinD_snoc (z :: r) x (by simp), joinD_cons]
    simp
theorem Join_ok (l : List (List UInt8)) (h1 : l.length ≤ 1000) (h2 : ∀ x ∈ l, x.length ≤ 1000) : strings_Join l [46] = some ((), joinD l, ()) := by
  unfold strings_Join
  have := joinD_le 1000 l h2
  have h3 : (Lib.join l [46]).length ≤ 140737488355328 := by
    show (joinD l).length ≤ _
    have : l.length * 1001 ≤ 1000 * 1001 := Nat.mul_le_mul_right _ h1
    omega
  have h4 : l.length ≤ 140737488355328 := by omega
  simp only [h3, h4, decide_true, Bool.and_self, cond_true]
  rfl
theorem ble_of {a b : Nat} (h : a ≤ b) : Nat.ble a b = true := Eq.mpr Nat.ble_eq h
theorem rjoin_ok (l : List (List UInt8)) (h1 : l.length ≤ 1000000) (h2 : ∀ x ∈ l, x.length ≤ 1000) : passkeyref23_join l = some ((), joinD l, ()) := by
  unfold passkeyref23_join
  have : Ok (passkeyref23_join_L0 (l, [], 0, ())) fun z => z.1 = joinD l := by
    unfold passkeyref23_join_L0
    refine Ok.iter (fun q => q.1 = l ∧ 0 ≤ q.2.2.1 ∧ q.2.2.1 ≤ (l.length : Int) ∧ q.2.1 = joinD (l.take q.2.2.1.toNat)) (fun q => l.length - q.2.2.1.toNat) ⟨rfl, by simp, by simp, by simp [joinD_nil]⟩ (by rw [rounds_eq]; dsimp only; omega) ?_
    rintro ⟨y0, y1, i, u⟩ ⟨e1, e2, e3, e4⟩
    dsimp only at *
    subst e1; subst e4
    simp only [passkeyref23_join_L0b]
    by_cases hi : i < (y0.length : Int)
    · have hlt : i.toNat < y0.length := by omega
      rw [getI_some e2 hi, wrap_id (n := i + 1) (by omega) (by omega)]
      simp only [hi, decide_true, cond_true, bindS]
      have hx : ati y0 i = y0[i.toNat] := by simp [ati, hlt]
      have hxl := h2 _ (List.getElem_mem hlt)
      rw [← hx] at hxl
      have hjl : (joinD (y0.take i.toNat)).length ≤ 1000000 * 1001 := by
        have q1 := joinD_le 1000 (y0.take i.toNat) (fun x hx => h2 x (List.mem_of_mem_take hx))
        have q2 : (y0.take i.toNat).length * (1000 + 1) ≤ 1000000 * 1001 := Nat.mul_le_mul_right _ (by rw [List.length_take]; omega)
        omega
      have et : y0.take (i + 1).toNat = y0.take i.toNat ++ [ati y0 i] := by
        rw [show (i + 1).toNat = i.toNat + 1 by omega, List.take_succ_eq_append_getElem hlt, hx]
      by_cases h0 : 0 < i
      · rw [show decide (0 < i) = true by simpa using h0]
        simp only [cond_true]
        rw [ble_of (by simp; omega), ble_of (by simp; omega)]
        refine Ok.some ?_
        dsimp only
        refine ⟨⟨rfl, by omega, by omega, ?_⟩, by omega⟩
        rw [et, joinD_snoc]
        · simp
        · intro h
          have := congrArg List.length h
          rw [List.length_take, List.length_nil] at this
          omega
      · have : i = 0 := by omega
        subst this
        rw [show decide ((0 : Int) < 0) = false by simp]
        simp only [cond_false]
        rw [ble_of (by simp only [Int.toNat_zero, List.take_zero, joinD_nil, List.length_nil]; omega)]
        refine Ok.some ?_
        dsimp only
        refine ⟨⟨rfl, by omega, by omega, ?_⟩, by omega⟩
        rw [et]
        simp [joinD_nil, joinD_one]
    · simp only [hi, decide_false, cond_false]
      refine Ok.some ?_
      dsimp only
      rw [show i.toNat = y0.length by omega, List.take_length]
  obtain ⟨z, hz, hq⟩ := this
  rw [hz]
  simp only [bindS, hq]
def fok (s : ApiSuffix) : Bool := s.labels.all lab && (decide (vali (joinD s.labels) = 0) && (!(s.wild && s.except) && !(s.except && decide (s.labels.length < 2))))
def ftext (s : ApiSuffix) : List UInt8 := (bif s.wild then [42, 46] else bif s.except then [33] else []) ++ joinD s.labels
def fmt (s : ApiSuffix) : List UInt8 × Int := bif fok s then (ftext s, 0) else ([], 4)
theorem lab_len {x : List UInt8} (h : lab x = true) : 1 ≤ x.length ∧ x.length ≤ 63 := by
  unfold lab at h
  simp only [Bool.and_eq_true, decide_eq_true_eq] at h
  exact h.1
theorem fok_len {s : ApiSuffix} (h : fok s = true) : s.labels.length ≤ 50 := by
  unfold fok at h
  simp only [Bool.and_eq_true, decide_eq_true_eq, List.all_eq_true] at h
  have h1 := vali_len h.2.1
  have h2 := joinD_ge s.labels fun x hx => (lab_len (h.1 x hx)).1
  omega
theorem FormatRule_L0_ok (s : ApiSuffix) (hl : s.labels.length ≤ 100) : host_FormatRule_L0 ((s, ()), s.labels, (s.labels.length : Int), 0, ()) = some (bif s.labels.all lab then .inr ((s, ()), ()) else .inl ([], 4, ())) := by
  unfold host_FormatRule_L0
  rw [iter_scan (fun i (_ : Unit) => ((s, ()), s.labels, (s.labels.length : Int), i, ())) s.labels (fun i x _ => bif lab x then .inl () else .inr (.inl ([], 4, ()))) (fun _ => .inr ((s, ()), ())) (fun _ _ => True) ?_ ?_ () trivial rounds (by rw [rounds_eq]; omega)]
  · rw [scan_allI (fun _ x => lab x), allI_all]
  · intro i x a hx _
    obtain ⟨hi, hx'⟩ := List.getElem?_eq_some_iff.1 hx
    refine ⟨?_, fun _ _ => trivial⟩
    simp only [host_FormatRule_L0b]
    have hg : getI s.labels (i : Int) = some x := by simp [getI, hx]
    rw [hg, show decide ((i : Int) < (s.labels.length : Int)) = true by simp; omega, wrap_id (n := (i : Int) + 1) (by omega) (by omega)]
    simp only [cond_true, bindS, validLabel_ok]
    cases lab x <;> rfl
  · intro a _
    simp only [host_FormatRule_L0b]
    simp
theorem FormatRule_ok (s : ApiSuffix) : host_FormatRule s = some ((), (fmt s).1, (fmt s).2, ()) := by
  by_cases hl : s.labels.length ≤ 100
  · unfold host_FormatRule fmt fok
    rw [show decide ((100 : Int) < (s.labels.length : Int)) = false by simp; omega, FormatRule_L0_ok s hl]
    cases ha : s.labels.all lab
    · cases hw : s.wild <;> cases he : s.except <;> by_cases h2 : s.labels.length < 2 <;> simp [h2] <;> rfl
    · have hb : ∀ x ∈ s.labels, x.length ≤ 1000 := fun x hx => by
        have := lab_len (List.all_eq_true.1 ha x hx); omega
      have e2 : decide ((s.labels.length : Int) < 2) = decide (s.labels.length < 2) := by rw [decide_eq_decide]; omega
      simp only [cond_true, cond_false, bindS, Sum.elim_inr, Bool.true_and, e2]
      rw [Join_ok _ (by omega) hb]
      simp only [bindS, Validate_ok, ftext]
      by_cases hv : vali (joinD s.labels) = 0
      · have hvl := vali_len hv
        simp only [hv, decide_true, Bool.not_true, cond_false, Bool.true_and]
        rw [ble_of (show ([42, 46] : List UInt8).length + (joinD s.labels).length ≤ 9223372036854775807 by simp; omega), ble_of (show ([33] : List UInt8).length + (joinD s.labels).length ≤ 9223372036854775807 by simp; omega)]
        generalize decide (s.labels.length < 2) = q
        cases s.wild <;> cases s.except <;> cases q <;> rfl
      · simp only [hv, decide_false, Bool.not_false, cond_true, Bool.false_and, cond_false]
        generalize decide (s.labels.length < 2) = q
        cases s.wild <;> cases s.except <;> cases q <;> rfl
  · have : fok s = false := by
      cases h : fok s
      · rfl
      · have := fok_len h; omega
    unfold host_FormatRule fmt
    rw [this, show decide ((100 : Int) < (s.labels.length : Int)) = true by simp; omega]
    rfl
theorem rFormatRule_L0_ok (s : ApiSuffix) (hl : s.labels.length ≤ 1000000) : passkeyref23_FormatRule_L0 ((s, ()), 0, ()) = some (bif s.labels.all lab then .inr ((s, ()), ()) else .inl ([], 4, ())) := by
  unfold passkeyref23_FormatRule_L0
  rw [iter_scan (fun i (_ : Unit) => ((s, ()), i, ())) s.labels (fun i x _ => bif lab x then .inl () else .inr (.inl ([], 4, ()))) (fun _ => .inr ((s, ()), ())) (fun _ _ => True) ?_ ?_ () trivial rounds (by rw [rounds_eq]; omega)]
  · rw [scan_allI (fun _ x => lab x), allI_all]
  · intro i x a hx _
    obtain ⟨hi, hx'⟩ := List.getElem?_eq_some_iff.1 hx
    refine ⟨?_, fun _ _ => trivial⟩
    simp only [passkeyref23_FormatRule_L0b]
    have hg : getI s.labels (i : Int) = some x := by simp [getI, hx]
    rw [hg, show decide ((i : Int) < (s.labels.length : Int)) = true by simp; omega, wrap_id (n := (i : Int) + 1) (by omega) (by omega)]
    simp only [cond_true, bindS, label_ok]
    cases lab x <;> rfl
  · intro a _
    simp only [passkeyref23_FormatRule_L0b]
    simp
theorem rFormatRule_ok (s : ApiSuffix) (hl : s.labels.length ≤ 1000000) : passkeyref23_FormatRule s = some ((), (fmt s).1, (fmt s).2, ()) := by
  unfold passkeyref23_FormatRule fmt fok
  rw [rFormatRule_L0_ok s hl]
  cases ha : s.labels.all lab
  · rfl
  · have hb : ∀ x ∈ s.labels, x.length ≤ 1000 := fun x hx => by
      have := lab_len (List.all_eq_true.1 ha x hx); omega
    have e2 : decide ((s.labels.length : Int) < 2) = decide (s.labels.length < 2) := by rw [decide_eq_decide]; omega
    simp only [cond_true, cond_false, bindS, Sum.elim_inr, Bool.true_and, e2]
    rw [rjoin_ok _ hl hb]
    simp only [bindS, rValidate_ok, ftext]
    by_cases hv : vali (joinD s.labels) = 0
    · have hvl := vali_len hv
      simp only [hv, decide_true, Bool.not_true, cond_false, Bool.true_and]
      rw [ble_of (show ([42, 46] : List UInt8).length + (joinD s.labels).length ≤ 9223372036854775807 by simp; omega), ble_of (show ([33] : List UInt8).length + (joinD s.labels).length ≤ 9223372036854775807 by simp; omega)]
      generalize decide (s.labels.length < 2) = q
      cases s.wild <;> cases s.except <;> cases q <;> rfl
    · simp only [hv, decide_false, Bool.not_false, cond_true, Bool.false_and, cond_false]
def endsL (L M : List (List UInt8)) : Bool := decide (M.length ≤ L.length) && decide (L.drop (L.length - M.length) = M)
theorem eqS_ok (a b : List (List UInt8)) (hb : b.length < 1000000) : slices_Equal_string_string a b = some ((), decide (a = b), ()) := by
  unfold slices_Equal_string_string
  by_cases h : a.length = b.length
  · rw [show (!decide ((a.length : Int) = (b.length : Int))) = false by simp; omega]
    simp only [cond_false]
    unfold slices_Equal_string_string_L0
    rw [iter_scan (fun i (_ : Unit) => (a, b, (a.length : Int), i, ())) a (fun i x _ => bif decide (b[i]? = some x) then .inl () else .inr (.inl (false, ()))) (fun _ => .inr ()) (fun _ _ => True) ?_ ?_ () trivial rounds (by rw [rounds_eq]; omega)]
    · rw [scan_allI (fun i x => decide (b[i]? = some x))]
      have e : allI (fun i x => decide (b[i]? = some x)) 0 a = decide (a = b) := by
        rw [Bool.eq_iff_iff, allI_iff, decide_eq_true_eq]
        simp only [Nat.zero_add, decide_eq_true_eq]
        constructor
        · intro hp
          apply List.ext_getElem?
          intro i
          by_cases hi : i < a.length
          · rw [hp i a[i] (by simp [hi])]; simp [hi]
          · rw [List.getElem?_eq_none (by omega), List.getElem?_eq_none (by omega)]
        · rintro rfl i x hx
          exact hx
      rw [e]
      cases decide (a = b) <;> rfl
    · intro i x _ hx _
      obtain ⟨hi, hx'⟩ := List.getElem?_eq_some_iff.1 hx
      refine ⟨?_, fun _ _ => trivial⟩
      simp only [slices_Equal_string_string_L0b]
      have hg : getI a (i : Int) = some x := by simp [getI, hx]
      have hg2 : getI b (i : Int) = some b[i] := by simp [getI]
      rw [hg, hg2, show decide ((i : Int) < (a.length : Int)) = true by simp; omega, wrap_id (n := (i : Int) + 1) (by omega) (by omega)]
      simp only [cond_true, bindS]
      have : decide (b[i]? = some x) = decide (x = b[i]) := by
        rw [decide_eq_decide, List.getElem?_eq_getElem (by omega), Option.some.injEq]
        exact eq_comm
      rw [this]
      cases decide (x = b[i]) <;> rfl
    · intro _ _
      simp only [slices_Equal_string_string_L0b]
      simp
  · rw [show (!decide ((a.length : Int) = (b.length : Int))) = true by simp; omega]
    have : ¬ a = b := fun e => h (by rw [e])
    simp [this]
theorem ends_ok (L M : List (List UInt8)) (hL : L.length < 1000000) : host_ends L M = some ((), endsL L M, ()) := by
  unfold host_ends endsL
  by_cases h : M.length ≤ L.length
  · rw [show decide ((M.length : Int) ≤ (L.length : Int)) = true by simp; omega]
    simp only [cond_true]
    rw [wrap_id (n := (L.length : Int) - (M.length : Int)) (by omega) (by omega), show (decide ((0 : Int) ≤ (L.length : Int) - (M.length : Int)) && decide ((L.length : Int) - (M.length : Int) ≤ (L.length : Int))) = true by simp; omega, show ((L.length : Int) - (M.length : Int)).toNat = L.length - M.length by omega]
    simp only [cond_true]
    rw [eqS_ok _ _ (by omega)]
    simp [h]
  · rw [show decide ((M.length : Int) ≤ (L.length : Int)) = false by simp; omega]
    simp [h]
theorem rends_ok (L M : List (List UInt8)) (hL : L.length < 1000000) : passkeyref23_ends L M = some ((), endsL L M, ()) := by
  unfold passkeyref23_ends endsL
  by_cases h : M.length ≤ L.length
  · rw [show decide ((L.length : Int) < (M.length : Int)) = false by simp; omega]
    simp only [cond_false]
    unfold passkeyref23_ends_L0
    rw [iter_scan (fun i (_ : Unit) => (L, M, i, ())) M (fun i x _ => bif decide (L[L.length - M.length + i]? = some x) then .inl () else .inr (.inl (false, ()))) (fun _ => .inr ()) (fun _ _ => True) ?_ ?_ () trivial rounds (by rw [rounds_eq]; omega)]
    · rw [scan_allI (fun i x => decide (L[L.length - M.length + i]? = some x))]
      have e : allI (fun i x => decide (L[L.length - M.length + i]? = some x)) 0 M = decide (L.drop (L.length - M.length) = M) := by
        rw [Bool.eq_iff_iff, allI_iff, decide_eq_true_eq]
        simp only [Nat.zero_add, decide_eq_true_eq]
        constructor
        · intro hp
          apply List.ext_getElem?
          intro i
          rw [List.getElem?_drop]
          by_cases hi : i < M.length
          · rw [hp i M[i] (by simp [hi])]; simp [hi]
          · rw [List.getElem?_eq_none (by omega), List.getElem?_eq_none (by omega)]
        · intro e i x hx
          rw [← List.getElem?_drop, e]
          exact hx
      rw [e]
      simp only [h, decide_true, Bool.true_and]
      cases decide (L.drop (L.length - M.length) = M) <;> rfl
    · intro i x _ hx _
      obtain ⟨hi, hx'⟩ := List.getElem?_eq_some_iff.1 hx
      refine ⟨?_, fun _ _ => trivial⟩
      simp only [passkeyref23_ends_L0b]
      have hg : getI M (i : Int) = some x := by simp [getI, hx]
      have hlt : L.length - M.length + i < L.length := by omega
      have hg2 : getI L ((L.length : Int) - (M.length : Int) + (i : Int)) = some L[L.length - M.length + i] := by
        unfold getI
        rw [show decide ((0 : Int) ≤ (L.length : Int) - (M.length : Int) + (i : Int)) = true by simp; omega, show ((L.length : Int) - (M.length : Int) + (i : Int)).toNat = L.length - M.length + i by omega]
        simp only [cond_true]
        rw [List.getElem?_eq_getElem hlt]
      rw [wrap_id (n := (L.length : Int) - (M.length : Int)) (by omega) (by omega), wrap_id (n := (L.length : Int) - (M.length : Int) + (i : Int)) (by omega) (by omega), hg, hg2, show decide ((i : Int) < (M.length : Int)) = true by simp; omega, wrap_id (n := (i : Int) + 1) (by omega) (by omega)]
      simp only [cond_true, bindS]
      have : decide (L[L.length - M.length + i]? = some x) = decide (L[L.length - M.length + i] = x) := by
        rw [decide_eq_decide, List.getElem?_eq_getElem hlt, Option.some.injEq]
      rw [this]
      cases decide (L[L.length - M.length + i] = x) <;> rfl
    · intro _ _
      simp only [passkeyref23_ends_L0b]
      simp
  · rw [show decide ((L.length : Int) < (M.length : Int)) = true by simp; omega]
    simp [h]
def mat (s : ApiSuffix) (L : List (List UInt8)) : Bool := fok s && (endsL L s.labels && (!s.wild || decide (s.labels.length < L.length)))
theorem fmt_ok (s : ApiSuffix) : decide ((fmt s).2 = 0) = fok s := by
  unfold fmt
  cases fok s <;> rfl
theorem matches_ok (s : ApiSuffix) (L : List (List UInt8)) (hL : L.length < 1000000) : host_matches s L = some ((), mat s L, ()) := by
  unfold host_matches mat
  rw [FormatRule_ok]
  simp only [bindS, fmt_ok]
  rw [ends_ok _ _ hL]
  simp only [bindS]
  have e : decide ((s.labels.length : Int) < (L.length : Int)) = decide (s.labels.length < L.length) := by rw [decide_eq_decide]; omega
  rw [e]
  cases fok s <;> cases endsL L s.labels <;> cases s.wild <;> simp
theorem mat_len {s : ApiSuffix} {L : List (List UInt8)} (h : mat s L = true) : s.labels.length ≤ L.length ∧ (s.wild = true → s.labels.length < L.length) ∧ (s.wild && s.except) = false ∧ (s.except = true → 2 ≤ s.labels.length) := by
  unfold mat fok endsL at h
  simp only [Bool.and_eq_true, Bool.or_eq_true, Bool.not_eq_true', decide_eq_true_eq] at h
  refine ⟨h.2.1.1, fun hw => ?_, h.1.2.2.1, fun he => ?_⟩
  · rcases h.2.2 with q | q
    · rw [hw] at q; cases q
    · exact q
  · have := h.1.2.2.2
    rw [he] at this
    simpa using this
def imax (a b : Int) : Int := bif decide (a < b) then b else a
def pubStep (L : List (List UInt8)) (p : Int × Int) (s : ApiSuffix) : Int × Int :=
  bif mat s L then (bif s.except then (p.1, imax p.2 s.labels.length) else (imax p.1 (s.labels.length + (bif s.wild then 1 else 0)), p.2)) else p
def pub2 (L : List (List UInt8)) (l : List ApiSuffix) : Int × Int := (l.take 64).foldl (pubStep L) (1, 0)
def pub (l : List ApiSuffix) (s : List UInt8) : Int := bif decide (labs s = []) then 0 else bif decide (0 < (pub2 (labs s) l).2) then (pub2 (labs s) l).2 - 1 else (pub2 (labs s) l).1
theorem labs_len (s : List UInt8) : (labs s).length ≤ 101 ∧ ∀ x ∈ labs s, x.length ≤ 100 := by
  unfold labs
  by_cases h : vali s = 0
  · have h1 := vali_len h
    obtain ⟨h2, h3⟩ := spl_len 46 s
    simp only [h, decide_true, cond_true]
    exact ⟨by omega, fun x hx => by have := h3 x hx; omega⟩
  · simp [h]
theorem imax_le {a b B : Int} (h1 : a ≤ B) (h2 : b ≤ B) : imax a b ≤ B := by
  unfold imax
  cases decide (a < b)
  · exact h1
  · exact h2
theorem imax_ge1 (a b : Int) : a ≤ imax a b := by
  unfold imax
  by_cases h : a < b <;> simp [h]
  omega
theorem pubStep_le {L : List (List UInt8)} (hL : 1 ≤ L.length) {p : Int × Int} (s : ApiSuffix) (h : 1 ≤ p.1 ∧ p.1 ≤ L.length ∧ 0 ≤ p.2 ∧ p.2 ≤ L.length) : 1 ≤ (pubStep L p s).1 ∧ (pubStep L p s).1 ≤ L.length ∧ 0 ≤ (pubStep L p s).2 ∧ (pubStep L p s).2 ≤ L.length := by
  unfold pubStep
  cases hm : mat s L
  · exact h
  · obtain ⟨m1, m2, m3, m4⟩ := mat_len hm
    cases he : s.except
    · simp only [cond_true, cond_false]
      refine ⟨Int.le_trans h.1 (imax_ge1 _ _), imax_le h.2.1 ?_, h.2.2.1, h.2.2.2⟩
      cases hw : s.wild
      · simp; omega
      · have := m2 hw
        simp; omega
    · simp only [cond_true, cond_false]
      exact ⟨h.1, h.2.1, Int.le_trans h.2.2.1 (imax_ge1 _ _), imax_le h.2.2.2 (by omega)⟩
theorem foldl_inv {α β : Type} {f : α → β → α} {P : α → Prop} (h : ∀ a b, P a → P (f a b)) : ∀ (l : List β) (a : α), P a → P (l.foldl f a)
  | [], _, ha => ha
  | x :: r, a, ha => foldl_inv h r (f a x) (h a x ha)
theorem pub2_le {L : List (List UInt8)} (hL : 1 ≤ L.length) (l : List ApiSuffix) : 1 ≤ (pub2 L l).1 ∧ (pub2 L l).1 ≤ L.length ∧ 0 ≤ (pub2 L l).2 ∧ (pub2 L l).2 ≤ L.length :=
  foldl_inv (P := fun p : Int × Int => 1 ≤ p.1 ∧ p.1 ≤ L.length ∧ 0 ≤ p.2 ∧ p.2 ≤ L.length) (fun a b h => pubStep_le hL b h) _ _ ⟨by simp, by simp; omega, by simp, by simp⟩
theorem pub_le (l : List ApiSuffix) (s : List UInt8) : 0 ≤ pub l s ∧ pub l s ≤ (labs s).length := by
  unfold pub
  by_cases h : labs s = []
  · simp [h]
  · have hp := List.length_pos_iff.2 h
    have := pub2_le (L := labs s) hp l
    simp only [h, decide_false, cond_false]
    by_cases h2 : 0 < (pub2 (labs s) l).2
    · simp only [h2, decide_true, cond_true]; omega
    · simp only [h2, decide_false, cond_false]; omega
theorem len0' {α : Type} [DecidableEq α] (l : List α) : decide ((l.length : Int) = 0) = decide (l = []) := by rw [decide_eq_decide]; rw [← List.length_eq_zero_iff]; omega
theorem Public_ok (l : List ApiSuffix) (s : List UInt8) : host_Public l s = some ((), pub l s, ()) := by
  unfold host_Public pub
  rw [Labels_ok]
  simp only [bindS, len0']
  by_cases h : labs s = []
  · simp [h]
  · have hp := List.length_pos_iff.2 h
    have hLl := (labs_len s).1
    simp only [h, decide_false, cond_false]
    generalize labs s = L at *
    have e64 : (bif decide ((64 : Int) < (l.length : Int)) then (64 : Int) else (l.length : Int)) = ((min 64 l.length : Nat) : Int) := by
      by_cases h64 : 64 < l.length
      · rw [show decide ((64 : Int) < (l.length : Int)) = true by simp; omega]; simp; omega
      · rw [show decide ((64 : Int) < (l.length : Int)) = false by simp; omega]; simp; omega
    rw [e64, show (decide ((0 : Int) ≤ ((min 64 l.length : Nat) : Int)) && decide (((min 64 l.length : Nat) : Int) ≤ (l.length : Int))) = true by simp; omega]
    simp only [cond_true]
    have et : List.take ((min 64 l.length : Nat) : Int).toNat l = l.take 64 := by
      rw [Int.toNat_natCast, List.take_eq_take_iff]; omega
    rw [et]
    have hl64 : (l.take 64).length ≤ 64 := by rw [List.length_take]; omega
    unfold pub2
    generalize l.take 64 = l' at *
    unfold host_Public_L0
    rw [iter_scan (fun i (p : Int × Int) => (L, p.1, p.2, l', (l'.length : Int), i, ())) l' (fun _ x p => .inl (pubStep L p x)) (fun p => (p.1, p.2, ())) (fun _ p => 1 ≤ p.1 ∧ p.1 ≤ L.length ∧ 0 ≤ p.2 ∧ p.2 ≤ L.length) ?_ ?_ (1, 0) ⟨by simp, by simp; omega, by simp, by simp⟩ rounds (by rw [rounds_eq]; omega)]
    · rw [scan_fold (pubStep L)]
      have := foldl_inv (P := fun p : Int × Int => 1 ≤ p.1 ∧ p.1 ≤ L.length ∧ 0 ≤ p.2 ∧ p.2 ≤ L.length) (fun a b h => pubStep_le hp b h) l' (1, 0) ⟨by simp, by simp; omega, by simp, by simp⟩
      simp only [bindS]
      generalize l'.foldl (pubStep L) (1, 0) = q at *
      rw [wrap_id (by omega) (by omega)]
      cases decide (0 < q.2) <;> rfl
    · rintro i x ⟨p1, p2⟩ hx hI
      obtain ⟨hi, hx'⟩ := List.getElem?_eq_some_iff.1 hx
      refine ⟨?_, fun a' ha => by cases ha; exact pubStep_le hp x hI⟩
      simp only [host_Public_L0b]
      have hg : getI l' (i : Int) = some x := by simp [getI, hx]
      rw [hg, show decide ((i : Int) < (l'.length : Int)) = true by simp; omega, wrap_id (n := (i : Int) + 1) (by omega) (by omega)]
      simp only [cond_true, bindS]
      rw [matches_ok x L (by omega)]
      simp only [bindS, pubStep, Sum.map_inl]
      cases hm : mat x L
      · rfl
      · obtain ⟨m1, m2, m3, m4⟩ := mat_len hm
        cases he : x.except
        · cases hw : x.wild
          · simp [imax]
          · rw [wrap_id (n := (x.labels.length : Int) + 1) (by omega) (by omega)]
            simp [imax]
        · rfl
    · rintro ⟨p1, p2⟩ _
      simp only [host_Public_L0b]
      simp
theorem rPublic_ok (l : List ApiSuffix) (s : List UInt8) (hr : ∀ x ∈ l, x.labels.length ≤ 1000000) : passkeyref23_Public l s = some ((), pub l s, ()) := by
  unfold passkeyref23_Public pub
  rw [rLabels_ok]
  simp only [bindS, len0']
  by_cases h : labs s = []
  · simp [h]
  · have hp := List.length_pos_iff.2 h
    have hLl := (labs_len s).1
    simp only [h, decide_false, cond_false]
    generalize labs s = L at *
    have hl64 : (l.take 64).length ≤ 64 := by rw [List.length_take]; omega
    unfold pub2
    unfold passkeyref23_Public_L0
    rw [iter_scan (fun i (p : Int × Int) => (l, L, p.1, p.2, i, ())) (l.take 64) (fun _ x p => .inl (pubStep L p x)) (fun p => (p.1, p.2, ())) (fun _ p => 1 ≤ p.1 ∧ p.1 ≤ L.length ∧ 0 ≤ p.2 ∧ p.2 ≤ L.length) ?_ ?_ (1, 0) ⟨by simp, by simp; omega, by simp, by simp⟩ rounds (by rw [rounds_eq]; omega)]
    · rw [scan_fold (pubStep L)]
      have := foldl_inv (P := fun p : Int × Int => 1 ≤ p.1 ∧ p.1 ≤ L.length ∧ 0 ≤ p.2 ∧ p.2 ≤ L.length) (fun a b h => pubStep_le hp b h) (l.take 64) (1, 0) ⟨by simp, by simp; omega, by simp, by simp⟩
      simp only [bindS]
      generalize (l.take 64).foldl (pubStep L) (1, 0) = q at *
      rw [wrap_id (by omega) (by omega)]
      cases decide (0 < q.2) <;> rfl
    · rintro i x ⟨p1, p2⟩ hx hI
      obtain ⟨hi, hx'⟩ := List.getElem?_eq_some_iff.1 hx
      have hi2 : i < 64 ∧ i < l.length := by rw [List.length_take] at hi; omega
      have hxl : l[i]? = some x := by rw [← hx, List.getElem?_take_of_lt hi2.1]
      refine ⟨?_, fun a' ha => by cases ha; exact pubStep_le hp x hI⟩
      simp only [passkeyref23_Public_L0b]
      have hg : getI l (i : Int) = some x := by simp [getI, hxl]
      rw [hg, show decide ((i : Int) < (l.length : Int)) = true by simp; omega, show decide ((i : Int) < 64) = true by simp; omega, wrap_id (n := (i : Int) + 1) (by omega) (by omega)]
      simp only [cond_true, bindS]
      have hwr : IntKind.wrap .i64 ((i : Int) + 1) = (i : Int) + 1 := wrap_id (by omega) (by omega)
      rw [rFormatRule_ok x (hr x (List.mem_of_getElem? hxl)), rends_ok L x.labels (by omega)]
      simp only [bindS, pubStep, Sum.map_inl, fmt_ok]
      cases hf : fok x
      · have : mat x L = false := by simp [mat, hf]
        rw [this]
        rfl
      · have h50 := fok_len hf
        cases hq : endsL L x.labels
        · have : mat x L = false := by simp [mat, hq]
          rw [this]
          rfl
        · have hle : x.labels.length ≤ L.length := by
            unfold endsL at hq
            simp only [Bool.and_eq_true, decide_eq_true_eq] at hq
            exact hq.1
          cases hw : x.wild
          · have : mat x L = true := by simp [mat, hf, hq, hw]
            rw [this]
            cases he : x.except <;> simp [imax, hw, he, hwr]
          · have hex : x.except = false := by
              have : (x.wild && x.except) = false := by
                unfold fok at hf
                simp only [Bool.and_eq_true, Bool.not_eq_true'] at hf
                exact hf.2.2.1
              rw [hw] at this
              simpa using this
            rw [wrap_id (n := (x.labels.length : Int) + 1) (by omega) (by omega)]
            by_cases hlt : x.labels.length < L.length
            · have : mat x L = true := by simp [mat, hf, hq, hlt]
              rw [this, show decide ((L.length : Int) = (x.labels.length : Int)) = false by simp; omega]
              simp [imax, hw, hex, hwr]
            · have : mat x L = false := by simp [mat, hf, hq, hw, hlt]
              rw [this, show decide ((L.length : Int) = (x.labels.length : Int)) = true by simp; omega]
              rfl
    · rintro ⟨p1, p2⟩ _
      simp only [passkeyref23_Public_L0b]
      by_cases h64 : 64 < l.length
      · rw [show (l.take 64).length = 64 by rw [List.length_take]; omega]
        simp
      · rw [show (l.take 64).length = l.length by rw [List.length_take]; omega]
        simp
def reg (l : List ApiSuffix) (s : List UInt8) : List UInt8 × Bool := bif decide (((labs s).length : Int) ≤ pub l s) then ([], false) else (joinD ((labs s).drop ((labs s).length - (pub l s).toNat - 1)), true)
theorem reg_at {L : List (List UInt8)} {n : Int} (h : ¬ (L.length : Int) ≤ n) (h0 : 0 ≤ n) (hL : L.length < 1000000) : IntKind.wrap .i64 (IntKind.wrap .i64 ((L.length : Int) - n) - 1) = ((L.length - n.toNat - 1 : Nat) : Int) := by
  rw [wrap_id (n := (L.length : Int) - n) (by omega) (by omega), wrap_id (by omega) (by omega)]
  omega
theorem Registrable_ok (l : List ApiSuffix) (s : List UInt8) : host_Registrable l s = some ((), (reg l s).1, (reg l s).2, ()) := by
  unfold host_Registrable reg
  rw [Labels_ok, Public_ok]
  simp only [bindS]
  have h0 := (pub_le l s).1
  obtain ⟨h1, h2⟩ := labs_len s
  by_cases h : ((labs s).length : Int) ≤ pub l s
  · simp [h]
  · rw [reg_at h h0 (by omega)]
    simp only [h, decide_false, cond_false]
    rw [show (decide ((0 : Int) ≤ (((labs s).length - (pub l s).toNat - 1 : Nat) : Int)) && decide ((((labs s).length - (pub l s).toNat - 1 : Nat) : Int) ≤ ((labs s).length : Int))) = true by simp; omega]
    simp only [cond_true, Int.toNat_natCast]
    rw [show decide ((labs s).length - ((labs s).length - (pub l s).toNat - 1) + ((labs s).length - (pub l s).toNat - 1) ≤ (labs s).length) = true by simp; omega, List.take_of_length_le (by rw [List.length_drop]; omega)]
    simp only [cond_true]
    rw [Join_ok _ (by rw [List.length_drop]; omega) (fun x hx => by have := h2 x (List.mem_of_mem_drop hx); omega)]
    rfl
theorem CutPrefix_ok (s p : List UInt8) : strings_CutPrefix s p = some ((), (bif p.isPrefixOf s then s.drop p.length else s), p.isPrefixOf s, ()) := by
  unfold strings_CutPrefix stringslite_CutPrefix stringslite_HasPrefix
  by_cases h : p.length ≤ s.length
  · rw [show decide ((p.length : Int) ≤ (s.length : Int)) = true by simp; omega]
    have e : decide (s.take p.length = p) = p.isPrefixOf s := by
      rw [Bool.eq_iff_iff, decide_eq_true_eq, List.isPrefixOf_iff_prefix, List.prefix_iff_eq_take]
      exact eq_comm
    simp only [cond_true, Int.natCast_nonneg, decide_true, Bool.and_self, Int.toNat_natCast, e, bindS]
    cases p.isPrefixOf s <;> rfl
  · rw [show decide ((p.length : Int) ≤ (s.length : Int)) = false by simp; omega]
    have e : p.isPrefixOf s = false := by
      cases hq : p.isPrefixOf s
      · rfl
      · have := (List.isPrefixOf_iff_prefix.1 hq).length_le; omega
    rw [e]
    rfl
theorem Mod_ok (v : Int) (m : Nat) (h0 : 0 < m) (h1 : m < 1000000) : ∃ k : Nat, k < m ∧ passkeycast_Mod v (m : Int) = some ((), (k : Int), ()) := by
  unfold passkeycast_Mod
  have e : (BitVec.ofInt 64 (m : Int)).toNat = m := by
    rw [BitVec.ofInt_natCast, BitVec.toNat_ofNat, Nat.mod_eq_of_lt (by omega)]
  have hz : decide (BitVec.ofInt 64 (m : Int) = 0) = false := by
    rw [decide_eq_false_iff_not]
    intro h
    rw [h] at e
    simp at e
    omega
  rw [hz]
  have hlt : (BitVec.ofInt 64 v % BitVec.ofInt 64 (m : Int)).toNat < m := by
    rw [BitVec.toNat_umod, e]
    exact Nat.mod_lt _ h0
  exact ⟨_, hlt, by dsimp only; rw [wrap_id (by omega) (by omega)]; rfl⟩
theorem Host_ok (n : Int) : ∃ h, passkeycast_Host n = some ((), h, ()) ∧ h.length ≤ 30 := by
  obtain ⟨k, hk, e⟩ := Mod_ok n 28 (by omega) (by omega)
  unfold passkeycast_Host
  rw [show ((28 : Nat) : Int) = 28 from rfl] at e
  rw [e]
  simp only [bindS]
  rw [show (decide ((0 : Int) ≤ (k : Int)) && decide ((k : Int) < 28)) = true by simp; omega]
  simp only [cond_true, Int.toNat_natCast]
  generalize hL : ([[101, 120, 97, 109, 112, 108, 101, 46, 99, 111, 109], [108, 111, 103, 105, 110, 46, 101, 120, 97, 109, 112, 108, 101, 46, 99, 111, 109], [97, 46, 98, 46, 99, 111, 46, 117, 107], [98, 46, 99, 111, 46, 117, 107], [99, 111, 46, 117, 107], [117, 107], [120, 46, 121, 46, 99, 107], [119, 119, 119, 46, 99, 107], [99, 107], [108, 111, 99, 97, 108, 104, 111, 115, 116], [101, 118, 105, 108, 46, 116, 101, 115, 116], [101, 120, 97, 109, 112, 108, 101, 46, 99, 111, 109, 46, 101, 118, 105, 108, 46, 116, 101, 115, 116], [97, 46, 108, 111, 103, 105, 110, 46, 101, 120, 97, 109, 112, 108, 101, 46, 99, 111, 109], [120, 97, 109, 112, 108, 101, 46, 99, 111, 109], [121, 46, 99, 107], [122, 46, 120, 46, 121, 46, 99, 107], [103, 105, 116, 104, 117, 98, 46, 105, 111], [109, 101, 46, 103, 105, 116, 104, 117, 98, 46, 105, 111], [121, 111, 117, 46, 103, 105, 116, 104, 117, 98, 46, 105, 111], [105, 111], [49, 46, 50, 46, 51, 46, 52], [], [97, 46, 46, 98], [69, 120, 97, 109, 112, 108, 101, 46, 99, 111, 109], [45, 97, 46, 99, 111, 109], [97, 46, 99, 111, 109, 46], [97, 45, 98, 46, 99, 49], [99, 49]] : List (List UInt8)) = L
  have hl : L.length = 28 := by rw [← hL]; rfl
  have hb : ∀ x ∈ L, x.length ≤ 30 := by rw [← hL]; decide
  rw [List.getElem?_eq_getElem (by omega)]
  exact ⟨_, rfl, hb _ (List.getElem_mem _)⟩
def all8 : List ApiSuffix := [⟨[[99, 111, 109]], false, false⟩, ⟨[[117, 107]], false, false⟩, ⟨[[99, 111], [117, 107]], false, false⟩, ⟨[[99, 107]], true, false⟩, ⟨[[119, 119, 119], [99, 107]], false, true⟩, ⟨[[103, 105, 116, 104, 117, 98], [105, 111]], false, false⟩, ⟨[[116, 101, 115, 116]], false, false⟩, ⟨[[98], [99, 111], [117, 107]], false, true⟩]
def incl (n : Int) (i : Int) : Bool := decide (IntKind.wrap .i64 ((BitVec.ofInt (IntKind.bits .i64) (Int.fdiv n (2 ^ (min (BitVec.ofInt 64 i).toNat (IntKind.bits .i64)))) &&& BitVec.ofInt (IntKind.bits .i64) (1 : Int)).toNat : Int) = 0)
theorem small32 {n : Nat} (h : n < 10000000) : small n 32 = true := by
  unfold small
  simp only [decide_eq_true_eq]
  omega
theorem Rules_ok (n : Int) : ∃ r, passkeycast_Rules n = some ((), r, ()) ∧ r.length ≤ 8 ∧ ∀ s ∈ r, ∃ j : Nat, all8[j]? = some s ∧ incl n j = true := by
  have : Ok (passkeycast_Rules_L0 (n, all8, [], 0, ())) fun z => z.1.length ≤ 8 ∧ ∀ s ∈ z.1, ∃ j : Nat, all8[j]? = some s ∧ incl n j = true := by
    unfold passkeycast_Rules_L0
    refine Ok.iter (fun q => q.1 = n ∧ q.2.1 = all8 ∧ 0 ≤ q.2.2.2.1 ∧ q.2.2.2.1 ≤ 8 ∧ (q.2.2.1.length : Int) ≤ q.2.2.2.1 ∧ ∀ s ∈ q.2.2.1, ∃ j : Nat, all8[j]? = some s ∧ incl n j = true) (fun q => 8 - q.2.2.2.1.toNat) ⟨rfl, rfl, by simp, by simp, by simp, by simp⟩ (by rw [rounds_eq]; dsimp only; omega) ?_
    rintro ⟨y0, y1, y2, i, u⟩ ⟨h1, h2, h3, h4, h5, h6⟩
    dsimp only at *
    subst h1; subst h2
    have hl8 : all8.length = 8 := rfl
    simp only [passkeycast_Rules_L0b]
    by_cases hi : i < 8
    · rw [hl8, show decide (i < ((8 : Nat) : Int)) = true by simp; omega, wrap_id (n := i + 1) (by omega) (by omega)]
      simp only [cond_true]
      refine Ok.cond (fun hc => ?_) (fun hc => ?_)
      · rw [show (decide ((0 : Int) ≤ i) && true) = true by simp; omega]
        have hlt : i.toNat < all8.length := by omega
        rw [List.getElem?_eq_getElem hlt]
        simp only [cond_true, bindS]
        rw [small32 (by simp; omega)]
        refine Ok.some ?_
        dsimp only
        refine ⟨⟨rfl, rfl, by omega, by omega, by simp; omega, ?_⟩, by omega⟩
        intro s hs
        rcases List.mem_append.1 hs with hs | hs
        · exact h6 s hs
        · simp only [List.mem_singleton] at hs
          refine ⟨i.toNat, by rw [hs, List.getElem?_eq_getElem hlt], ?_⟩
          rw [show ((i.toNat : Nat) : Int) = i by omega]
          exact hc
      · refine Ok.some ?_
        dsimp only
        exact ⟨⟨rfl, rfl, by omega, by omega, by omega, h6⟩, by omega⟩
    · rw [hl8, show decide (i < ((8 : Nat) : Int)) = false by simp; omega]
      refine Ok.some ?_
      dsimp only
      exact ⟨by omega, h6⟩
  obtain ⟨⟨r, u⟩, h1, h2, h3⟩ := this
  refine ⟨r, ?_, h2, h3⟩
  show (passkeycast_Rules_L0 (n, all8, [], 0, ())).bind _ = _
  rw [h1]
  rfl
theorem all8_len {s : ApiSuffix} {j : Nat} (h : all8[j]? = some s) : s.labels.length ≤ 3 := by
  have : ∀ x ∈ all8, x.labels.length ≤ 3 := by decide
  exact this s (List.mem_of_getElem? h)
theorem joinD_spl (c : List UInt8) : joinD (spl 46 c) = c := by
  induction c with
  | nil => rfl
  | cons x r ih =>
    unfold spl
    have hne := spl_ne 46 r
    split
    · rename_i hx
      subst hx
      cases hs : spl 46 r with
      | nil => exact absurd hs hne
      | cons p ps =>
        rw [joinD_cons, ← hs, ih]; rfl
    · cases hs : spl 46 r with
      | nil => exact absurd hs hne
      | cons p ps =>
        rw [hs] at ih
        dsimp only
        cases ps with
        | nil =>
          rw [joinD_one] at ih ⊢
          rw [ih]
        | cons q qs =>
          rw [joinD_cons] at ih ⊢
          rw [List.cons_append, ih]
theorem vali_iff {s : List UInt8} : vali s = 0 ↔ s.length ≤ 100 ∧ (∀ x ∈ spl 46 s, lab x = true) ∧ (lastL (spl 46 s)).all isDig = false := by
  unfold vali
  by_cases h : 100 < s.length
  · simp only [h, decide_true, cond_true]
    constructor
    · intro e; omega
    · intro e; omega
  · simp only [h, decide_false, cond_false]
    cases ha : (spl 46 s).all lab
    · simp only [cond_false]
      constructor
      · intro e; omega
      · rintro ⟨_, h2, _⟩
        have : (spl 46 s).all lab = true := List.all_eq_true.2 h2
        rw [ha] at this; cases this
    · cases hd : (lastL (spl 46 s)).all isDig
      · simp only [cond_true, cond_false, true_iff, and_true]
        exact ⟨by omega, List.all_eq_true.1 ha⟩
      · simp only [cond_true]
        constructor
        · intro e; omega
        · rintro ⟨_, _, h3⟩; cases h3
theorem rRegistrable_ok (l : List ApiSuffix) (s : List UInt8) (hr : ∀ x ∈ l, x.labels.length ≤ 1000000) : passkeyref23_Registrable l s = some ((), (reg l s).1, (reg l s).2, ()) := by
  unfold passkeyref23_Registrable reg
  rw [rLabels_ok, rPublic_ok l s hr]
  simp only [bindS]
  have h0 := (pub_le l s).1
  obtain ⟨h1, h2⟩ := labs_len s
  by_cases h : ((labs s).length : Int) ≤ pub l s
  · simp [h]
  · rw [reg_at h h0 (by omega)]
    simp only [h, decide_false, cond_false]
    rw [show (decide ((0 : Int) ≤ (((labs s).length - (pub l s).toNat - 1 : Nat) : Int)) && decide ((((labs s).length - (pub l s).toNat - 1 : Nat) : Int) ≤ ((labs s).length : Int))) = true by simp; omega]
    simp only [cond_true, Int.toNat_natCast]
    rw [show decide ((labs s).length - ((labs s).length - (pub l s).toNat - 1) + ((labs s).length - (pub l s).toNat - 1) ≤ (labs s).length) = true by simp; omega, List.take_of_length_le (by rw [List.length_drop]; omega)]
    simp only [cond_true]
    rw [rjoin_ok _ (by rw [List.length_drop]; omega) (fun x hx => by have := h2 x (List.mem_of_mem_drop hx); omega)]
    rfl
end Go.Proofs.YtjmaldfcmggblaaDoor

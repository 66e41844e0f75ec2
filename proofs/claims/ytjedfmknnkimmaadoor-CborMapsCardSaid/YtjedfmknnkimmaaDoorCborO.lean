/- cbor: the sorting of at most twelve indices by their keys. No condition. -/
import Derived.Test.YtjedfmknnkimmaaDoorCborN
set_option linter.unusedVariables false
set_option linter.unusedSimpArgs false
set_option maxRecDepth 100000
namespace Go.Proofs.YtjedfmknnkimmaaDoor
open Go Go.Abs
def kk (keys : List (BitVec 64)) (i : Nat) : Nat := (keys.getD i 0#64).toNat
def cmpI (a b : Nat) : Int := bif decide (a < b) then -1 else bif decide (b < a) then 1 else 0
theorem cmpI_neg (a b : Nat) : decide (cmpI a b < 0) = decide (a < b) := by
  unfold cmpI
  cases h : decide (a < b)
  · cases decide (b < a) <;> rfl
  · rfl
theorem kk_get {keys : List (BitVec 64)} {i : Nat} (h : i < keys.length) : getI keys (i : Int) = some (keys.getD i 0#64) := by
  refine getI_nat ?_
  rw [List.getD_eq_getElem?_getD, List.getElem?_eq_getElem h]
  rfl
theorem Map1_ok (keys : List (BitVec 64)) (i j : Nat) (hi : i < keys.length) (hj : j < keys.length) : cbor_Map_1 (i : Int) (j : Int) keys = some ((), cmpI (kk keys i) (kk keys j), ()) := by
  unfold cbor_Map_1
  rw [kk_get hi, kk_get hj]
  simp only [bindS]
  unfold cmp_Compare_uint64 cmp_isNaN_uint64 cmpI kk
  simp only [bindS, decide_true, Bool.not_true, cond_false]
  cases decide ((keys.getD i 0#64).toNat < (keys.getD j 0#64).toNat)
  · cases decide ((keys.getD j 0#64).toNat < (keys.getD i 0#64).toNat) <;> rfl
  · rfl
abbrev ci (l : List Nat) : List Int := l.map fun n : Nat => (n : Int)
theorem ci_len (l : List Nat) : (ci l).length = l.length := List.length_map _
theorem ci_get {l : List Nat} {i n : Nat} (h : l[i]? = some n) : (ci l)[i]? = some (n : Int) := by
  rw [List.getElem?_map, h]; rfl
theorem swap_ci (A R : List Nat) (x y : Nat) : List.set (List.set (ci (A ++ y :: x :: R)) (A.length + 1) (y : Int)) A.length (x : Int) = ci (A ++ x :: y :: R) := by
  simp only [ci, List.map_append, List.map_cons]
  rw [List.set_append_right _ _ (by simp), List.set_append_right _ _ (by simp)]
  simp
theorem insL2_ok (keys : List (BitVec 64)) (n i : Nat) (A R : List Nat) (x : Nat) (hn : n ≤ 12) (hlen : (A ++ x :: R).length = n) (hk : ∀ y ∈ A ++ x :: R, y < keys.length) :
    Ok (slices_insertionSortCmpFunc_int_L2 (ci (A ++ x :: R), 0, (n : Int), (keys, ()), (i : Int), (A.length : Int), ())) fun z => ∃ A1 A2, A = A1 ++ A2 ∧ z = (ci (A1 ++ x :: (A2 ++ R)), 0, (n : Int), (keys, ()), (i : Int), ()) ∧ (∀ y ∈ A2, kk keys x < kk keys y) ∧ ∀ y, A1.getLast? = some y → kk keys y ≤ kk keys x := by
  unfold slices_insertionSortCmpFunc_int_L2
  refine Ok.iter (fun q => q.2.1 = 0 ∧ q.2.2.1 = (n : Int) ∧ q.2.2.2.1 = (keys, ()) ∧ q.2.2.2.2.1 = (i : Int) ∧ ∃ A1 A2, A = A1 ++ A2 ∧ q.1 = ci (A1 ++ x :: (A2 ++ R)) ∧ q.2.2.2.2.2.1 = (A1.length : Int) ∧ ∀ y ∈ A2, kk keys x < kk keys y) (fun q => q.2.2.2.2.2.1.toNat) ⟨rfl, rfl, rfl, rfl, A, [], by simp, by simp, rfl, by simp⟩ (by rw [rounds_eq]; dsimp only; simp at hlen; omega) ?_
  rintro ⟨q0, q1, q2, q3, q4, q5, u⟩ ⟨e1, e2, e3, e4, A1, A2, e5, e6, e7, e8⟩
  dsimp only at *
  subst e1; subst e2; subst e3; subst e4; subst e6; subst e7
  have hl2 : (A1 ++ x :: (A2 ++ R)).length = n := by rw [← hlen, e5]; simp; omega
  simp only [slices_insertionSortCmpFunc_int_L2b]
  rcases List.eq_nil_or_concat A1 with h0 | ⟨B, y, hB⟩
  · subst h0
    refine Ok.some ?_
    exact ⟨[], A2, by simpa using e5, rfl, e8, by simp⟩
  · rw [List.concat_eq_append] at hB
    subst hB
    have hy : y ∈ A ++ x :: R := by rw [e5]; simp
    have hx : x ∈ A ++ x :: R := by simp
    have el : ((B ++ [y]).length : Int) = ((B.length + 1 : Nat) : Int) := by simp
    have ew : IntKind.wrap .i64 (((B.length + 1 : Nat) : Int) - 1) = (B.length : Int) := by
      rw [wrap_id (by simp at hl2; omega) (by simp at hl2; omega)]; omega
    have ecl : ((ci (B ++ [y] ++ x :: (A2 ++ R))).length : Int) = (n : Int) := by rw [ci_len]; exact congrArg _ hl2
    have hbn : B.length + 1 < n := by simp at hl2; omega
    have g1 : (ci (B ++ [y] ++ x :: (A2 ++ R)))[B.length + 1]? = some (x : Int) := ci_get (by rw [List.getElem?_append_right (by simp)]; simp)
    have g2 : (ci (B ++ [y] ++ x :: (A2 ++ R)))[B.length]? = some (y : Int) := ci_get (by rw [List.append_assoc, List.getElem?_append_right (by simp)]; simp)
    rw [el, ew, ecl, show decide ((0 : Int) < ((B.length + 1 : Nat) : Int)) = true from decide_eq_true (by omega), two_ok (by omega) (show ((B.length + 1 : Nat) : Int) < (n : Int) by omega), two_ok (by omega) (show (B.length : Int) < (n : Int) by omega), Int.toNat_natCast, Int.toNat_natCast, g1, g2]
    simp only [cond_true, bindS]
    rw [Map1_ok keys x y (hk x hx) (hk y hy)]
    simp only [bindS]
    rw [cmpI_neg]
    by_cases hlt : kk keys x < kk keys y
    · rw [show decide (kk keys x < kk keys y) = true from decide_eq_true hlt]
      simp only [cond_true]
      have g3 : (List.set (ci (B ++ [y] ++ x :: (A2 ++ R))) (B.length + 1) (y : Int))[B.length]? = some (y : Int) := by
        rw [List.getElem?_set_ne (by omega)]; exact g2
      rw [g3]
      simp only [bindS]
      refine Ok.some ?_
      dsimp only
      refine ⟨⟨rfl, rfl, rfl, rfl, B, y :: A2, by rw [e5]; simp, ?_, rfl, ?_⟩, by omega⟩
      · rw [List.append_assoc]
        exact swap_ci B (A2 ++ R) x y
      · intro z hz
        rcases List.mem_cons.1 hz with rfl | hz
        · exact hlt
        · exact e8 z hz
    · rw [show decide (kk keys x < kk keys y) = false from decide_eq_false hlt]
      refine Ok.some ?_
      refine ⟨B ++ [y], A2, e5, rfl, e8, ?_⟩
      intro z hz
      simp at hz
      subst hz
      omega
def srt (keys : List (BitVec 64)) (l : List Nat) : Prop := l.Pairwise fun a b => kk keys a ≤ kk keys b
theorem srt_ins {keys : List (BitVec 64)} {A1 A2 : List Nat} {x : Nat} (h : srt keys (A1 ++ A2)) (h1 : ∀ y ∈ A2, kk keys x < kk keys y) (h2 : ∀ y, A1.getLast? = some y → kk keys y ≤ kk keys x) : srt keys (A1 ++ x :: A2) := by
  unfold srt at h ⊢
  rw [List.pairwise_append] at h ⊢
  obtain ⟨p1, p2, p3⟩ := h
  have hx : ∀ a ∈ A1, kk keys a ≤ kk keys x := by
    intro a ha
    rcases List.eq_nil_or_concat A1 with h0 | ⟨B, y, hB⟩
    · rw [h0] at ha; cases ha
    · rw [List.concat_eq_append] at hB
      subst hB
      have hy := h2 y (by simp)
      rcases List.mem_append.1 ha with ha | ha
      · rw [List.pairwise_append] at p1
        have := p1.2.2 a ha y (by simp)
        omega
      · simp at ha; subst ha; exact hy
  refine ⟨p1, List.pairwise_cons.2 ⟨fun y hy => Nat.le_of_lt (h1 y hy), p2⟩, ?_⟩
  intro a ha b hb
  rcases List.mem_cons.1 hb with rfl | hb
  · exact hx a ha
  · exact p3 a ha b hb
theorem ins_ok (keys : List (BitVec 64)) (L : List Nat) (hn : L.length ≤ 12) (hk : ∀ y ∈ L, y < keys.length) : Ok (slices_insertionSortCmpFunc_int (ci L) 0 (L.length : Int) (keys, ())) fun z => ∃ o, z = ((ci o, ()), ()) ∧ o.Perm L ∧ srt keys o := by
  unfold slices_insertionSortCmpFunc_int
  refine Ok.bind (Ok.mono (Q := fun z => ∃ o, z = (ci o, ()) ∧ o.Perm L ∧ srt keys o) ?_ ?_)
  · unfold slices_insertionSortCmpFunc_int_L0
    rw [show IntKind.wrap .i64 ((0 : Int) + 1) = ((1 : Nat) : Int) from rfl]
    have h0 : ∃ A R, L = A ++ R ∧ (A.length = 1 ∨ A.length = L.length ∧ L.length < 1) := by
      cases L with
      | nil => exact ⟨[], [], rfl, .inr (by simp)⟩
      | cons x r => exact ⟨[x], r, rfl, .inl rfl⟩
    refine Ok.iter (fun q => q.2.1 = 0 ∧ q.2.2.1 = (L.length : Int) ∧ q.2.2.2.1 = (keys, ()) ∧ ∃ (i : Nat) (A R : List Nat), q.2.2.2.2.1 = (i : Int) ∧ q.1 = ci (A ++ R) ∧ (A ++ R).Perm L ∧ srt keys A ∧ (A.length = i ∨ R = [] ∧ L.length < i)) (fun q => (20 - q.2.2.2.2.1).toNat) ⟨rfl, rfl, rfl, 1, ?_⟩ (by rw [rounds_eq]; dsimp only; omega) ?_
    · cases L with
      | nil => exact ⟨[], [], rfl, rfl, .refl _, List.Pairwise.nil, .inr ⟨rfl, by simp⟩⟩
      | cons x r => exact ⟨[x], r, rfl, rfl, .refl _, List.pairwise_singleton _ _, .inl rfl⟩
    rintro ⟨q0, q1, q2, q3, q4, u⟩ ⟨e1, e2, e3, i, A, R, e4, e5, e6, e7, e8⟩
    dsimp only at *
    subst e1; subst e2; subst e3; subst e4; subst e5
    have hl := e6.length_eq
    simp only [slices_insertionSortCmpFunc_int_L0b]
    by_cases hi : i < L.length
    · rw [show decide ((i : Int) < (L.length : Int)) = true from decide_eq_true (by omega)]
      have hA : A.length = i := by
        rcases e8 with h | ⟨_, h⟩
        · exact h
        · omega
      cases R with
      | nil => simp at hl; omega
      | cons x R =>
      have hm : ∀ y ∈ A ++ x :: R, y < keys.length := fun y hy => hk y (e6.mem_iff.1 hy)
      simp only [cond_true]
      have := insL2_ok keys L.length i A R x hn hl hm
      rw [hA] at this
      refine Ok.bind (Ok.mono this ?_)
      rintro _ ⟨A1, A2, f1, rfl, f2, f3⟩
      dsimp only
      rw [wrap_id (n := (i : Int) + 1) (by omega) (by omega)]
      refine Ok.some ?_
      dsimp only
      refine ⟨⟨rfl, rfl, rfl, i + 1, A1 ++ x :: A2, R, rfl, by simp, ?_, ?_, .inl ?_⟩, by omega⟩
      · refine List.Perm.trans ?_ e6
        rw [f1]
        simp only [List.append_assoc, List.cons_append]
        exact List.Perm.append_left A1 (List.perm_middle.symm)
      · rw [f1] at e7
        exact srt_ins e7 f2 f3
      · rw [← hA, f1]; simp; omega
    · rw [show decide ((i : Int) < (L.length : Int)) = false from decide_eq_false (by omega)]
      have hR : R = [] := by
        rcases e8 with h | ⟨h, _⟩
        · rw [List.length_append] at hl
          exact List.length_eq_zero_iff.1 (by omega)
        · exact h
      subst hR
      rw [List.append_nil] at e6 ⊢
      exact Ok.some ⟨A, rfl, e6, e7⟩
  · rintro _ ⟨o, rfl, h1, h2⟩
    exact Ok.some ⟨o, rfl, h1, h2⟩
theorem bitsLen (n : Nat) (h : n ≤ 12) : ∃ k, math_bits_Len (BitVec.ofInt 64 (n : Int)) = some ((), k, ()) := by
  have : n = 0 ∨ n = 1 ∨ n = 2 ∨ n = 3 ∨ n = 4 ∨ n = 5 ∨ n = 6 ∨ n = 7 ∨ n = 8 ∨ n = 9 ∨ n = 10 ∨ n = 11 ∨ n = 12 := by omega
  rcases this with rfl | rfl | rfl | rfl | rfl | rfl | rfl | rfl | rfl | rfl | rfl | rfl | rfl
  · exact ⟨0, by kernel_rfl⟩
  · exact ⟨1, by kernel_rfl⟩
  · exact ⟨2, by kernel_rfl⟩
  · exact ⟨2, by kernel_rfl⟩
  · exact ⟨3, by kernel_rfl⟩
  · exact ⟨3, by kernel_rfl⟩
  · exact ⟨3, by kernel_rfl⟩
  · exact ⟨3, by kernel_rfl⟩
  · exact ⟨4, by kernel_rfl⟩
  · exact ⟨4, by kernel_rfl⟩
  · exact ⟨4, by kernel_rfl⟩
  · exact ⟨4, by kernel_rfl⟩
  · exact ⟨4, by kernel_rfl⟩
theorem sort_ok (keys : List (BitVec 64)) (L : List Nat) (hn : L.length ≤ 12) (hk : ∀ y ∈ L, y < keys.length) : Ok (slices_SortFunc_int_int (ci L) (keys, ())) fun z => ∃ o, z = ((ci o, ()), ()) ∧ o.Perm L ∧ srt keys o := by
  unfold slices_SortFunc_int_int
  obtain ⟨k, hk2⟩ := bitsLen L.length hn
  rw [ci_len, hk2]
  simp only [bindS]
  unfold slices_pdqsortCmpFunc_int slices_pdqsortCmpFunc_int_L0
  rw [rounds_eq, show (1180591620717411303424 : Nat) = 1180591620717411303423 + 1 from rfl, iter_succ]
  dsimp only
  unfold slices_pdqsortCmpFunc_int_L0b
  rw [wrap_id (n := (L.length : Int) - 0) (by omega) (by omega), show decide ((L.length : Int) - 0 ≤ 12) = true from decide_eq_true (by omega)]
  simp only [cond_true]
  obtain ⟨_, h1, o, rfl, h2, h3⟩ := ins_ok keys L hn hk
  rw [h1]
  simp only [bindS, Sum.elim_inr]
  exact Ok.some ⟨o, rfl, h2, h3⟩
end Go.Proofs.YtjedfmknnkimmaaDoor

/- Out of the texts about items of the chapter on items (cbor): what this chapter needs. Written by a program. -/
import Derived.Test.YtghfcfjnfgmkgaaGreatDoorCrD
import Derived.Test.YtghfcfjnfgmkgaaGreatDoorLib8
namespace Go.Proofs.YtghfcfjnfgmkgaaGreatDoor
set_option linter.unusedVariables false
set_option linter.unusedSimpArgs false
set_option maxRecDepth 100000
open Go Go.Abs
def addI (x : ApiItem) : Nat := bif decide (x.kind = 5) then x.number.toNat else bif decide (x.kind = 6) then 2 * x.number.toNat else 0
def skp : List ApiItem → Nat → Option Nat
  | [], 0 => some 0
  | [], _ + 1 => none
  | _ :: _, 0 => some 0
  | x :: r, n + 1 => bif isN x.kind && decide (512 < x.number.toNat) then none else (skp r (n + addI x)).map (· + 1)
inductive PairsAt : Nat → List ApiItem → List ApiItem → List (ApiItem × List ApiItem) → Prop
  | nil (t : List ApiItem) : PairsAt 0 t t []
  | cons {k : Nat} {x : ApiItem} {v r t : List ApiItem} {ps : List (ApiItem × List ApiItem)} (hx : isN x.kind = false) (hv : ∀ m, skp (v ++ r) (m + 1) = (skp r m).map (· + v.length)) (h0 : v ≠ []) (h : PairsAt k r t ps) : PairsAt (k + 1) (x :: (v ++ r)) t ((x, v) :: ps)
theorem PairsAt.len {k : Nat} {s t : List ApiItem} {ps : List (ApiItem × List ApiItem)} (h : PairsAt k s t ps) : ps.length = k := by
  induction h with
  | nil => rfl
  | cons _ _ _ _ ih => simp [ih]
theorem two_ok {a b : Int} (h0 : 0 ≤ a) (h1 : a < b) : (decide ((0 : Int) ≤ a) && decide (a < b)) = true := by
  rw [Bool.and_eq_true, decide_eq_true_eq, decide_eq_true_eq]; exact ⟨h0, h1⟩
def fau : List (List ApiItem) → Int
  | [] => 0
  | l :: r => bif decide (valO l = 0) then fau r else valO l
def light1 (v : List (List ApiItem)) : Prop := ∀ l ∈ v, l.length ≤ 600 ∧ ∀ x ∈ l, x.data.length < 100000
theorem faulty_ok (v : List (List ApiItem)) (hv : light1 v) (hl : v.length ≤ 1000) : cbor_faulty v = some ((), fau v, ()) := by
  have key : ∀ (r : List (List ApiItem)) (j f : Nat), v.drop j = r → r.length < f → iter (fun (y : ((List (List ApiItem)) × Int × Int × Unit)) => cbor_faulty_L0b y.1 y.2.1 y.2.2.1) f (v, (v.length : Int), (j : Int), ()) = some (bif decide (fau r = 0) then .inr () else .inl (fau r, ())) := by
    intro r
    induction r with
    | nil =>
      intro j f hr hf
      obtain ⟨f, rfl⟩ : ∃ g, f = g + 1 := ⟨f - 1, by omega⟩
      have hjl : v.length ≤ j := by
        have := congrArg List.length hr
        simp at this
        omega
      rw [iter_succ]
      dsimp only
      unfold cbor_faulty_L0b
      rw [show decide ((j : Int) < (v.length : Int)) = false from decide_eq_false (by omega)]
      rfl
    | cons l r ih =>
      intro j f hr hf
      obtain ⟨f, rfl⟩ : ∃ g, f = g + 1 := ⟨f - 1, by omega⟩
      obtain ⟨d1, d2, d3, d4⟩ := drop_cons hr
      have hm := hv l (List.mem_of_getElem? d1)
      have e1 : cbor_faulty_L0b v (v.length : Int) (j : Int) = bif decide (valO l = 0) then some (Sum.inl (v, (v.length : Int), ((j + 1 : Nat) : Int), ())) else some (Sum.inr (Sum.inl (valO l, ()))) := by
        unfold cbor_faulty_L0b
        rw [show decide ((j : Int) < (v.length : Int)) = true from decide_eq_true (by omega), getI_nat d1, wrap_id (n := (j : Int) + 1) (by omega) (by omega)]
        simp only [cond_true, bindS]
        rw [Validate_ok l (by omega) hm.2]
        simp only [bindS]
        cases decide (valO l = 0) <;> rfl
      rw [iter_succ]
      dsimp only
      rw [e1]
      unfold fau
      by_cases h0 : valO l = 0
      · rw [show decide (valO l = 0) = true from decide_eq_true h0]
        exact ih (j + 1) f d2 (by simp at hf; omega)
      · rw [show decide (valO l = 0) = false from decide_eq_false h0]
        simp only [cond_false, bindS, Sum.elim_inr]
        rw [show decide (valO l = 0) = false from decide_eq_false h0]
        rfl
  unfold cbor_faulty cbor_faulty_L0
  have e := key v 0 rounds rfl (by rw [rounds_eq]; omega)
  rw [show ((0 : Nat) : Int) = 0 from rfl] at e
  rw [e]
  by_cases h0 : fau v = 0
  · rw [h0]; rfl
  · rw [show decide (fau v = 0) = false from decide_eq_false h0]; rfl
theorem mach_long : ∀ (f : Nat) (S : List CborFrame) (n : Nat) (p a b : List ApiItem), n ≤ 512 → p.length + n = 513 → valE (mach getL f S n (p ++ a)) = valE (mach getL f S n (p ++ b))
  | 0, S, n, p, a, b, _, _ => rfl
  | f + 1, S, n, p, a, b, hn, hp => by
    cases p with
    | nil => simp at hp; omega
    | cons x p =>
      simp only [List.length_cons] at hp
      cases hS : (decide (0 < n) && S.isEmpty)
      · by_cases hc : chk x n S.length (atK S) (lst S) = 0
        · have hn2 := (adm_zero (chk_zero hc).1).1
          have e : ∀ q : List ApiItem, getL n S.length (atK S) (lst S) (x :: q) = (0, x, q) := fun q => by simp [getL, hc]
          rw [List.cons_append, List.cons_append, mach_step hS (e _), mach_step hS (e _)]
          exact mach_long f (nxt x S) (n + 1) p a b (by omega) (by omega)
        · have e : ∀ q : List ApiItem, getL n S.length (atK S) (lst S) (x :: q) = (chk x n S.length (atK S) (lst S), x, q) := fun q => rfl
          rw [List.cons_append, List.cons_append, mach_err hS (e _) hc, mach_err hS (e _) hc]
          rfl
      · have e : ∀ q : List ApiItem, valE (mach getL (f + 1) S n (x :: q)) = 2 := by
          intro q
          unfold mach
          rw [hS]
          rfl
        rw [List.cons_append, List.cons_append, e, e]
theorem valO_long (p a b : List ApiItem) (hp : p.length = 513) : valO (p ++ a) = valO (p ++ b) := mach_long 600 [] 0 p a b (by omega) (by omega)
def gat : List ApiItem → List (List ApiItem) → List ApiItem
  | o, [] => o
  | o, l :: r => bif decide (512 < o.length) then o else gat (o ++ l) r
theorem gat_val : ∀ (v : List (List ApiItem)) (o : List ApiItem), valO (gat o v) = valO (o ++ v.flatten) ∧ (gat o v = o ++ v.flatten ∨ 512 < (gat o v).length ∧ 512 < (o ++ v.flatten).length)
  | [], o => by simp [gat]
  | l :: r, o => by
    unfold gat
    by_cases h : 512 < o.length
    · rw [show decide (512 < o.length) = true from decide_eq_true h]
      simp only [cond_true]
      refine ⟨?_, .inr ⟨h, by rw [List.length_append]; omega⟩⟩
      have e := valO_long (o.take 513) (o.drop 513) (o.drop 513 ++ (l :: r).flatten) (by rw [List.length_take]; omega)
      rw [← List.append_assoc, List.take_append_drop] at e
      exact e
    · rw [show decide (512 < o.length) = false from decide_eq_false h]
      simp only [cond_false, List.flatten_cons]
      have := gat_val r (o ++ l)
      rw [List.append_assoc] at this
      exact this
theorem valO_big {l : List ApiItem} (h : 512 < l.length) : valO l ≠ 0 := by
  intro hv
  have key : ∀ (f : Nat) (S : List CborFrame) (n : Nat) (l o r : List ApiItem), n ≤ 512 → mach getL f S n l = (0, o, r) → n + o.length ≤ 512 := by
    intro f
    induction f with
    | zero => intro S n l o r hn h; simp [mach] at h
    | succ f ih =>
      intro S n l o r hn h
      rcases mach_cases getL f S n l with ⟨h1, h2⟩ | ⟨h1, h2, h3⟩ | ⟨h1, x, u, h2, h3⟩
      · rw [h2] at h
        simp only [Prod.mk.injEq, true_and] at h
        obtain ⟨rfl, rfl⟩ := h
        simpa using hn
      · rw [h3] at h
        simp only [Prod.mk.injEq] at h
        exact absurd h.1 h2
      · rw [h3] at h
        simp only [Prod.mk.injEq] at h
        obtain ⟨g1, g2, g3⟩ := h
        have hn2 := (adm_zero (chk_zero (getL_zero h2).2).1).1
        generalize hm : mach getL f (nxt x S) (n + 1) u = m at g1 g2 g3
        obtain ⟨m1, m2, m3⟩ := m
        dsimp only at g1 g2 g3
        subst g1; subst g2; subst g3
        have := ih (nxt x S) (n + 1) u m2 m3 (by omega) hm
        rw [List.length_cons]
        omega
  have := key 600 [] 0 l l [] (by omega) (valO_zero hv).1
  omega
theorem checked_ok (l : List ApiItem) (hl : l.length < 1000000) (hd : ∀ x ∈ l, x.data.length < 100000) : cbor_checked l = some ((), (bif decide (valO l = 0) then l else []), valO l, ()) := by
  unfold cbor_checked
  rw [Validate_ok l hl hd]
  simp only [bindS]
  by_cases h : valO l = 0
  · rw [h]; rfl
  · rw [show decide (valO l = 0) = false from decide_eq_false h]; rfl
theorem gat_sub : ∀ (v : List (List ApiItem)) (o : List ApiItem), (gat o v).length ≤ (o ++ v.flatten).length ∧ ∀ x ∈ gat o v, x ∈ o ++ v.flatten
  | [], o => by simp [gat]
  | l :: r, o => by
    unfold gat
    cases decide (512 < o.length)
    · have := gat_sub r (o ++ l)
      simp only [cond_false, List.flatten_cons]
      rw [List.append_assoc] at this
      exact this
    · simp only [cond_true]
      exact ⟨by rw [List.length_append]; omega, fun x hx => List.mem_append_left _ hx⟩
theorem arr_fin {v : List (List ApiItem)} (o : List ApiItem) : (bif decide (valO (gat o v) = 0) then gat o v else []) = (bif decide (valO (o ++ v.flatten) = 0) then o ++ v.flatten else []) := by
  obtain ⟨h1, h2⟩ := gat_val v o
  rw [h1]
  rcases h2 with h2 | ⟨h2, h3⟩
  · rw [h2]
  · rw [show decide (valO (o ++ v.flatten) = 0) = false from decide_eq_false (valO_big h3)]
    rfl
def kk (keys : List (BitVec 64)) (i : Nat) : Nat := (keys.getD i 0#64).toNat
def cmpI (a b : Nat) : Int := bif decide (a < b) then -1 else bif decide (b < a) then 1 else 0
theorem cmpI_neg (a b : Nat) : decide (cmpI a b < 0) = decide (a < b) := by
  unfold cmpI
  cases h : decide (a < b)
  · cases decide (b < a) <;> rfl
  · rfl
theorem kk_get {keys : List (BitVec 64)} {i : Nat} (h : i < keys.length) : getI keys (i : Int) = some (keys.getD i 0#64) := by
  refine getI_nat ?_
  rw [List.getD_eq_getElem?_getD, List.getElem?_eq_getElem h]
  rfl
theorem Map1_ok (keys : List (BitVec 64)) (i j : Nat) (hi : i < keys.length) (hj : j < keys.length) : cbor_Map_1 (i : Int) (j : Int) keys = some ((), cmpI (kk keys i) (kk keys j), ()) := by
  unfold cbor_Map_1
  rw [kk_get hi, kk_get hj]
  simp only [bindS]
  unfold cmp_Compare_uint64 cmp_isNaN_uint64 cmpI kk
  simp only [bindS, decide_true, Bool.not_true, cond_false]
  cases decide ((keys.getD i 0#64).toNat < (keys.getD j 0#64).toNat)
  · cases decide ((keys.getD j 0#64).toNat < (keys.getD i 0#64).toNat) <;> rfl
  · rfl
abbrev ci (l : List Nat) : List Int := l.map fun n : Nat => (n : Int)
theorem ci_len (l : List Nat) : (ci l).length = l.length := List.length_map _
theorem ci_get {l : List Nat} {i n : Nat} (h : l[i]? = some n) : (ci l)[i]? = some (n : Int) := by
  rw [List.getElem?_map, h]; rfl
theorem swap_ci (A R : List Nat) (x y : Nat) : List.set (List.set (ci (A ++ y :: x :: R)) (A.length + 1) (y : Int)) A.length (x : Int) = ci (A ++ x :: y :: R) := by
  simp only [ci, List.map_append, List.map_cons]
  rw [List.set_append_right _ _ (by simp), List.set_append_right _ _ (by simp)]
  simp
theorem insL2_ok (keys : List (BitVec 64)) (n i : Nat) (A R : List Nat) (x : Nat) (hn : n ≤ 12) (hlen : (A ++ x :: R).length = n) (hk : ∀ y ∈ A ++ x :: R, y < keys.length) :
    Ok (slices_insertionSortCmpFunc_int_L2 (ci (A ++ x :: R), 0, (n : Int), (keys, ()), (i : Int), (A.length : Int), ())) fun z => ∃ A1 A2, A = A1 ++ A2 ∧ z = (ci (A1 ++ x :: (A2 ++ R)), 0, (n : Int), (keys, ()), (i : Int), ()) ∧ (∀ y ∈ A2, kk keys x < kk keys y) ∧ ∀ y, A1.getLast? = some y → kk keys y ≤ kk keys x := by
  unfold slices_insertionSortCmpFunc_int_L2
  refine Ok.iter (fun q => q.2.1 = 0 ∧ q.2.2.1 = (n : Int) ∧ q.2.2.2.1 = (keys, ()) ∧ q.2.2.2.2.1 = (i : Int) ∧ ∃ A1 A2, A = A1 ++ A2 ∧ q.1 = ci (A1 ++ x :: (A2 ++ R)) ∧ q.2.2.2.2.2.1 = (A1.length : Int) ∧ ∀ y ∈ A2, kk keys x < kk keys y) (fun q => q.2.2.2.2.2.1.toNat) ⟨rfl, rfl, rfl, rfl, A, [], by simp, by simp, rfl, by simp⟩ (by rw [rounds_eq]; dsimp only; simp at hlen; omega) ?_
  rintro ⟨q0, q1, q2, q3, q4, q5, u⟩ ⟨e1, e2, e3, e4, A1, A2, e5, e6, e7, e8⟩
  dsimp only at *
  subst e1; subst e2; subst e3; subst e4; subst e6; subst e7
  have hl2 : (A1 ++ x :: (A2 ++ R)).length = n := by rw [← hlen, e5]; simp; omega
  simp only [slices_insertionSortCmpFunc_int_L2b]
  rcases List.eq_nil_or_concat A1 with h0 | ⟨B, y, hB⟩
  · subst h0
    refine Ok.some ?_
    exact ⟨[], A2, by simpa using e5, rfl, e8, by simp⟩
  · rw [List.concat_eq_append] at hB
    subst hB
    have hy : y ∈ A ++ x :: R := by rw [e5]; simp
    have hx : x ∈ A ++ x :: R := by simp
    have el : ((B ++ [y]).length : Int) = ((B.length + 1 : Nat) : Int) := by simp
    have ew : IntKind.wrap .i64 (((B.length + 1 : Nat) : Int) - 1) = (B.length : Int) := by
      rw [wrap_id (by simp at hl2; omega) (by simp at hl2; omega)]; omega
    have ecl : ((ci (B ++ [y] ++ x :: (A2 ++ R))).length : Int) = (n : Int) := by rw [ci_len]; exact congrArg _ hl2
    have hbn : B.length + 1 < n := by simp at hl2; omega
    have g1 : (ci (B ++ [y] ++ x :: (A2 ++ R)))[B.length + 1]? = some (x : Int) := ci_get (by rw [List.getElem?_append_right (by simp)]; simp)
    have g2 : (ci (B ++ [y] ++ x :: (A2 ++ R)))[B.length]? = some (y : Int) := ci_get (by rw [List.append_assoc, List.getElem?_append_right (by simp)]; simp)
    rw [el, ew, ecl, show decide ((0 : Int) < ((B.length + 1 : Nat) : Int)) = true from decide_eq_true (by omega), two_ok (by omega) (show ((B.length + 1 : Nat) : Int) < (n : Int) by omega), two_ok (by omega) (show (B.length : Int) < (n : Int) by omega), Int.toNat_natCast, Int.toNat_natCast, g1, g2]
    simp only [cond_true, bindS]
    rw [Map1_ok keys x y (hk x hx) (hk y hy)]
    simp only [bindS]
    rw [cmpI_neg]
    by_cases hlt : kk keys x < kk keys y
    · rw [show decide (kk keys x < kk keys y) = true from decide_eq_true hlt]
      simp only [cond_true]
      have g3 : (List.set (ci (B ++ [y] ++ x :: (A2 ++ R))) (B.length + 1) (y : Int))[B.length]? = some (y : Int) := by
        rw [List.getElem?_set_ne (by omega)]; exact g2
      rw [g3]
      simp only [bindS]
      refine Ok.some ?_
      dsimp only
      refine ⟨⟨rfl, rfl, rfl, rfl, B, y :: A2, by rw [e5]; simp, ?_, rfl, ?_⟩, by omega⟩
      · rw [List.append_assoc]
        exact swap_ci B (A2 ++ R) x y
      · intro z hz
        rcases List.mem_cons.1 hz with rfl | hz
        · exact hlt
        · exact e8 z hz
    · rw [show decide (kk keys x < kk keys y) = false from decide_eq_false hlt]
      refine Ok.some ?_
      refine ⟨B ++ [y], A2, e5, rfl, e8, ?_⟩
      intro z hz
      simp at hz
      subst hz
      omega
def srt (keys : List (BitVec 64)) (l : List Nat) : Prop := l.Pairwise fun a b => kk keys a ≤ kk keys b
theorem srt_ins {keys : List (BitVec 64)} {A1 A2 : List Nat} {x : Nat} (h : srt keys (A1 ++ A2)) (h1 : ∀ y ∈ A2, kk keys x < kk keys y) (h2 : ∀ y, A1.getLast? = some y → kk keys y ≤ kk keys x) : srt keys (A1 ++ x :: A2) := by
  unfold srt at h ⊢
  rw [List.pairwise_append] at h ⊢
  obtain ⟨p1, p2, p3⟩ := h
  have hx : ∀ a ∈ A1, kk keys a ≤ kk keys x := by
    intro a ha
    rcases List.eq_nil_or_concat A1 with h0 | ⟨B, y, hB⟩
    · rw [h0] at ha; cases ha
    · rw [List.concat_eq_append] at hB
      subst hB
      have hy := h2 y (by simp)
      rcases List.mem_append.1 ha with ha | ha
      · rw [List.pairwise_append] at p1
        have := p1.2.2 a ha y (by simp)
        omega
      · simp at ha; subst ha; exact hy
  refine ⟨p1, List.pairwise_cons.2 ⟨fun y hy => Nat.le_of_lt (h1 y hy), p2⟩, ?_⟩
  intro a ha b hb
  rcases List.mem_cons.1 hb with rfl | hb
  · exact hx a ha
  · exact p3 a ha b hb
theorem ins_ok (keys : List (BitVec 64)) (L : List Nat) (hn : L.length ≤ 12) (hk : ∀ y ∈ L, y < keys.length) : Ok (slices_insertionSortCmpFunc_int (ci L) 0 (L.length : Int) (keys, ())) fun z => ∃ o, z = ((ci o, ()), ()) ∧ o.Perm L ∧ srt keys o := by
  unfold slices_insertionSortCmpFunc_int
  refine Ok.bind (Ok.mono (Q := fun z => ∃ o, z = (ci o, ()) ∧ o.Perm L ∧ srt keys o) ?_ ?_)
  · unfold slices_insertionSortCmpFunc_int_L0
    rw [show IntKind.wrap .i64 ((0 : Int) + 1) = ((1 : Nat) : Int) from rfl]
    have h0 : ∃ A R, L = A ++ R ∧ (A.length = 1 ∨ A.length = L.length ∧ L.length < 1) := by
      cases L with
      | nil => exact ⟨[], [], rfl, .inr (by simp)⟩
      | cons x r => exact ⟨[x], r, rfl, .inl rfl⟩
    refine Ok.iter (fun q => q.2.1 = 0 ∧ q.2.2.1 = (L.length : Int) ∧ q.2.2.2.1 = (keys, ()) ∧ ∃ (i : Nat) (A R : List Nat), q.2.2.2.2.1 = (i : Int) ∧ q.1 = ci (A ++ R) ∧ (A ++ R).Perm L ∧ srt keys A ∧ (A.length = i ∨ R = [] ∧ L.length < i)) (fun q => (20 - q.2.2.2.2.1).toNat) ⟨rfl, rfl, rfl, 1, ?_⟩ (by rw [rounds_eq]; dsimp only; omega) ?_
    · cases L with
      | nil => exact ⟨[], [], rfl, rfl, .refl _, List.Pairwise.nil, .inr ⟨rfl, by simp⟩⟩
      | cons x r => exact ⟨[x], r, rfl, rfl, .refl _, List.pairwise_singleton _ _, .inl rfl⟩
    rintro ⟨q0, q1, q2, q3, q4, u⟩ ⟨e1, e2, e3, i, A, R, e4, e5, e6, e7, e8⟩
    dsimp only at *
    subst e1; subst e2; subst e3; subst e4; subst e5
    have hl := e6.length_eq
    simp only [slices_insertionSortCmpFunc_int_L0b]
    by_cases hi : i < L.length
    · rw [show decide ((i : Int) < (L.length : Int)) = true from decide_eq_true (by omega)]
      have hA : A.length = i := by
        rcases e8 with h | ⟨_, h⟩
        · exact h
        · omega
      cases R with
      | nil => simp at hl; omega
      | cons x R =>
      have hm : ∀ y ∈ A ++ x :: R, y < keys.length := fun y hy => hk y (e6.mem_iff.1 hy)
      simp only [cond_true]
      have := insL2_ok keys L.length i A R x hn hl hm
      rw [hA] at this
      refine Ok.bind (Ok.mono this ?_)
      rintro _ ⟨A1, A2, f1, rfl, f2, f3⟩
      dsimp only
      rw [wrap_id (n := (i : Int) + 1) (by omega) (by omega)]
      refine Ok.some ?_
      dsimp only
      refine ⟨⟨rfl, rfl, rfl, i + 1, A1 ++ x :: A2, R, rfl, by simp, ?_, ?_, .inl ?_⟩, by omega⟩
      · refine List.Perm.trans ?_ e6
        rw [f1]
        simp only [List.append_assoc, List.cons_append]
        exact List.Perm.append_left A1 (List.perm_middle.symm)
      · rw [f1] at e7
        exact srt_ins e7 f2 f3
      · rw [← hA, f1]; simp; omega
    · rw [show decide ((i : Int) < (L.length : Int)) = false from decide_eq_false (by omega)]
      have hR : R = [] := by
        rcases e8 with h | ⟨h, _⟩
        · rw [List.length_append] at hl
          exact List.length_eq_zero_iff.1 (by omega)
        · exact h
      subst hR
      rw [List.append_nil] at e6 ⊢
      exact Ok.some ⟨A, rfl, e6, e7⟩
  · rintro _ ⟨o, rfl, h1, h2⟩
    exact Ok.some ⟨o, rfl, h1, h2⟩
theorem bitsLen (n : Nat) (h : n ≤ 12) : ∃ k, math_bits_Len (BitVec.ofInt 64 (n : Int)) = some ((), k, ()) := by
  have : n = 0 ∨ n = 1 ∨ n = 2 ∨ n = 3 ∨ n = 4 ∨ n = 5 ∨ n = 6 ∨ n = 7 ∨ n = 8 ∨ n = 9 ∨ n = 10 ∨ n = 11 ∨ n = 12 := by omega
  rcases this with rfl | rfl | rfl | rfl | rfl | rfl | rfl | rfl | rfl | rfl | rfl | rfl | rfl
  · exact ⟨0, by kernel_rfl⟩
  · exact ⟨1, by kernel_rfl⟩
  · exact ⟨2, by kernel_rfl⟩
  · exact ⟨2, by kernel_rfl⟩
  · exact ⟨3, by kernel_rfl⟩
  · exact ⟨3, by kernel_rfl⟩
  · exact ⟨3, by kernel_rfl⟩
  · exact ⟨3, by kernel_rfl⟩
  · exact ⟨4, by kernel_rfl⟩
  · exact ⟨4, by kernel_rfl⟩
  · exact ⟨4, by kernel_rfl⟩
  · exact ⟨4, by kernel_rfl⟩
  · exact ⟨4, by kernel_rfl⟩
theorem sort_ok (keys : List (BitVec 64)) (L : List Nat) (hn : L.length ≤ 12) (hk : ∀ y ∈ L, y < keys.length) : Ok (slices_SortFunc_int_int (ci L) (keys, ())) fun z => ∃ o, z = ((ci o, ()), ()) ∧ o.Perm L ∧ srt keys o := by
  unfold slices_SortFunc_int_int
  obtain ⟨k, hk2⟩ := bitsLen L.length hn
  rw [ci_len, hk2]
  simp only [bindS]
  unfold slices_pdqsortCmpFunc_int slices_pdqsortCmpFunc_int_L0
  rw [rounds_eq, show (1180591620717411303424 : Nat) = 1180591620717411303423 + 1 from rfl, iter_succ]
  dsimp only
  unfold slices_pdqsortCmpFunc_int_L0b
  rw [wrap_id (n := (L.length : Int) - 0) (by omega) (by omega), show decide ((L.length : Int) - 0 ≤ 12) = true from decide_eq_true (by omega)]
  simp only [cond_true]
  obtain ⟨_, h1, o, rfl, h2, h3⟩ := ins_ok keys L hn hk
  rw [h1]
  simp only [bindS, Sum.elim_inr]
  exact Ok.some ⟨o, rfl, h2, h3⟩
def prO (keys : List (BitVec 64)) (v : List (List ApiItem)) (o : List Nat) : List (List ApiItem) := o.map fun i => ⟨1, keys.getD i 0#64, []⟩ :: v.getD i []
def adj (keys : List (BitVec 64)) : List Nat → Bool
  | a :: b :: r => decide (kk keys a = kk keys b) || adj keys (b :: r)
  | _ => false
theorem key_eq (keys : List (BitVec 64)) (i j : Nat) : decide (keys.getD i 0#64 = keys.getD j 0#64) = decide (kk keys i = kk keys j) := by
  rw [decide_eq_decide]
  exact ⟨fun h => by unfold kk; rw [h], fun h => BitVec.eq_of_toNat_eq h⟩
def mapO (keys : List (BitVec 64)) (v : List (List ApiItem)) (o : List Nat) : List ApiItem × Int :=
  bif adj keys o then ([], 10) else bif !decide (fau v = 0) then ([], fau v) else
  bif decide (valO (⟨6, BitVec.ofInt 64 (keys.length : Int), []⟩ :: (prO keys v o).flatten) = 0) then (⟨6, BitVec.ofInt 64 (keys.length : Int), []⟩ :: (prO keys v o).flatten, 0) else ([], valO (⟨6, BitVec.ofInt 64 (keys.length : Int), []⟩ :: (prO keys v o).flatten))
theorem light1_get {v : List (List ApiItem)} (h : light1 v) (i : Nat) : (v.getD i []).length ≤ 600 ∧ ∀ x ∈ v.getD i [], x.data.length < 100000 := by
  rw [List.getD_eq_getElem?_getD]
  cases hi : v[i]? with
  | none => simp
  | some l => exact h l (List.mem_of_getElem? hi)
theorem prO_light {keys : List (BitVec 64)} {v : List (List ApiItem)} (h : light1 v) : ∀ o : List Nat, (prO keys v o).flatten.length ≤ o.length * 601 ∧ ∀ x ∈ (prO keys v o).flatten, x.data.length < 100000
  | [] => by simp [prO]
  | i :: r => by
    obtain ⟨i1, i2⟩ := prO_light (keys := keys) h r
    obtain ⟨l1, l2⟩ := light1_get h i
    unfold prO at *
    refine ⟨?_, ?_⟩
    · simp only [List.map_cons, List.flatten_cons, List.length_append, List.length_cons, Nat.add_mul]
      omega
    · intro x hx
      simp only [List.map_cons, List.flatten_cons, List.cons_append, List.mem_cons, List.mem_append] at hx
      rcases hx with rfl | hx | hx
      · simp
      · exact l2 x hx
      · exact i2 x hx
theorem getD_get {v : List (List ApiItem)} {i : Nat} (h : i < v.length) : getI v (i : Int) = some (v.getD i []) := by
  refine getI_nat ?_
  rw [List.getD_eq_getElem?_getD, List.getElem?_eq_getElem h]
  rfl
theorem range_lt {n : Nat} {o : List Nat} (h : o.Perm (List.range n)) : ∀ i ∈ o, i < n := fun i hi => List.mem_range.1 (h.mem_iff.1 hi)
theorem Map_ok (keys : List (BitVec 64)) (v : List (List ApiItem)) (hk : keys.length ≤ 12) (hl : keys.length = v.length) (hv : light1 v) : ∃ o : List Nat, o.Perm (List.range keys.length) ∧ srt keys o ∧ cbor_Map keys v = some ((), (mapO keys v o).1, (mapO keys v o).2, ()) := by
  unfold cbor_Map
  rw [show decide ((keys.length : Int) = (v.length : Int)) = true from decide_eq_true (by omega), show (decide ((0 : Int) ≤ (keys.length : Int)) && (decide ((keys.length : Int) ≤ (keys.length : Int)) && decide ((8 : Int) * (keys.length : Int) ≤ 281474976710656 ∧ (keys.length : Int) ≤ 9223372036854775807))) = true by simp; omega]
  simp only [Bool.not_true, cond_false, cond_true, Int.toNat_natCast]
  -- the indices
  have e0 : cbor_Map_L0 (v, keys, List.replicate keys.length (0 : Int), (keys.length : Int), 0, ()) = some (v, keys, ci (List.range keys.length), ()) := by
    obtain ⟨z, h1, h2⟩ : Ok (cbor_Map_L0 (v, keys, List.replicate keys.length (0 : Int), (keys.length : Int), 0, ())) fun z => z = (v, keys, ci (List.range keys.length), ()) := by
      unfold cbor_Map_L0
      refine Ok.iter (fun q => q.1 = v ∧ q.2.1 = keys ∧ q.2.2.2.1 = (keys.length : Int) ∧ ∃ i : Nat, i ≤ keys.length ∧ q.2.2.2.2.1 = (i : Int) ∧ q.2.2.1 = ci (List.range i) ++ List.replicate (keys.length - i) 0) (fun q => (keys.length - q.2.2.2.2.1).toNat) ⟨rfl, rfl, rfl, 0, by omega, rfl, by simp⟩ (by rw [rounds_eq]; dsimp only; omega) ?_
      rintro ⟨q0, q1, q2, q3, q4, u⟩ ⟨e1, e2, e3, i, hi, e4, e5⟩
      dsimp only at *
      subst e1; subst e2; subst e3; subst e4; subst e5
      simp only [cbor_Map_L0b]
      by_cases h : i < q1.length
      · have hlen : (ci (List.range i) ++ List.replicate (q1.length - i) (0 : Int)).length = q1.length := by simp; omega
        rw [hlen, two_ok (by omega) (show (i : Int) < (q1.length : Int) by omega), show decide ((i : Int) < (q1.length : Int)) = true from decide_eq_true (by omega), Int.toNat_natCast, List.getElem?_eq_getElem (show i < (ci (List.range i) ++ List.replicate (q1.length - i) (0 : Int)).length by omega), wrap_id (n := (i : Int) + 1) (by omega) (by omega)]
        simp only [cond_true, bindS]
        refine Ok.some ?_
        dsimp only
        refine ⟨⟨rfl, rfl, rfl, i + 1, by omega, rfl, ?_⟩, by omega⟩
        rw [List.set_append_right _ _ (by simp), show q1.length - i = (q1.length - (i + 1)) + 1 by omega, List.replicate_succ, List.range_succ]
        simp [ci]
      · rw [show decide ((i : Int) < (q1.length : Int)) = false from decide_eq_false (by omega)]
        have : i = q1.length := by omega
        subst this
        refine Ok.some ?_
        simp
    rw [h1, h2]
  rw [e0]
  simp only [bindS]
  obtain ⟨_, hs1, o, rfl, hs2, hs3⟩ := sort_ok keys (List.range keys.length) (by simpa using hk) (fun y hy => List.mem_range.1 hy)
  rw [hs1]
  simp only [bindS]
  have hol : o.length = keys.length := by rw [hs2.length_eq, List.length_range]
  have hor := range_lt hs2
  refine ⟨o, hs2, hs3, ?_⟩
  -- duplicates
  have e2 : ∀ (r : List Nat) (a : Nat) (j f : Nat), o.drop j = a :: r → r.length < f → iter (fun (y : ((List (List ApiItem)) × (List (BitVec 64)) × (List (Int)) × Int × Unit)) => cbor_Map_L2b y.1 y.2.1 y.2.2.1 y.2.2.2.1) f (v, keys, ci o, ((j + 1 : Nat) : Int), ()) = some (bif adj keys (a :: r) then .inl ([], 10, ()) else .inr (v, keys, ci o, ())) := by
    intro r
    induction r with
    | nil =>
      intro a j f hr hf
      obtain ⟨f, rfl⟩ : ∃ g, f = g + 1 := ⟨f - 1, by omega⟩
      obtain ⟨d1, d2, d3, d4⟩ := drop_cons hr
      rw [iter_succ]
      dsimp only
      unfold cbor_Map_L2b
      rw [ci_len, show decide (((j + 1 : Nat) : Int) < (o.length : Int)) = false from decide_eq_false (by simp at d4; omega)]
      rfl
    | cons b r ih =>
      intro a j f hr hf
      obtain ⟨f, rfl⟩ : ∃ g, f = g + 1 := ⟨f - 1, by omega⟩
      obtain ⟨d1, d2, d3, d4⟩ := drop_cons hr
      obtain ⟨b1, b2, b3, b4⟩ := drop_cons d2
      have ha := hor a (List.mem_of_getElem? d1)
      have hb := hor b (List.mem_of_getElem? b1)
      have e1 : cbor_Map_L2b v keys (ci o) ((j + 1 : Nat) : Int) = bif decide (kk keys a = kk keys b) then some (Sum.inr (Sum.inl ([], 10, ()))) else some (Sum.inl (v, keys, ci o, ((j + 1 + 1 : Nat) : Int), ())) := by
        unfold cbor_Map_L2b
        rw [ci_len, wrap_id (n := ((j + 1 : Nat) : Int) - 1) (by omega) (by omega), show ((j + 1 : Nat) : Int) - 1 = (j : Int) by omega, two_ok (by omega) (show (j : Int) < (o.length : Int) by omega), two_ok (by omega) (show ((j + 1 : Nat) : Int) < (o.length : Int) by omega), show decide (((j + 1 : Nat) : Int) < (o.length : Int)) = true from decide_eq_true (by omega), Int.toNat_natCast, Int.toNat_natCast, ci_get d1, ci_get b1, wrap_id (n := ((j + 1 : Nat) : Int) + 1) (by omega) (by omega)]
        simp only [cond_true, bindS]
        rw [kk_get ha, kk_get hb]
        simp only [bindS]
        rw [key_eq]
        rfl
      rw [iter_succ]
      dsimp only
      rw [e1]
      unfold adj
      cases hq : decide (kk keys a = kk keys b)
      · simp only [cond_false, bindS, Sum.elim_inl, Bool.false_or]
        exact ih b (j + 1) f d2 (by simp at hf; omega)
      · rfl
  have e3 : cbor_Map_L2 (v, keys, ci o, 1, ()) = some (bif adj keys o then .inl ([], 10, ()) else .inr (v, keys, ci o, ())) := by
    unfold cbor_Map_L2
    cases ho : o with
    | nil =>
      rw [rounds_eq, show (1180591620717411303424 : Nat) = 1180591620717411303423 + 1 from rfl, iter_succ]
      rfl
    | cons a r =>
      have := e2 r a 0 rounds (by rw [ho]; rfl) (by rw [rounds_eq]; rw [ho] at hol; simp at hol; omega)
      rw [ho] at this
      exact this
  rw [e3]
  unfold mapO
  cases hadj : adj keys o
  · simp only [cond_false, bindS, Sum.elim_inr]
    rw [faulty_ok v hv (by omega)]
    simp only [bindS]
    by_cases h0 : fau v = 0
    · rw [show decide (fau v = 0) = true from decide_eq_true h0]
      simp only [Bool.not_true, cond_false]
      -- the collecting
      have e4 : ∀ (r : List Nat) (j f : Nat) (out : List ApiItem), o.drop j = r → r.length < f → out.length ≤ j * 601 + 1 → iter (fun (y : ((List (List ApiItem)) × (List (BitVec 64)) × (List (ApiItem)) × (List (Int)) × Int × Int × Unit)) => cbor_Map_L4b y.1 y.2.1 y.2.2.1 y.2.2.2.1 y.2.2.2.2.1 y.2.2.2.2.2.1) f (v, keys, out, ci o, (o.length : Int), (j : Int), ()) = some (gat out (prO keys v r), ()) := by
        intro r
        induction r with
        | nil =>
          intro j f out hr hf ho
          obtain ⟨f, rfl⟩ : ∃ g, f = g + 1 := ⟨f - 1, by omega⟩
          have hjl : o.length ≤ j := by
            have := congrArg List.length hr
            simp at this
            omega
          rw [iter_succ]
          dsimp only
          unfold cbor_Map_L4b
          rw [show decide ((j : Int) < (o.length : Int)) = false from decide_eq_false (by omega)]
          rfl
        | cons b r ih =>
          intro j f out hr hf ho
          obtain ⟨f, rfl⟩ : ∃ g, f = g + 1 := ⟨f - 1, by omega⟩
          obtain ⟨d1, d2, d3, d4⟩ := drop_cons hr
          have hb := hor b (List.mem_of_getElem? d1)
          obtain ⟨l1, _⟩ := light1_get hv b
          have e1 : cbor_Map_L4b v keys out (ci o) (o.length : Int) (j : Int) = bif decide (512 < out.length) then some (Sum.inr (out, ())) else some (Sum.inl (v, keys, out ++ (⟨1, keys.getD b 0#64, []⟩ :: v.getD b []), ci o, (o.length : Int), ((j + 1 : Nat) : Int), ())) := by
            unfold cbor_Map_L4b
            rw [ci_len, two_ok (by omega) (show (j : Int) < (o.length : Int) by omega), show decide ((j : Int) < (o.length : Int)) = true from decide_eq_true (by omega), Int.toNat_natCast, ci_get d1, wrap_id (n := (j : Int) + 1) (by omega) (by omega)]
            simp only [cond_true, bindS]
            rw [show decide ((512 : Int) < (out.length : Int)) = decide (512 < out.length) by rw [decide_eq_decide]; omega]
            cases decide (512 < out.length)
            · simp only [cond_false]
              rw [kk_get hb]
              simp only [bindS, cbor_Uint]
              rw [small32 (by simp only [List.length_cons, List.length_nil]; omega), getD_get (show b < v.length by omega)]
              simp only [cond_true, bindS]
              rw [small32 (by simp only [List.length_append, List.length_cons, List.length_nil]; omega)]
              simp
            · rfl
          rw [iter_succ]
          dsimp only
          rw [e1]
          have hpr : prO keys v (b :: r) = (⟨1, keys.getD b 0#64, []⟩ :: v.getD b []) :: prO keys v r := rfl
          rw [hpr]
          unfold gat
          cases decide (512 < out.length)
          · exact ih (j + 1) f (out ++ (⟨1, keys.getD b 0#64, []⟩ :: v.getD b [])) d2 (by simp at hf; omega) (by rw [List.length_append, List.length_cons, Nat.add_mul]; omega)
          · rfl
      have e5 := e4 o 0 rounds [⟨6, BitVec.ofInt 64 (keys.length : Int), []⟩] rfl (by rw [rounds_eq]; omega) (by simp)
      have e6 : cbor_Map_L4 (v, keys, [⟨6, BitVec.ofInt 64 (keys.length : Int), []⟩], ci o, ((ci o).length : Int), 0, ()) = some (gat [⟨6, BitVec.ofInt 64 (keys.length : Int), []⟩] (prO keys v o), ()) := by
        rw [ci_len]
        exact e5
      rw [e6]
      simp only [bindS]
      obtain ⟨l1, l2⟩ := prO_light (keys := keys) hv o
      obtain ⟨s1, s2⟩ := gat_sub (prO keys v o) [⟨6, BitVec.ofInt 64 (keys.length : Int), []⟩]
      rw [checked_ok _ (by rw [List.length_append, List.length_singleton] at s1; omega) (fun x hx => by
        rcases List.mem_append.1 (s2 x hx) with hx | hx
        · simp at hx; subst hx; simp
        · exact l2 x hx)]
      simp only [bindS]
      rw [arr_fin, (gat_val (prO keys v o) _).1, List.singleton_append]
      by_cases h1 : valO (⟨6, BitVec.ofInt 64 (keys.length : Int), []⟩ :: (prO keys v o).flatten) = 0
      · rw [h1]; rfl
      · rw [show decide (valO (⟨6, BitVec.ofInt 64 (keys.length : Int), []⟩ :: (prO keys v o).flatten) = 0) = false from decide_eq_false h1]; rfl
    · rw [show decide (fau v = 0) = false from decide_eq_false h0]
      rfl
  · rfl
end Go.Proofs.YtghfcfjnfgmkgaaGreatDoor

/- cbor: Lookup; the law CborLookups, plainly. The list of numbers takes at most 2^47 - 4096 bytes. -/
import Derived.Test.YtjedfmknnkimmaaDoorCborL
set_option linter.unusedVariables false
set_option linter.unusedSimpArgs false
set_option maxRecDepth 100000
namespace Go.Proofs.YtjedfmknnkimmaaDoor
open Go Go.Abs
inductive PairsAt : Nat → List ApiItem → List ApiItem → List (ApiItem × List ApiItem) → Prop
  | nil (t : List ApiItem) : PairsAt 0 t t []
  | cons {k : Nat} {x : ApiItem} {v r t : List ApiItem} {ps : List (ApiItem × List ApiItem)} (hx : isN x.kind = false) (hv : ∀ m, skp (v ++ r) (m + 1) = (skp r m).map (· + v.length)) (h0 : v ≠ []) (h : PairsAt k r t ps) : PairsAt (k + 1) (x :: (v ++ r)) t ((x, v) :: ps)
theorem W_one {f : Nat} {s : List ApiItem} {n d : Nat} {b : List UInt8} (h : (W getL f s n d true b).1 = 0) : ∃ x, (W getL f s n d true b).2.1 = [x] ∧ isN x.kind = false ∧ chk x n d true b = 0 := by
  cases f with
  | zero => simp [W] at h
  | succ f =>
    unfold W at h ⊢
    dsimp only at h ⊢
    rcases hg : getL n d true b s with ⟨e, x, t⟩
    rw [hg] at h
    dsimp only at h ⊢
    by_cases he : e = 0
    · subst he
      obtain ⟨_, hc⟩ := getL_zero hg
      have hk := (adm_zero (chk_zero hc).1).2.2.2.1 rfl
      have h5 : ¬ x.kind = 5 := fun h => by rw [h] at hk; cases hk
      have h6 : ¬ x.kind = 6 := fun h => by rw [h] at hk; cases hk
      refine ⟨x, ?_, ?_, hc⟩
      · simp [h5, h6]
      · simp [isN, h5, h6]
    · rw [show decide (e = 0) = false from decide_eq_false he] at h
      exact absurd h he
theorem LM_pairs (f d : Nat) : ∀ (k : Nat) (s : List ApiItem) (n : Nat) (l : List UInt8), (LM (fun s n last => W getL f s n (d + 1) true last) (fun s n => W getL f s n (d + 1) false []) k s n l).1 = 0 → ∃ ps, PairsAt k s (LM (fun s n last => W getL f s n (d + 1) true last) (fun s n => W getL f s n (d + 1) false []) k s n l).2.2 ps
  | 0, s, n, l, h => ⟨_, PairsAt.nil _⟩
  | k + 1, s, n, l, h => by
    have ih := LM_pairs f d k
    unfold LM at h ⊢
    dsimp only at h ⊢
    have hw1 := W_one (f := f) (s := s) (n := n) (d := d + 1) (b := l)
    have hwl := W_list f s n (d + 1) true l
    generalize W getL f s n (d + 1) true l = w at h hw1 hwl ⊢
    by_cases hw : w.1 = 0
    · rw [show decide (w.1 = 0) = true from decide_eq_true hw] at h ⊢
      simp only [cond_true] at h ⊢
      obtain ⟨x, hx, hN, _⟩ := hw1 hw
      have hs := hwl hw
      have hvl := W_list f w.2.2 (n + w.2.1.length) (d + 1) false []
      have hvs := W_skp f w.2.2 (n + w.2.1.length) (d + 1) false []
      have hvn := W_ne (get := getL) (f := f) (s := w.2.2) (n := n + w.2.1.length) (d := d + 1) (key := false) (b := [])
      generalize W getL f w.2.2 (n + w.2.1.length) (d + 1) false [] = v at h hvl hvs hvn ⊢
      by_cases hv : v.1 = 0
      · rw [show decide (v.1 = 0) = true from decide_eq_true hv] at h ⊢
        simp only [cond_true] at h ⊢
        obtain ⟨ps, hp⟩ := ih _ _ _ h
        have e1 := hvl hv
        have e2 := hvs hv
        obtain ⟨y, r, hy⟩ := hvn hv
        rw [e1] at e2
        refine ⟨(x, v.2.1) :: ps, ?_⟩
        have es : s = x :: (v.2.1 ++ v.2.2) := by rw [hs, hx, ← e1]; rfl
        rw [es]
        exact PairsAt.cons hN e2 (by rw [hy]; simp) hp
      · rw [show decide (v.1 = 0) = false from decide_eq_false hv] at h
        exact absurd h hv
    · rw [show decide (w.1 = 0) = false from decide_eq_false hw] at h
      exact absurd h hw
theorem valO_W {l : List ApiItem} (h : valO l = 0) : W getL 12 l 0 0 false [] = (0, l, []) := by
  obtain ⟨m1, m2⟩ := W_mach getL_ok 12 (by omega) l
  have hm := (valO_zero h).1
  by_cases hw : (W getL 12 l 0 0 false []).1 = 0
  · rw [← m2 hw, hm]
  · have := m1 hw
    rw [hm] at this
    exact absurd this.symm hw
theorem valO_ne {l : List ApiItem} (h : valO l = 0) : l ≠ [] := by
  intro e
  have := valO_W h
  subst e
  simp [W, getL] at this
theorem valO_map {x : ApiItem} {l : List ApiItem} (h : valO (x :: l) = 0) (h6 : x.kind = 6) : x.number.toNat ≤ 512 ∧ ∃ ps, PairsAt x.number.toNat l [] ps := by
  have hw := valO_W h
  unfold W at hw
  by_cases hc : chk x 0 0 false [] = 0
  · have hn := (big_false (chk_zero hc).2.2.1).2 (by simp [isN, h6])
    simp only [getL, hc, h6, decide_true, decide_false, cond_true, cond_false, Int.reduceEq, Prod.mk.injEq] at hw
    obtain ⟨w1, _, w3⟩ := hw
    obtain ⟨ps, hp⟩ := LM_pairs 11 0 x.number.toNat l 1 [] w1
    rw [w3] at hp
    exact ⟨hn, ps, hp⟩
  · simp only [getL, hc, decide_false, cond_false, Prod.mk.injEq] at hw
    exact hw.1.elim
def lkP (key : BitVec 64) : List (ApiItem × List ApiItem) → List ApiItem × Bool
  | [] => ([], false)
  | p :: r => bif decide (p.1.kind = 1) && decide (p.1.number = key) then (p.2, true) else lkP key r
theorem PairsAt.len {k : Nat} {s t : List ApiItem} {ps : List (ApiItem × List ApiItem)} (h : PairsAt k s t ps) : ps.length = k := by
  induction h with
  | nil => rfl
  | cons _ _ _ _ ih => simp [ih]
theorem skO_of {l : List ApiItem} {a : Nat} {v r : List ApiItem} (h : l.drop a = v ++ r) (hv : ∀ m, skp (v ++ r) (m + 1) = (skp r m).map (· + v.length)) (h0 : v ≠ []) : skO l (a : Int) = (((a + v.length : Nat) : Int), true) := by
  have h1 : 0 < v.length := List.length_pos_iff.2 h0
  have hl := congrArg List.length h
  rw [List.length_drop, List.length_append] at hl
  have h2 := hv 0
  rw [skp_zero, Nat.zero_add] at h2
  unfold skO
  rw [show decide ((a : Int) < 0) = false from decide_eq_false (by omega), show decide ((l.length : Int) ≤ (a : Int)) = false from decide_eq_false (by omega), Int.toNat_natCast, h, h2]
  simp
theorem skO_key {l : List ApiItem} {a : Nat} {x : ApiItem} {s : List ApiItem} (h : l.drop a = x :: s) (hx : isN x.kind = false) : skO l (a : Int) = (((a + 1 : Nat) : Int), true) := by
  have hl := congrArg List.length h
  rw [List.length_drop, List.length_cons] at hl
  unfold skO
  rw [show decide ((a : Int) < 0) = false from decide_eq_false (by omega), show decide ((l.length : Int) ≤ (a : Int)) = false from decide_eq_false (by omega), Int.toNat_natCast, h]
  have ha : addI x = 0 := by
    unfold isN at hx
    simp only [Bool.or_eq_false_iff, decide_eq_false_iff_not] at hx
    unfold addI
    simp [hx.1, hx.2]
  simp only [skp, hx, Bool.false_and, cond_false, ha, Nat.add_zero, skp_zero]
  simp
def LkR (key : BitVec 64) (ps : List (ApiItem × List ApiItem)) (z : (List ApiItem × Bool × Unit) ⊕ Unit) : Prop := (Sum.elim (fun (z9 : ((List (ApiItem)) × Bool × Unit)) => (some ((), (z9.1, z9.2.1, ())) : Option (Unit × (List ApiItem × Bool × Unit)))) (fun (z10 : (Unit)) => (some ((), ([], false, ())))) z) = some ((), (lkP key ps).1, (lkP key ps).2, ())
theorem slice_eq {l v r : List ApiItem} {a : Nat} (h : l.drop a = v ++ r) : List.drop a (List.take (a + v.length) l) = v := by
  rw [List.drop_take, h, show a + v.length - a = v.length by omega]
  simp
theorem LookL_ok (l : List ApiItem) (hl : l.length < 1000000) (key : BitVec 64) (N : BitVec 64) (hN : N.toNat ≤ 512) : ∀ (k i a f : Nat) (s : List ApiItem) (ps : List (ApiItem × List ApiItem)), PairsAt k s [] ps → i + k = N.toNat → l.drop a = s → a ≤ l.length → k < f →
    ∃ z, iter (fun (y : ((List (ApiItem)) × (BitVec 64) × Int × (BitVec 64) × (BitVec 64) × Unit)) => cbor_Lookup_L0b y.1 y.2.1 y.2.2.1 y.2.2.2.1 y.2.2.2.2.1) f (l, key, (a : Int), N, BitVec.ofNat 64 i, ()) = some z ∧ LkR key ps z := by
  intro k
  induction k with
  | zero =>
    intro i a f s ps hp hi hs ha hf
    obtain ⟨f, rfl⟩ : ∃ g, f = g + 1 := ⟨f - 1, by omega⟩
    rw [iter_succ]
    have hps : ps = [] := List.length_eq_zero_iff.1 hp.len
    subst hps
    refine ⟨.inr (), ?_, rfl⟩
    dsimp only
    unfold cbor_Lookup_L0b
    rw [bvn i (by omega), show decide (i < N.toNat) = false from decide_eq_false (by omega)]
    rfl
  | succ k ih =>
    intro i a f s ps hp hi hs ha hf
    obtain ⟨f, rfl⟩ : ∃ g, f = g + 1 := ⟨f - 1, by omega⟩
    cases hp with
    | @cons _ x v r _ ps hx hv h0 hp =>
    have hd1 : l[a]? = some x := by
      have := congrArg (·[0]?) hs
      simpa using this
    have hd2 : l.drop (a + 1) = v ++ r := by
      have := congrArg (List.drop 1) hs
      simpa [List.drop_drop] using this
    have hlen := congrArg List.length hd2
    rw [List.length_drop, List.length_append] at hlen
    have hv1 : 0 < v.length := List.length_pos_iff.2 h0
    have hd3 : l.drop (a + 1 + v.length) = r := by
      rw [← List.drop_drop, hd2]; simp
    have e1 : cbor_Lookup_L0b l key (a : Int) N (BitVec.ofNat 64 i) = bif decide (x.kind = 1) && decide (x.number = key) then some (Sum.inr (Sum.inl (v, true, ()))) else some (Sum.inl (l, key, ((a + 1 + v.length : Nat) : Int), N, BitVec.ofNat 64 (i + 1), ())) := by
      unfold cbor_Lookup_L0b
      rw [bvn i (by omega), show decide (i < N.toNat) = true from decide_eq_true (by omega), wrap_id (n := (a : Int) + 1) (by omega) (by omega), show (a : Int) + 1 = ((a + 1 : Nat) : Int) from rfl, Skip_ok l _ hl, skO_of hd2 hv h0, bvs i (by omega), getI_nat hd1]
      simp only [cond_true, bindS, Bool.not_true, cond_false]
      cases h1 : decide (x.kind = 1)
      · simp only [Bool.false_and, cond_false]
      · simp only [Bool.true_and, cond_true]
        cases h2 : decide (x.number = key)
        · simp only [cond_false]
        · simp only [cond_true, Int.toNat_natCast]
          rw [show (decide ((0 : Int) ≤ ((a + 1 + v.length : Nat) : Int)) && decide (((a + 1 + v.length : Nat) : Int) ≤ (l.length : Int))) = true by (rw [Bool.and_eq_true, decide_eq_true_eq, decide_eq_true_eq]; exact ⟨by omega, by omega⟩), show (decide ((0 : Int) ≤ ((a + 1 : Nat) : Int)) && decide (((a + 1 : Nat) : Int) ≤ ((a + 1 + v.length : Nat) : Int))) = true by (rw [Bool.and_eq_true, decide_eq_true_eq, decide_eq_true_eq]; exact ⟨by omega, by omega⟩), slice_eq hd2]
          simp only [cond_true]
          unfold slices_Clone
          rw [show decide (v.length ≤ 1000000) = true from decide_eq_true (by omega)]
          rfl
    rw [iter_succ]
    dsimp only
    rw [e1]
    cases hm : (decide (x.kind = 1) && decide (x.number = key))
    · simp only [cond_false, bindS, Sum.elim_inl]
      obtain ⟨z, z1, z2⟩ := ih (i + 1) (a + 1 + v.length) f r ps hp (by omega) hd3 (by omega) (by omega)
      refine ⟨z, z1, ?_⟩
      unfold LkR lkP
      rw [hm]
      exact z2
    · refine ⟨_, rfl, ?_⟩
      unfold LkR lkP
      rw [hm]
      rfl
theorem rLookL_ok (l : List ApiItem) (hl : l.length < 1000000) (key : BitVec 64) (x0 : ApiItem) (h00 : l[0]? = some x0) (hN : x0.number.toNat ≤ 512) : ∀ (k i a f : Nat) (s : List ApiItem) (ps : List (ApiItem × List ApiItem)), PairsAt k s [] ps → i + k = x0.number.toNat → l.drop a = s → a ≤ l.length → k < f →
    ∃ z, iter (fun (y : ((List (ApiItem)) × (BitVec 64) × Int × (BitVec 64) × Unit)) => passkeyref1_Lookup_L0b y.1 y.2.1 y.2.2.1 y.2.2.2.1) f (l, key, (a : Int), BitVec.ofNat 64 i, ()) = some z ∧ LkR key ps z := by
  have eg0 : getI l (0 : Int) = some x0 := getI_nat (i := 0) h00
  intro k
  induction k with
  | zero =>
    intro i a f s ps hp hi hs ha hf
    obtain ⟨f, rfl⟩ : ∃ g, f = g + 1 := ⟨f - 1, by omega⟩
    rw [iter_succ]
    have hps : ps = [] := List.length_eq_zero_iff.1 hp.len
    subst hps
    refine ⟨.inr (), ?_, rfl⟩
    dsimp only
    unfold passkeyref1_Lookup_L0b
    rw [eg0, bindS, bvn i (by omega), show decide (i < x0.number.toNat) = false from decide_eq_false (by omega)]
    rfl
  | succ k ih =>
    intro i a f s ps hp hi hs ha hf
    obtain ⟨f, rfl⟩ : ∃ g, f = g + 1 := ⟨f - 1, by omega⟩
    cases hp with
    | @cons _ x v r _ ps hx hv h0 hp =>
    have hd1 : l[a]? = some x := by
      have := congrArg (·[0]?) hs
      simpa using this
    have hd2 : l.drop (a + 1) = v ++ r := by
      have := congrArg (List.drop 1) hs
      simpa [List.drop_drop] using this
    have hlen := congrArg List.length hd2
    rw [List.length_drop, List.length_append] at hlen
    have hv1 : 0 < v.length := List.length_pos_iff.2 h0
    have hd3 : l.drop (a + 1 + v.length) = r := by
      rw [← List.drop_drop, hd2]; simp
    have e1 : passkeyref1_Lookup_L0b l key (a : Int) (BitVec.ofNat 64 i) = bif decide (x.kind = 1) && decide (x.number = key) then some (Sum.inr (Sum.inl (v, true, ()))) else some (Sum.inl (l, key, ((a + 1 + v.length : Nat) : Int), BitVec.ofNat 64 (i + 1), ())) := by
      unfold passkeyref1_Lookup_L0b
      rw [eg0, bindS, bvn i (by omega), show decide (i < x0.number.toNat) = true from decide_eq_true (by omega), rSkip_ok l _ hl, skO_key hs hx, bvs i (by omega), getI_nat hd1]
      simp only [cond_true, bindS]
      rw [rSkip_ok l _ hl, skO_of hd2 hv h0]
      simp only [cond_true, bindS]
      cases h1 : decide (x.kind = 1)
      · simp only [Bool.false_and, cond_false]
      · simp only [Bool.true_and, cond_true]
        cases h2 : decide (x.number = key)
        · simp only [cond_false]
        · simp only [cond_true, Int.toNat_natCast]
          rw [show (decide ((0 : Int) ≤ ((a + 1 + v.length : Nat) : Int)) && decide (((a + 1 + v.length : Nat) : Int) ≤ (l.length : Int))) = true by (rw [Bool.and_eq_true, decide_eq_true_eq, decide_eq_true_eq]; exact ⟨by omega, by omega⟩), show (decide ((0 : Int) ≤ ((a + 1 : Nat) : Int)) && decide (((a + 1 : Nat) : Int) ≤ ((a + 1 + v.length : Nat) : Int))) = true by (rw [Bool.and_eq_true, decide_eq_true_eq, decide_eq_true_eq]; exact ⟨by omega, by omega⟩), slice_eq hd2]
          simp only [cond_true]
          rw [small32 (by omega)]
          rfl
    rw [iter_succ]
    dsimp only
    rw [e1]
    cases hm : (decide (x.kind = 1) && decide (x.number = key))
    · simp only [cond_false, bindS, Sum.elim_inl]
      obtain ⟨z, z1, z2⟩ := ih (i + 1) (a + 1 + v.length) f r ps hp (by omega) hd3 (by omega) (by omega)
      refine ⟨z, z1, ?_⟩
      unfold LkR lkP
      rw [hm]
      exact z2
    · refine ⟨_, rfl, ?_⟩
      unfold LkR lkP
      rw [hm]
      rfl
theorem Lookup_both (l : List ApiItem) (key : BitVec 64) (hl : l.length < 1000000) (hd : ∀ x ∈ l, x.data.length < 100000) : ∃ v b, cbor_Lookup l key = some ((), v, b, ()) ∧ passkeyref1_Lookup l key = some ((), v, b, ()) ∧ v.length < 1000000 ∧ (∀ (x : ApiItem) (r : List ApiItem), l = x :: r → x.kind = 6 → valO l = 0 → ∀ ps, PairsAt x.number.toNat r [] ps → (v, b) = lkP key ps) := by
  unfold cbor_Lookup passkeyref1_Lookup
  rw [Validate_ok l hl hd, rValidate_ok l hl hd]
  simp only [bindS]
  by_cases hv : valO l = 0
  · rw [show decide (valO l = 0) = true from decide_eq_true hv]
    simp only [Bool.not_true, cond_false]
    cases hl0 : l with
    | nil => exact absurd hl0 (valO_ne hv)
    | cons x r =>
      have eg0 : getI (x :: r) (0 : Int) = some x := rfl
      rw [eg0]
      simp only [bindS]
      by_cases h6 : x.kind = 6
      · rw [show decide (x.kind = 6) = true from decide_eq_true h6]
        simp only [Bool.not_true, cond_false]
        rw [hl0] at hv hl
        obtain ⟨hn, ps, hp⟩ := valO_map hv h6
        have hle : 1 ≤ (x :: r).length := by simp
        obtain ⟨z, z1, z2⟩ := LookL_ok (x :: r) hl key x.number hn x.number.toNat 0 1 rounds r ps hp (by omega) rfl hle (by rw [rounds_eq]; omega)
        obtain ⟨y, y1, y2⟩ := rLookL_ok (x :: r) hl key x rfl hn x.number.toNat 0 1 rounds r ps hp (by omega) rfl hle (by rw [rounds_eq]; omega)
        have z1' : cbor_Lookup_L0 (x :: r, key, 1, x.number, 0#64, ()) = some z := z1
        have y1' : passkeyref1_Lookup_L0 (x :: r, key, 1, 0#64, ()) = some y := y1
        rw [z1', y1']
        simp only [bindS]
        refine ⟨(lkP key ps).1, (lkP key ps).2, z2, y2, ?_, ?_⟩
        · have : ∀ (k : Nat) (s t : List ApiItem) (ps : List (ApiItem × List ApiItem)), PairsAt k s t ps → (lkP key ps).1.length ≤ s.length := by
            intro k s t ps h
            induction h with
            | nil => simp [lkP]
            | @cons k x v r t ps hx hv h0 h ih =>
              unfold lkP
              cases (decide ((x, v).1.kind = 1) && decide ((x, v).1.number = key))
              · simp only [cond_false, List.length_cons, List.length_append]; omega
              · simp only [cond_true, List.length_cons, List.length_append]; omega
          have h1 := this _ _ _ _ hp
          simp only [List.length_cons] at hl
          omega
        · intro x2 r2 e _ _ ps2 hp2
          have huniq : ∀ (k : Nat) (s t : List ApiItem) (ps ps2 : List (ApiItem × List ApiItem)), PairsAt k s t ps → PairsAt k s t ps2 → ps = ps2 := by
            intro k s t ps ps2 h
            induction h generalizing ps2 with
            | nil => intro h2; cases h2; rfl
            | @cons k x v r t ps hx hv h0 h ih =>
              intro h2
              generalize hs : x :: (v ++ r) = s at h2
              cases h2 with
              | @cons _ x' v' r' _ ps' hx' hv' h0' h' =>
              obtain ⟨rfl, e2⟩ := List.cons.inj hs
              have e3 := hv 0
              have e4 := hv' 0
              rw [skp_zero] at e3 e4
              rw [e2] at e3
              rw [e3] at e4
              have e5 : v.length = v'.length := by simpa using e4
              obtain ⟨rfl, rfl⟩ := List.append_inj e2 e5
              rw [ih _ h']
          cases e
          rw [huniq _ _ _ _ _ hp hp2]
      · rw [show decide (x.kind = 6) = false from decide_eq_false h6]
        refine ⟨[], false, rfl, rfl, by simp, ?_⟩
        intro x2 r2 e h62
        cases e
        exact absurd h62 h6
  · rw [show decide (valO l = 0) = false from decide_eq_false hv]
    exact ⟨[], false, rfl, rfl, by simp, fun x r e h6 hv2 => absurd hv2 hv⟩
theorem CborLookups_plain (a0 : List Int) (a1 : Int) (a2 : BitVec 64) (hd : CborLookups_dom a0 a1 a2) (hb : a0.length * 8 ≤ 140737488351232) : Ok (passkeylaw1_CborLookups a0 a1 a2) fun r => r.2.1 = true := by
  unfold passkeylaw1_CborLookups
  rw [show small (([(31 : Int)] : List Int).length + a0.length) 8 = true by unfold small; simp; omega]
  simp only [cond_true]
  refine Ok.bind (Ok.mono (Tree_ok _) ?_)
  rintro ⟨_, x, _⟩ ht
  dsimp only at ht ⊢
  obtain ⟨n, hn, en⟩ := mask a1 1048575 (by omega)
  rw [show ((1048575 : Nat) : Int) = 1048575 from rfl] at en
  rw [en]
  have hl := ht.len
  refine Ok.bind (Ok.mono (spoil_ok x n ht.ne (by omega) ht.data) ?_)
  rintro ⟨_, y, _⟩ ⟨s1, s2⟩
  dsimp only at s1 s2 ⊢
  have s3 : ∀ z ∈ y, z.data.length < 100000 := fun z hz => by have := s2 z hz; omega
  refine Ok.bind (Ok.mono (Q := fun z => z = .inr (a2, x, ())) ?_ ?_)
  · unfold passkeylaw1_CborLookups_L0
    refine Ok.iter (fun q => q.1 = a1 ∧ q.2.1 = a2 ∧ q.2.2.1 = x ∧ q.2.2.2.1 = y ∧ ∃ i : Nat, i ≤ 3 ∧ q.2.2.2.2.1 = BitVec.ofNat 64 i) (fun q => 3 - q.2.2.2.2.1.toNat) ⟨rfl, rfl, rfl, rfl, 0, by omega, rfl⟩ (by rw [rounds_eq]; dsimp only; omega) ?_
    rintro ⟨q0, q1, q2, q3, q4, u⟩ ⟨e0, e1, e2, e3, i, hi, e4⟩
    dsimp only at *
    subst e0; subst e1; subst e2; subst e3; subst e4
    simp only [passkeylaw1_CborLookups_L0b]
    rw [bvn i (by omega), show (3#64).toNat = 3 from rfl]
    by_cases h3 : i < 3
    · rw [show decide (i < 3) = true from decide_eq_true h3]
      simp only [cond_true]
      generalize (BitVec.ofInt 64 _ * 20#64 + BitVec.ofNat 64 i) = kk
      obtain ⟨v, b, l1, l2, l3, _⟩ := Lookup_both q3 kk (by omega) s3
      obtain ⟨v2, b2, m1, m2, m3, _⟩ := Lookup_both q2 kk (by omega) ht.d5
      rw [l1, l2, m1, m2]
      simp only [bindS, beq_self_eq_true, Bool.not_true, cond_false]
      rw [SameItems_ok _ _ (by omega), SameItems_ok _ _ (by omega), bvs i (by omega)]
      simp only [bindS, decide_true, Bool.not_true, cond_false]
      refine Ok.some ?_
      dsimp only
      refine ⟨⟨rfl, rfl, rfl, rfl, i + 1, by omega, rfl⟩, ?_⟩
      rw [bvn (i + 1) (by omega)]
      omega
    · rw [show decide (i < 3) = false from decide_eq_false h3]
      exact Ok.some rfl
  · rintro _ rfl
    simp only [Sum.elim_inr]
    obtain ⟨v, b, l1, l2, l3, _⟩ := Lookup_both x a2 (by omega) ht.d5
    rw [l1, l2]
    simp only [bindS, beq_self_eq_true, cond_true]
    rw [SameItems_ok _ _ (by omega)]
    simp only [bindS, decide_true, cond_true]
    exact awakeOk
end Go.Proofs.YtjedfmknnkimmaaDoor

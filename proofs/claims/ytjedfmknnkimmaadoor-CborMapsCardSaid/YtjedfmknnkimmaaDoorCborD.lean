/- cbor: what the reference's Validate and both Encode compute; the law CborValidates, plainly. No condition. -/
import Derived.Test.YtjedfmknnkimmaaDoorCborC
set_option linter.unusedVariables false
set_option linter.unusedSimpArgs false
set_option maxRecDepth 100000
namespace Go.Proofs.YtjedfmknnkimmaaDoor
open Go Go.Abs
theorem getL_ok : GetOk getL := by
  constructor
  · intro n d k b s x t h
    cases s with
    | nil => simp [getL] at h
    | cons y r =>
      simp only [getL, Prod.mk.injEq] at h
      obtain ⟨h1, rfl, rfl⟩ := h
      obtain ⟨c1, c2, c3, c4⟩ := chk_zero h1
      exact ⟨(adm_zero c1).1, (adm_zero c1).2.2.2.2, (big_false c3).2⟩
  · intro n d b b' s
    cases s with
    | nil => rfl
    | cons y r =>
      have : chk y n d false b = chk y n d false b' := by unfold chk acc; simp
      simp [getL, this]
theorem W_list : ∀ (f : Nat) (s : List ApiItem) (n d : Nat) (key : Bool) (b : List UInt8), (W getL f s n d key b).1 = 0 → s = (W getL f s n d key b).2.1 ++ (W getL f s n d key b).2.2
  | 0, s, n, d, key, b, h => by simp [W] at h
  | f + 1, s, n, d, key, b, h => by
    have ih := W_list f
    unfold W at h ⊢
    dsimp only at h ⊢
    rcases hg : getL n d key b s with ⟨e, x, t⟩
    rw [hg] at h
    dsimp only at h ⊢
    by_cases he : e = 0
    · subst he
      simp only [decide_true, cond_true] at h ⊢
      have hs : s = x :: t := by
        cases s with
        | nil => simp [getL] at hg
        | cons y r =>
          simp only [getL, Prod.mk.injEq] at hg
          rw [hg.2.1, hg.2.2]
      rw [hs, List.cons_append]
      congr 1
      by_cases h5 : x.kind = 5
      · simp only [h5, decide_true, cond_true] at h ⊢
        have loop : ∀ (k : Nat) (t : List ApiItem) (n : Nat), (LA (fun s n => W getL f s n (d + 1) false []) k t n).1 = 0 → t = (LA (fun s n => W getL f s n (d + 1) false []) k t n).2.1 ++ (LA (fun s n => W getL f s n (d + 1) false []) k t n).2.2 := by
          intro k
          induction k with
          | zero => intro t n _; rfl
          | succ k ihk =>
            intro t n h
            unfold LA at h ⊢
            have i1 := ih t n (d + 1) false []
            generalize W getL f t n (d + 1) false [] = w at h i1 ⊢
            by_cases hw : w.1 = 0
            · rw [show decide (w.1 = 0) = true by simpa using hw] at h ⊢
              simp only [cond_true] at h ⊢
              rw [List.append_assoc, ← ihk _ _ h]
              exact i1 hw
            · rw [show decide (w.1 = 0) = false by simpa using hw] at h
              exact absurd h hw
        exact loop _ _ _ h
      · by_cases h6 : x.kind = 6
        · simp only [h6, decide_true, cond_true, Int.reduceEq, decide_false, cond_false] at h ⊢
          have loop : ∀ (k : Nat) (t : List ApiItem) (n : Nat) (l : List UInt8), (LM (fun s n last => W getL f s n (d + 1) true last) (fun s n => W getL f s n (d + 1) false []) k t n l).1 = 0 → t = (LM (fun s n last => W getL f s n (d + 1) true last) (fun s n => W getL f s n (d + 1) false []) k t n l).2.1 ++ (LM (fun s n last => W getL f s n (d + 1) true last) (fun s n => W getL f s n (d + 1) false []) k t n l).2.2 := by
            intro k
            induction k with
            | zero => intro t n l _; rfl
            | succ k ihk =>
              intro t n l h
              unfold LM at h ⊢
              dsimp only at h ⊢
              have i1 := ih t n (d + 1) true l
              generalize W getL f t n (d + 1) true l = w at h i1 ⊢
              by_cases hw : w.1 = 0
              · rw [show decide (w.1 = 0) = true by simpa using hw] at h ⊢
                simp only [cond_true] at h ⊢
                have i2 := ih w.2.2 (n + w.2.1.length) (d + 1) false []
                generalize W getL f w.2.2 (n + w.2.1.length) (d + 1) false [] = v at h i2 ⊢
                by_cases hv : v.1 = 0
                · rw [show decide (v.1 = 0) = true by simpa using hv] at h ⊢
                  simp only [cond_true] at h ⊢
                  rw [List.append_assoc, List.append_assoc, ← ihk _ _ _ h, ← i2 hv]
                  exact i1 hw
                · rw [show decide (v.1 = 0) = false by simpa using hv] at h
                  exact absurd h hv
              · rw [show decide (w.1 = 0) = false by simpa using hw] at h
                exact absurd h hw
          exact loop _ _ _ _ h
        · simp only [h5, h6, decide_false, cond_false]
          rfl
    · rw [show decide (e = 0) = false by simpa using he] at h
      exact absurd h he
def Zr (w : Res (List ApiItem)) (n : Nat) (z : (Int × Int × Unit) ⊕ (Int × Unit)) : Prop := (w.1 = 0 → z = .inr (((n + w.2.1.length : Nat) : Int), ())) ∧ (w.1 ≠ 0 → ∃ j, z = .inl (j, w.1, ()))
theorem drop_of {l a b : List ApiItem} {n : Nat} (h : l.drop n = a ++ b) : l.drop (n + a.length) = b := by
  rw [← List.drop_drop, h]; simp
theorem walk_ok (l : List ApiItem) (hl : l.length < 1000000) (hd : ∀ x ∈ l, x.data.length < 100000) : ∀ (f n d : Nat) (key : Bool) (b : List UInt8), n ≤ l.length → d ≤ 9 → 10 ≤ f + d →
    ∃ j : Int, passkeyref1_walk_n f l (n : Int) (d : Int) key b = some ((), j, (W getL f (l.drop n) n d key b).1, ()) ∧ ((W getL f (l.drop n) n d key b).1 = 0 → j = ((n + (W getL f (l.drop n) n d key b).2.1.length : Nat) : Int))
  | 0, n, d, key, b, hn, hd9, hf => by omega
  | f + 1, n, d, key, b, hn, hd9, hf => by
    have ih := walk_ok l hl hd f
    show ∃ j : Int, passkeyref1_walk_R (passkeyref1_walk_n f) l (n : Int) (d : Int) key b = _ ∧ _
    unfold passkeyref1_walk_R
    unfold W
    dsimp only
    by_cases hnl : n = l.length
    · rw [show decide ((l.length : Int) ≤ (n : Int)) = true by simp; omega, show l.drop n = [] by simp [hnl]]
      exact ⟨n, rfl, fun h => by simp [getL] at h⟩
    · have hlt : n < l.length := by omega
      rw [show decide ((l.length : Int) ≤ (n : Int)) = false by simp; omega]
      obtain ⟨x, hx⟩ : ∃ x, l[n]? = some x := ⟨l[n], by simp [hlt]⟩
      have hdr : l.drop n = x :: l.drop (n + 1) := by
        rw [List.drop_eq_getElem_cons hlt]
        congr 1
        rw [List.getElem?_eq_getElem hlt] at hx
        exact Option.some.inj hx
      have eg : getI l (n : Int) = some x := by unfold getI; simp [hx]
      rw [hdr, eg]
      simp only [cond_false, bindS, getL, check_ok x n d key b (by have := hd x (List.mem_of_getElem? hx); omega)]
      rw [wrap_id (n := (n : Int) + 1) (by omega) (by omega)]
      by_cases hc : chk x n d key b = 0
      · simp only [hc, decide_true, Bool.not_true, cond_false, cond_true]
        obtain ⟨c1, c2, c3, c4⟩ := chk_zero hc
        have hd8 := (adm_zero c1).2.2.2.2
        have hnum := (big_false c3).2
        -- the loop
        have ed : IntKind.wrap .i64 ((d : Int) + 1) = ((d + 1 : Nat) : Int) := by
          rw [wrap_id (n := (d : Int) + 1) (by omega) (by omega)]; rfl
        have ebv : ∀ i : Nat, i ≤ 2000 → (BitVec.ofNat 64 i).toNat = i := fun i hi => by
          rw [BitVec.toNat_ofNat, Nat.mod_eq_of_lt (by omega)]
        have ebs : ∀ i : Nat, i ≤ 1000 → BitVec.ofNat 64 i + 1#64 = BitVec.ofNat 64 (i + 1) := fun i hi => by
          apply BitVec.eq_of_toNat_eq
          rw [BitVec.toNat_add, ebv i (by omega), ebv (i + 1) (by omega)]
          rw [show (1#64).toNat = 1 from rfl, Nat.mod_eq_of_lt (by omega)]
        have key2 : ∃ z, passkeyref1_walk_L0 (passkeyref1_walk_n f) (l, (d : Int), (x, ()), (n : Int) + 1, [], 0#64, ()) = some z ∧ Zr (bif decide (x.kind = 5) then LA (fun s n => W getL f s n (d + 1) false []) x.number.toNat (l.drop (n + 1)) (n + 1) else bif decide (x.kind = 6) then LM (fun s n last => W getL f s n (d + 1) true last) (fun s n => W getL f s n (d + 1) false []) x.number.toNat (l.drop (n + 1)) (n + 1) [] else ((0 : Int), ([] : List ApiItem), l.drop (n + 1))) (n + 1) z := by
          unfold passkeyref1_walk_L0
          rw [show ((n : Int) + 1) = ((n + 1 : Nat) : Int) by omega, show (0#64) = BitVec.ofNat 64 0 from rfl]
          by_cases h5 : x.kind = 5
          · have hk := hnum (by simp [isN, h5])
            have loop : ∀ (k i m fuel : Nat) (last : List UInt8), i + k = x.number.toNat → m ≤ l.length → k < fuel → ∃ z, iter (fun (y : ((List (ApiItem)) × Int × (ApiItem × Unit) × Int × (List UInt8) × (BitVec 64) × Unit)) => passkeyref1_walk_L0b (passkeyref1_walk_n f) y.1 y.2.1 y.2.2.1 y.2.2.2.1 y.2.2.2.2.1 y.2.2.2.2.2.1) fuel (l, (d : Int), (x, ()), (m : Int), last, BitVec.ofNat 64 i, ()) = some z ∧ Zr (LA (fun s n => W getL f s n (d + 1) false []) k (l.drop m) m) m z := by
              intro k
              induction k with
              | zero =>
                intro i m fuel last hi hm hfu
                obtain ⟨fuel, rfl⟩ : ∃ g, fuel = g + 1 := ⟨fuel - 1, by omega⟩
                rw [iter_succ]
                refine ⟨.inr ((m : Int), ()), ?_, fun _ => rfl, fun h => absurd rfl h⟩
                dsimp only
                unfold passkeyref1_walk_L0b
                rw [ebv i (by omega), show decide (i < x.number.toNat) = false by simp; omega]
                rfl
              | succ k ihk =>
                intro i m fuel last hi hm hfu
                obtain ⟨fuel, rfl⟩ : ∃ g, fuel = g + 1 := ⟨fuel - 1, by omega⟩
                rw [iter_succ]
                obtain ⟨j, hj1, hj2⟩ := ih m (d + 1) false [] hm (by omega) (by omega)
                have hwl := fun h => W_list f (l.drop m) m (d + 1) false [] h
                have e1 : passkeyref1_walk_L0b (passkeyref1_walk_n f) l (d : Int) (x, ()) (m : Int) last (BitVec.ofNat 64 i) = (bif (!decide ((W getL f (l.drop m) m (d + 1) false []).1 = (0 : Int))) then (some (Sum.inr (Sum.inl (j, (W getL f (l.drop m) m (d + 1) false []).1, ())))) else (some (Sum.inl (l, (d : Int), (x, ()), j, last, (BitVec.ofNat 64 (i + 1)), ())))) := by
                  unfold passkeyref1_walk_L0b
                  rw [ebv i (by omega), show decide (i < x.number.toNat) = true by simp; omega]
                  simp only [h5, decide_true, cond_true, Int.reduceEq, decide_false, cond_false, bindS, Sum.elim_inl, ed, ebs i (by omega)]
                  rw [hj1]
                  simp only [bindS]
                dsimp only
                rw [e1]
                unfold LA
                generalize W getL f (l.drop m) m (d + 1) false [] = w at hj2 hwl ⊢
                by_cases hw : w.1 = 0
                · rw [show decide (w.1 = 0) = true by simpa using hw]
                  simp only [Bool.not_true, cond_false, cond_true, bindS, Sum.elim_inl]
                  rw [hj2 hw]
                  have hdw := drop_of (hwl hw)
                  have hle : m + w.2.1.length ≤ l.length := by
                    have := congrArg List.length (hwl hw)
                    simp at this
                    omega
                  obtain ⟨z, hz1, hz2, hz3⟩ := ihk (i + 1) (m + w.2.1.length) fuel last (by omega) hle (by omega)
                  rw [hdw] at hz2 hz3
                  refine ⟨z, hz1, fun h => ?_, fun h => hz3 h⟩
                  dsimp only at h ⊢
                  rw [hz2 h, List.length_append, Nat.add_assoc]
                · rw [show decide (w.1 = 0) = false by simpa using hw]
                  exact ⟨_, rfl, fun h => absurd h hw, fun _ => ⟨_, rfl⟩⟩
            rw [show decide (x.kind = 5) = true by simpa using h5]
            exact loop _ 0 (n + 1) rounds [] (by omega) (by omega) (by rw [rounds_eq]; omega)
          · by_cases h6 : x.kind = 6
            · have hk := hnum (by simp [isN, h6])
              have loop : ∀ (k i m fuel : Nat) (last : List UInt8), i + k = x.number.toNat → m ≤ l.length → k < fuel → ∃ z, iter (fun (y : ((List (ApiItem)) × Int × (ApiItem × Unit) × Int × (List UInt8) × (BitVec 64) × Unit)) => passkeyref1_walk_L0b (passkeyref1_walk_n f) y.1 y.2.1 y.2.2.1 y.2.2.2.1 y.2.2.2.2.1 y.2.2.2.2.2.1) fuel (l, (d : Int), (x, ()), (m : Int), last, BitVec.ofNat 64 i, ()) = some z ∧ Zr (LM (fun s n last => W getL f s n (d + 1) true last) (fun s n => W getL f s n (d + 1) false []) k (l.drop m) m last) m z := by
                intro k
                induction k with
                | zero =>
                  intro i m fuel last hi hm hfu
                  obtain ⟨fuel, rfl⟩ : ∃ g, fuel = g + 1 := ⟨fuel - 1, by omega⟩
                  rw [iter_succ]
                  refine ⟨.inr ((m : Int), ()), ?_, fun _ => rfl, fun h => absurd rfl h⟩
                  dsimp only
                  unfold passkeyref1_walk_L0b
                  rw [ebv i (by omega), show decide (i < x.number.toNat) = false by simp; omega]
                  rfl
                | succ k ihk =>
                  intro i m fuel last hi hm hfu
                  obtain ⟨fuel, rfl⟩ : ∃ g, fuel = g + 1 := ⟨fuel - 1, by omega⟩
                  rw [iter_succ]
                  obtain ⟨j, hj1, hj2⟩ := ih m (d + 1) true last hm (by omega) (by omega)
                  have hwl := fun h => W_list f (l.drop m) m (d + 1) true last h
                  have hwn := fun h => W_ne (get := getL) (f := f) (s := l.drop m) (n := m) (d := d + 1) (key := true) (b := last) h
                  unfold LM
                  dsimp only
                  unfold passkeyref1_walk_L0b
                  rw [ebv i (by omega), show decide (i < x.number.toNat) = true by simp; omega]
                  simp only [h6, decide_true, cond_true, Int.reduceEq, decide_false, cond_false, ed]
                  rw [hj1]
                  simp only [bindS]
                  generalize W getL f (l.drop m) m (d + 1) true last = w at hj2 hwl hwn ⊢
                  by_cases hw : w.1 = 0
                  · rw [show decide (w.1 = 0) = true by simpa using hw]
                    obtain ⟨y, r, hy⟩ := hwn hw
                    have hdw := drop_of (hwl hw)
                    have hlw := congrArg List.length (hwl hw)
                    simp only [List.length_drop, List.length_append] at hlw
                    have hl1 : 1 ≤ w.2.1.length := by rw [hy]; simp
                    have hym : l[m]? = some y := by
                      have := congrArg (·[0]?) (hwl hw)
                      rw [hy] at this
                      simpa using this
                    have egy : getI l (m : Int) = some y := by unfold getI; simp [hym]
                    have hjj := hj2 hw
                    subst hjj
                    obtain ⟨j2, hj3, hj4⟩ := ih (m + w.2.1.length) (d + 1) false [] (by omega) (by omega) (by omega)
                    have hvl := fun h => W_list f (l.drop (m + w.2.1.length)) (m + w.2.1.length) (d + 1) false [] h
                    rw [hdw] at hj3 hj4 hvl
                    simp only [Bool.not_true, cond_false, cond_true, egy, bindS, Bytes_ok y (by have := hd y (List.mem_of_getElem? hym); omega), Sum.elim_inl, ed, ebs i (by omega)]
                    rw [hj3]
                    simp only [bindS]
                    have hhy : w.2.1.headD default = y := by rw [hy]; rfl
                    rw [hhy]
                    generalize W getL f w.2.2 (m + w.2.1.length) (d + 1) false [] = v at hj4 hvl ⊢
                    by_cases hv : v.1 = 0
                    · rw [show decide (v.1 = 0) = true by simpa using hv, hj4 hv]
                      simp only [Bool.not_true, cond_false, cond_true, bindS, Sum.elim_inl]
                      have hdv : l.drop (m + w.2.1.length + v.2.1.length) = v.2.2 := drop_of (by rw [hdw]; exact hvl hv)
                      have hlv := congrArg List.length (hvl hv)
                      simp only [List.length_append] at hlv
                      obtain ⟨z, hz1, hz2, hz3⟩ := ihk (i + 1) (m + w.2.1.length + v.2.1.length) fuel (enc y) (by omega) (by omega) (by omega)
                      rw [hdv] at hz2 hz3
                      refine ⟨z, hz1, fun h => ?_, fun h => hz3 h⟩
                      dsimp only at h ⊢
                      rw [hz2 h, List.length_append, List.length_append]
                      congr 3
                      omega
                    · rw [show decide (v.1 = 0) = false by simpa using hv]
                      exact ⟨_, rfl, fun h => absurd h hv, fun _ => ⟨_, rfl⟩⟩
                  · rw [show decide (w.1 = 0) = false by simpa using hw]
                    exact ⟨_, rfl, fun h => absurd h hw, fun _ => ⟨_, rfl⟩⟩
              rw [show decide (x.kind = 5) = false by simpa using h5, show decide (x.kind = 6) = true by simpa using h6]
              exact loop _ 0 (n + 1) rounds [] (by omega) (by omega) (by rw [rounds_eq]; omega)
            · rw [rounds_eq, show (1180591620717411303424 : Nat) = 1180591620717411303423 + 1 from rfl, iter_succ]
              dsimp only
              unfold passkeyref1_walk_L0b
              simp only [h5, h6, decide_false, cond_false]
              refine ⟨.inr (((n + 1 : Nat) : Int), ()), ?_, fun _ => rfl, fun h => absurd rfl h⟩
              cases decide ((BitVec.ofNat 64 0).toNat < x.number.toNat) <;> rfl
        obtain ⟨z, hz, hz1⟩ := key2
        rw [hz]
        simp only [bindS]
        have fin : ∀ (w : Res (List ApiItem)) (z : (Int × Int × Unit) ⊕ (Int × Unit)), Zr w (n + 1) z → ∃ j : Int, Sum.elim (fun (z13 : (Int × Int × Unit)) => (some ((), (z13.1, z13.2.1, ())) : Option (Unit × (Int × Int × Unit)))) (fun (z14 : (Int × Unit)) => (some ((), (z14.1, (0 : Int), ())))) z = some ((), j, w.1, ()) ∧ (w.1 = 0 → j = ((n + (x :: w.2.1).length : Nat) : Int)) := by
          intro w z hz
          obtain ⟨hz1, hz2⟩ := hz
          by_cases hw : w.1 = 0
          · rw [hz1 hw, hw]
            refine ⟨_, rfl, fun _ => ?_⟩
            simp only [List.length_cons]
            omega
          · obtain ⟨j, rfl⟩ := hz2 hw
            exact ⟨j, rfl, fun h => absurd h hw⟩
        exact fin _ _ hz1
      · simp only [hc, decide_false, Bool.not_false, cond_false, cond_true]
        exact ⟨(n : Int), rfl, fun h => h.elim⟩
theorem rValidate_ok (l : List ApiItem) (hl : l.length < 1000000) (hd : ∀ x ∈ l, x.data.length < 100000) : passkeyref1_Validate l = some ((), valO l, ()) := by
  obtain ⟨j, h1, h2⟩ := walk_ok l hl hd 12 0 0 false [] (by omega) (by omega) (by omega)
  obtain ⟨m1, m2⟩ := W_mach getL_ok 12 (by omega) l
  have hwl := fun h => W_list 12 l 0 0 false [] h
  unfold passkeyref1_Validate passkeyref1_walk valO valE
  rw [show l.drop 0 = l from rfl] at h1 h2
  have h1' : passkeyref1_walk_n 12 l 0 0 false [] = some ((), j, (W getL 12 l 0 0 false []).1, ()) := h1
  rw [h1']
  simp only [bindS]
  by_cases hw : (W getL 12 l 0 0 false []).1 = 0
  · rw [m2 hw, h2 hw]
    have hh := hwl hw
    generalize W getL 12 l 0 0 false [] = w at hw hh ⊢
    simp only [hw, decide_true, Bool.not_true, cond_false]
    have hlen := congrArg List.length hh
    rw [List.length_append] at hlen
    cases ht : w.2.2 with
    | nil =>
      rw [ht] at hlen
      rw [show decide (((0 + w.2.1.length : Nat) : Int) < (l.length : Int)) = false by simp at hlen ⊢; omega]
      rfl
    | cons y r =>
      rw [ht] at hlen
      rw [show decide (((0 + w.2.1.length : Nat) : Int) < (l.length : Int)) = true by simp at hlen ⊢; omega]
      rfl
  · rw [m1 hw]
    simp [hw]
theorem mach_items : ∀ (f : Nat) (S : List CborFrame) (n : Nat) (l : List ApiItem), (mach getL f S n l).1 = 0 → l = (mach getL f S n l).2.1 ++ (mach getL f S n l).2.2 ∧ ∀ x ∈ (mach getL f S n l).2.1, ∃ n d k b, chk x n d k b = 0
  | 0, S, n, l, h => by simp [mach] at h
  | f + 1, S, n, l, h => by
    cases hS : (decide (0 < n) && S.isEmpty)
    · rcases hg : getL n S.length (atK S) (lst S) l with ⟨e, x, t⟩
      by_cases he : e = 0
      · subst he
        rw [mach_step hS hg] at h ⊢
        obtain ⟨i1, i2⟩ := mach_items f (nxt x S) (n + 1) t h
        have hs : l = x :: t ∧ chk x n S.length (atK S) (lst S) = 0 := by
          cases l with
          | nil => simp [getL] at hg
          | cons y r =>
            simp only [getL, Prod.mk.injEq] at hg
            obtain ⟨q1, rfl, rfl⟩ := hg
            exact ⟨rfl, q1⟩
        refine ⟨by rw [hs.1, List.cons_append, ← i1], fun y hy => ?_⟩
        rcases List.mem_cons.1 hy with rfl | hy
        · exact ⟨_, _, _, _, hs.2⟩
        · exact i2 y hy
      · rw [mach_err hS hg he] at h
        exact absurd h he
    · simp only [Bool.and_eq_true, decide_eq_true_eq, List.isEmpty_iff] at hS
      obtain ⟨q1, rfl⟩ := hS
      rw [mach_done q1]
      exact ⟨rfl, by simp⟩
theorem valO_zero {l : List ApiItem} (h : valO l = 0) : mach getL 600 [] 0 l = (0, l, []) ∧ ∀ x ∈ l, kin x ∧ x.data.length ≤ 1024 := by
  unfold valO valE at h
  have hm := mach_items 600 [] 0 l
  generalize mach getL 600 [] 0 l = m at h hm ⊢
  obtain ⟨e, o, t⟩ := m
  dsimp only at h hm ⊢
  by_cases he : e = 0
  · subst he
    cases t with
    | nil =>
      obtain ⟨h1, h2⟩ := hm rfl
      rw [List.append_nil] at h1
      subst h1
      refine ⟨rfl, fun x hx => ?_⟩
      obtain ⟨n, d, k, b, hc⟩ := h2 x hx
      obtain ⟨c1, c2, c3, c4⟩ := chk_zero hc
      exact ⟨kin_of c1 c2, (big_false c3).1⟩
    | cons y r => simp at h
  · simp [he] at h
end Go.Proofs.YtjedfmknnkimmaaDoor

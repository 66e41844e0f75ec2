/- cbor: Map of both; the law CborMaps, plainly. No condition. -/
import Derived.Test.YtjedfmknnkimmaaDoorCborO
set_option linter.unusedVariables false
set_option linter.unusedSimpArgs false
set_option maxRecDepth 100000
namespace Go.Proofs.YtjedfmknnkimmaaDoor
open Go Go.Abs
def prO (keys : List (BitVec 64)) (v : List (List ApiItem)) (o : List Nat) : List (List ApiItem) := o.map fun i => ⟨1, keys.getD i 0#64, []⟩ :: v.getD i []
def nd (keys : List (BitVec 64)) (o : List Nat) : Prop := o.Pairwise fun a b => kk keys a ≠ kk keys b
def adj (keys : List (BitVec 64)) : List Nat → Bool
  | a :: b :: r => decide (kk keys a = kk keys b) || adj keys (b :: r)
  | _ => false
theorem adj_nd {keys : List (BitVec 64)} : ∀ {o : List Nat}, srt keys o → (adj keys o = false ↔ nd keys o)
  | [], _ => by simp [adj, nd]
  | [a], _ => by simp [adj, nd]
  | a :: b :: r, h => by
    unfold srt at h
    obtain ⟨h1, h2⟩ := List.pairwise_cons.1 h
    have ih := adj_nd (keys := keys) (o := b :: r) h2
    unfold adj nd
    unfold nd at ih
    rw [List.pairwise_cons, Bool.or_eq_false_iff, ih]
    constructor
    · rintro ⟨q1, q2⟩
      simp only [decide_eq_false_iff_not] at q1
      refine ⟨?_, q2⟩
      intro c hc
      have hab := h1 b (by simp)
      rcases List.mem_cons.1 hc with rfl | hc
      · exact q1
      · have := (List.pairwise_cons.1 h2).1 c hc
        have := h1 c (by simp [hc])
        omega
    · rintro ⟨q1, q2⟩
      exact ⟨decide_eq_false (q1 b (by simp)), q2⟩
theorem nd_perm {keys : List (BitVec 64)} {a b : List Nat} (h : a.Perm b) : nd keys a ↔ nd keys b :=
  h.pairwise_iff fun h => fun e => h e.symm
theorem key_eq (keys : List (BitVec 64)) (i j : Nat) : decide (keys.getD i 0#64 = keys.getD j 0#64) = decide (kk keys i = kk keys j) := by
  rw [decide_eq_decide]
  exact ⟨fun h => by unfold kk; rw [h], fun h => BitVec.eq_of_toNat_eq h⟩
def mapO (keys : List (BitVec 64)) (v : List (List ApiItem)) (o : List Nat) : List ApiItem × Int :=
  bif adj keys o then ([], 10) else bif !decide (fau v = 0) then ([], fau v) else
  bif decide (valO (⟨6, BitVec.ofInt 64 (keys.length : Int), []⟩ :: (prO keys v o).flatten) = 0) then (⟨6, BitVec.ofInt 64 (keys.length : Int), []⟩ :: (prO keys v o).flatten, 0) else ([], valO (⟨6, BitVec.ofInt 64 (keys.length : Int), []⟩ :: (prO keys v o).flatten))
theorem light1_get {v : List (List ApiItem)} (h : light1 v) (i : Nat) : (v.getD i []).length ≤ 600 ∧ ∀ x ∈ v.getD i [], x.data.length < 100000 := by
  rw [List.getD_eq_getElem?_getD]
  cases hi : v[i]? with
  | none => simp
  | some l => exact h l (List.mem_of_getElem? hi)
theorem prO_light {keys : List (BitVec 64)} {v : List (List ApiItem)} (h : light1 v) : ∀ o : List Nat, (prO keys v o).flatten.length ≤ o.length * 601 ∧ ∀ x ∈ (prO keys v o).flatten, x.data.length < 100000
  | [] => by simp [prO]
  | i :: r => by
    obtain ⟨i1, i2⟩ := prO_light (keys := keys) h r
    obtain ⟨l1, l2⟩ := light1_get h i
    unfold prO at *
    refine ⟨?_, ?_⟩
    · simp only [List.map_cons, List.flatten_cons, List.length_append, List.length_cons, Nat.add_mul]
      omega
    · intro x hx
      simp only [List.map_cons, List.flatten_cons, List.cons_append, List.mem_cons, List.mem_append] at hx
      rcases hx with rfl | hx | hx
      · simp
      · exact l2 x hx
      · exact i2 x hx
theorem getD_get {v : List (List ApiItem)} {i : Nat} (h : i < v.length) : getI v (i : Int) = some (v.getD i []) := by
  refine getI_nat ?_
  rw [List.getD_eq_getElem?_getD, List.getElem?_eq_getElem h]
  rfl
theorem range_lt {n : Nat} {o : List Nat} (h : o.Perm (List.range n)) : ∀ i ∈ o, i < n := fun i hi => List.mem_range.1 (h.mem_iff.1 hi)
theorem Map_ok (keys : List (BitVec 64)) (v : List (List ApiItem)) (hk : keys.length ≤ 12) (hl : keys.length = v.length) (hv : light1 v) : ∃ o : List Nat, o.Perm (List.range keys.length) ∧ srt keys o ∧ cbor_Map keys v = some ((), (mapO keys v o).1, (mapO keys v o).2, ()) := by
  unfold cbor_Map
  rw [show decide ((keys.length : Int) = (v.length : Int)) = true from decide_eq_true (by omega), show (decide ((0 : Int) ≤ (keys.length : Int)) && (decide ((keys.length : Int) ≤ (keys.length : Int)) && decide ((8 : Int) * (keys.length : Int) ≤ 281474976710656 ∧ (keys.length : Int) ≤ 9223372036854775807))) = true by simp; omega]
  simp only [Bool.not_true, cond_false, cond_true, Int.toNat_natCast]
  -- the indices
  have e0 : cbor_Map_L0 (v, keys, List.replicate keys.length (0 : Int), (keys.length : Int), 0, ()) = some (v, keys, ci (List.range keys.length), ()) := by
    obtain ⟨z, h1, h2⟩ : Ok (cbor_Map_L0 (v, keys, List.replicate keys.length (0 : Int), (keys.length : Int), 0, ())) fun z => z = (v, keys, ci (List.range keys.length), ()) := by
      unfold cbor_Map_L0
      refine Ok.iter (fun q => q.1 = v ∧ q.2.1 = keys ∧ q.2.2.2.1 = (keys.length : Int) ∧ ∃ i : Nat, i ≤ keys.length ∧ q.2.2.2.2.1 = (i : Int) ∧ q.2.2.1 = ci (List.range i) ++ List.replicate (keys.length - i) 0) (fun q => (keys.length - q.2.2.2.2.1).toNat) ⟨rfl, rfl, rfl, 0, by omega, rfl, by simp⟩ (by rw [rounds_eq]; dsimp only; omega) ?_
      rintro ⟨q0, q1, q2, q3, q4, u⟩ ⟨e1, e2, e3, i, hi, e4, e5⟩
      dsimp only at *
      subst e1; subst e2; subst e3; subst e4; subst e5
      simp only [cbor_Map_L0b]
      by_cases h : i < q1.length
      · have hlen : (ci (List.range i) ++ List.replicate (q1.length - i) (0 : Int)).length = q1.length := by simp; omega
        rw [hlen, two_ok (by omega) (show (i : Int) < (q1.length : Int) by omega), show decide ((i : Int) < (q1.length : Int)) = true from decide_eq_true (by omega), Int.toNat_natCast, List.getElem?_eq_getElem (show i < (ci (List.range i) ++ List.replicate (q1.length - i) (0 : Int)).length by omega), wrap_id (n := (i : Int) + 1) (by omega) (by omega)]
        simp only [cond_true, bindS]
        refine Ok.some ?_
        dsimp only
        refine ⟨⟨rfl, rfl, rfl, i + 1, by omega, rfl, ?_⟩, by omega⟩
        rw [List.set_append_right _ _ (by simp), show q1.length - i = (q1.length - (i + 1)) + 1 by omega, List.replicate_succ, List.range_succ]
        simp [ci]
      · rw [show decide ((i : Int) < (q1.length : Int)) = false from decide_eq_false (by omega)]
        have : i = q1.length := by omega
        subst this
        refine Ok.some ?_
        simp
    rw [h1, h2]
  rw [e0]
  simp only [bindS]
  obtain ⟨_, hs1, o, rfl, hs2, hs3⟩ := sort_ok keys (List.range keys.length) (by simpa using hk) (fun y hy => List.mem_range.1 hy)
  rw [hs1]
  simp only [bindS]
  have hol : o.length = keys.length := by rw [hs2.length_eq, List.length_range]
  have hor := range_lt hs2
  refine ⟨o, hs2, hs3, ?_⟩
  -- duplicates
  have e2 : ∀ (r : List Nat) (a : Nat) (j f : Nat), o.drop j = a :: r → r.length < f → iter (fun (y : ((List (List ApiItem)) × (List (BitVec 64)) × (List (Int)) × Int × Unit)) => cbor_Map_L2b y.1 y.2.1 y.2.2.1 y.2.2.2.1) f (v, keys, ci o, ((j + 1 : Nat) : Int), ()) = some (bif adj keys (a :: r) then .inl ([], 10, ()) else .inr (v, keys, ci o, ())) := by
    intro r
    induction r with
    | nil =>
      intro a j f hr hf
      obtain ⟨f, rfl⟩ : ∃ g, f = g + 1 := ⟨f - 1, by omega⟩
      obtain ⟨d1, d2, d3, d4⟩ := drop_cons hr
      rw [iter_succ]
      dsimp only
      unfold cbor_Map_L2b
      rw [ci_len, show decide (((j + 1 : Nat) : Int) < (o.length : Int)) = false from decide_eq_false (by simp at d4; omega)]
      rfl
    | cons b r ih =>
      intro a j f hr hf
      obtain ⟨f, rfl⟩ : ∃ g, f = g + 1 := ⟨f - 1, by omega⟩
      obtain ⟨d1, d2, d3, d4⟩ := drop_cons hr
      obtain ⟨b1, b2, b3, b4⟩ := drop_cons d2
      have ha := hor a (List.mem_of_getElem? d1)
      have hb := hor b (List.mem_of_getElem? b1)
      have e1 : cbor_Map_L2b v keys (ci o) ((j + 1 : Nat) : Int) = bif decide (kk keys a = kk keys b) then some (Sum.inr (Sum.inl ([], 10, ()))) else some (Sum.inl (v, keys, ci o, ((j + 1 + 1 : Nat) : Int), ())) := by
        unfold cbor_Map_L2b
        rw [ci_len, wrap_id (n := ((j + 1 : Nat) : Int) - 1) (by omega) (by omega), show ((j + 1 : Nat) : Int) - 1 = (j : Int) by omega, two_ok (by omega) (show (j : Int) < (o.length : Int) by omega), two_ok (by omega) (show ((j + 1 : Nat) : Int) < (o.length : Int) by omega), show decide (((j + 1 : Nat) : Int) < (o.length : Int)) = true from decide_eq_true (by omega), Int.toNat_natCast, Int.toNat_natCast, ci_get d1, ci_get b1, wrap_id (n := ((j + 1 : Nat) : Int) + 1) (by omega) (by omega)]
        simp only [cond_true, bindS]
        rw [kk_get ha, kk_get hb]
        simp only [bindS]
        rw [key_eq]
        rfl
      rw [iter_succ]
      dsimp only
      rw [e1]
      unfold adj
      cases hq : decide (kk keys a = kk keys b)
      · simp only [cond_false, bindS, Sum.elim_inl, Bool.false_or]
        exact ih b (j + 1) f d2 (by simp at hf; omega)
      · rfl
  have e3 : cbor_Map_L2 (v, keys, ci o, 1, ()) = some (bif adj keys o then .inl ([], 10, ()) else .inr (v, keys, ci o, ())) := by
    unfold cbor_Map_L2
    cases ho : o with
    | nil =>
      rw [rounds_eq, show (1180591620717411303424 : Nat) = 1180591620717411303423 + 1 from rfl, iter_succ]
      rfl
    | cons a r =>
      have := e2 r a 0 rounds (by rw [ho]; rfl) (by rw [rounds_eq]; rw [ho] at hol; simp at hol; omega)
      rw [ho] at this
      exact this
  rw [e3]
  unfold mapO
  cases hadj : adj keys o
  · simp only [cond_false, bindS, Sum.elim_inr]
    rw [faulty_ok v hv (by omega)]
    simp only [bindS]
    by_cases h0 : fau v = 0
    · rw [show decide (fau v = 0) = true from decide_eq_true h0]
      simp only [Bool.not_true, cond_false]
      -- the collecting
      have e4 : ∀ (r : List Nat) (j f : Nat) (out : List ApiItem), o.drop j = r → r.length < f → out.length ≤ j * 601 + 1 → iter (fun (y : ((List (List ApiItem)) × (List (BitVec 64)) × (List (ApiItem)) × (List (Int)) × Int × Int × Unit)) => cbor_Map_L4b y.1 y.2.1 y.2.2.1 y.2.2.2.1 y.2.2.2.2.1 y.2.2.2.2.2.1) f (v, keys, out, ci o, (o.length : Int), (j : Int), ()) = some (gat out (prO keys v r), ()) := by
        intro r
        induction r with
        | nil =>
          intro j f out hr hf ho
          obtain ⟨f, rfl⟩ : ∃ g, f = g + 1 := ⟨f - 1, by omega⟩
          have hjl : o.length ≤ j := by
            have := congrArg List.length hr
            simp at this
            omega
          rw [iter_succ]
          dsimp only
          unfold cbor_Map_L4b
          rw [show decide ((j : Int) < (o.length : Int)) = false from decide_eq_false (by omega)]
          rfl
        | cons b r ih =>
          intro j f out hr hf ho
          obtain ⟨f, rfl⟩ : ∃ g, f = g + 1 := ⟨f - 1, by omega⟩
          obtain ⟨d1, d2, d3, d4⟩ := drop_cons hr
          have hb := hor b (List.mem_of_getElem? d1)
          obtain ⟨l1, _⟩ := light1_get hv b
          have e1 : cbor_Map_L4b v keys out (ci o) (o.length : Int) (j : Int) = bif decide (512 < out.length) then some (Sum.inr (out, ())) else some (Sum.inl (v, keys, out ++ (⟨1, keys.getD b 0#64, []⟩ :: v.getD b []), ci o, (o.length : Int), ((j + 1 : Nat) : Int), ())) := by
            unfold cbor_Map_L4b
            rw [ci_len, two_ok (by omega) (show (j : Int) < (o.length : Int) by omega), show decide ((j : Int) < (o.length : Int)) = true from decide_eq_true (by omega), Int.toNat_natCast, ci_get d1, wrap_id (n := (j : Int) + 1) (by omega) (by omega)]
            simp only [cond_true, bindS]
            rw [show decide ((512 : Int) < (out.length : Int)) = decide (512 < out.length) by rw [decide_eq_decide]; omega]
            cases decide (512 < out.length)
            · simp only [cond_false]
              rw [kk_get hb]
              simp only [bindS, cbor_Uint]
              rw [small32 (by simp only [List.length_cons, List.length_nil]; omega), getD_get (show b < v.length by omega)]
              simp only [cond_true, bindS]
              rw [small32 (by simp only [List.length_append, List.length_cons, List.length_nil]; omega)]
              simp
            · rfl
          rw [iter_succ]
          dsimp only
          rw [e1]
          have hpr : prO keys v (b :: r) = (⟨1, keys.getD b 0#64, []⟩ :: v.getD b []) :: prO keys v r := rfl
          rw [hpr]
          unfold gat
          cases decide (512 < out.length)
          · exact ih (j + 1) f (out ++ (⟨1, keys.getD b 0#64, []⟩ :: v.getD b [])) d2 (by simp at hf; omega) (by rw [List.length_append, List.length_cons, Nat.add_mul]; omega)
          · rfl
      have e5 := e4 o 0 rounds [⟨6, BitVec.ofInt 64 (keys.length : Int), []⟩] rfl (by rw [rounds_eq]; omega) (by simp)
      have e6 : cbor_Map_L4 (v, keys, [⟨6, BitVec.ofInt 64 (keys.length : Int), []⟩], ci o, ((ci o).length : Int), 0, ()) = some (gat [⟨6, BitVec.ofInt 64 (keys.length : Int), []⟩] (prO keys v o), ()) := by
        rw [ci_len]
        exact e5
      rw [e6]
      simp only [bindS]
      obtain ⟨l1, l2⟩ := prO_light (keys := keys) hv o
      obtain ⟨s1, s2⟩ := gat_sub (prO keys v o) [⟨6, BitVec.ofInt 64 (keys.length : Int), []⟩]
      rw [checked_ok _ (by rw [List.length_append, List.length_singleton] at s1; omega) (fun x hx => by
        rcases List.mem_append.1 (s2 x hx) with hx | hx
        · simp at hx; subst hx; simp
        · exact l2 x hx)]
      simp only [bindS]
      rw [arr_fin, (gat_val (prO keys v o) _).1, List.singleton_append]
      by_cases h1 : valO (⟨6, BitVec.ofInt 64 (keys.length : Int), []⟩ :: (prO keys v o).flatten) = 0
      · rw [h1]; rfl
      · rw [show decide (valO (⟨6, BitVec.ofInt 64 (keys.length : Int), []⟩ :: (prO keys v o).flatten) = 0) = false from decide_eq_false h1]; rfl
    · rw [show decide (fau v = 0) = false from decide_eq_false h0]
      rfl
  · rfl
theorem sel_ok (keys : List (BitVec 64)) (v : List (List ApiItem)) (out : List ApiItem) (done : List Bool) (a b : Int) (hk : keys.length ≤ 12) (hd : done.length = keys.length) :
    Ok (passkeyref1_Map_L8 (keys, v, out, done, -1, 0, a, b, ())) fun z => ∃ best : Int, z = (keys, v, out, done, best, a, b, ()) ∧ ((best = -1 ∧ ∀ k, k < keys.length → done[k]? = some true) ∨ ∃ m : Nat, best = (m : Int) ∧ m < keys.length ∧ done[m]? = some false ∧ ∀ k, k < keys.length → done[k]? = some false → kk keys m ≤ kk keys k) := by
  unfold passkeyref1_Map_L8
  refine Ok.iter (fun q => q.1 = keys ∧ q.2.1 = v ∧ q.2.2.1 = out ∧ q.2.2.2.1 = done ∧ q.2.2.2.2.2.2.1 = a ∧ q.2.2.2.2.2.2.2.1 = b ∧ ∃ i : Nat, i ≤ keys.length ∧ q.2.2.2.2.2.1 = (i : Int) ∧ ((q.2.2.2.2.1 = -1 ∧ ∀ k, k < i → done[k]? = some true) ∨ ∃ m : Nat, q.2.2.2.2.1 = (m : Int) ∧ m < i ∧ done[m]? = some false ∧ ∀ k, k < i → done[k]? = some false → kk keys m ≤ kk keys k)) (fun q => (keys.length - q.2.2.2.2.2.1).toNat) ⟨rfl, rfl, rfl, rfl, rfl, rfl, 0, by omega, rfl, .inl ⟨rfl, by simp⟩⟩ (by rw [rounds_eq]; dsimp only; omega) ?_
  rintro ⟨q0, q1, q2, q3, q4, q5, q6, q7, u⟩ ⟨e1, e2, e3, e4, e5, e6, i, hi, e7, e8⟩
  dsimp only at *
  subst e1; subst e2; subst e3; subst e4; subst e5; subst e6; subst e7
  simp only [passkeyref1_Map_L8b]
  by_cases h : i < q0.length
  · obtain ⟨x, hx⟩ : ∃ x, q3[i]? = some x := ⟨q3[i], by simp [hd, h]⟩
    rw [show decide ((i : Int) < (q0.length : Int)) = true from decide_eq_true (by omega), two_ok (by omega) (show (i : Int) < (q3.length : Int) by omega), Int.toNat_natCast, hx, wrap_id (n := (i : Int) + 1) (by omega) (by omega)]
    simp only [cond_true, bindS]
    have next : ∀ k, k < i + 1 → k < i ∨ k = i := fun k hk => by omega
    cases x
    · simp only [Bool.not_false, cond_true]
      rcases e8 with ⟨rfl, h8⟩ | ⟨m, rfl, m1, m2, m3⟩
      · rw [show decide ((-1 : Int) < 0) = true from rfl]
        refine Ok.some ?_
        dsimp only
        refine ⟨⟨rfl, rfl, rfl, rfl, rfl, rfl, i + 1, by omega, rfl, .inr ⟨i, rfl, by omega, hx, ?_⟩⟩, by omega⟩
        intro k hk hk2
        rcases next k hk with hk | rfl
        · rw [h8 k hk] at hk2; cases hk2
        · exact Nat.le_refl _
      · rw [show decide ((m : Int) < 0) = false from decide_eq_false (by omega), kk_get h, kk_get (show m < q0.length by omega)]
        simp only [cond_false, bindS]
        by_cases hlt : kk q0 i < kk q0 m
        · rw [show decide ((q0.getD i 0#64).toNat < (q0.getD m 0#64).toNat) = true from decide_eq_true hlt]
          refine Ok.some ?_
          dsimp only
          refine ⟨⟨rfl, rfl, rfl, rfl, rfl, rfl, i + 1, by omega, rfl, .inr ⟨i, rfl, by omega, hx, ?_⟩⟩, by omega⟩
          intro k hk hk2
          rcases next k hk with hk | rfl
          · have := m3 k hk hk2; omega
          · exact Nat.le_refl _
        · rw [show decide ((q0.getD i 0#64).toNat < (q0.getD m 0#64).toNat) = false from decide_eq_false hlt]
          refine Ok.some ?_
          dsimp only
          refine ⟨⟨rfl, rfl, rfl, rfl, rfl, rfl, i + 1, by omega, rfl, .inr ⟨m, rfl, by omega, m2, ?_⟩⟩, by omega⟩
          intro k hk hk2
          rcases next k hk with hk | rfl
          · exact m3 k hk hk2
          · omega
    · simp only [Bool.not_true, cond_false]
      refine Ok.some ?_
      dsimp only
      refine ⟨⟨rfl, rfl, rfl, rfl, rfl, rfl, i + 1, by omega, rfl, ?_⟩, by omega⟩
      rcases e8 with ⟨rfl, h8⟩ | ⟨m, rfl, m1, m2, m3⟩
      · left
        refine ⟨rfl, fun k hk => ?_⟩
        rcases next k hk with hk | rfl
        · exact h8 k hk
        · exact hx
      · right
        refine ⟨m, rfl, by omega, m2, fun k hk hk2 => ?_⟩
        rcases next k hk with hk | rfl
        · exact m3 k hk hk2
        · rw [hx] at hk2; cases hk2
  · rw [show decide ((i : Int) < (q0.length : Int)) = false from decide_eq_false (by omega)]
    have : i = q0.length := by omega
    subst this
    exact Ok.some ⟨q4, rfl, e8⟩
theorem rdup_ok (keys : List (BitVec 64)) (v : List (List ApiItem)) (hk : keys.length ≤ 12) : Ok (passkeyref1_Map_L0 (keys, v, 0, ())) fun z => z = .inl ([], 10, ()) ∧ ¬ nd keys (List.range keys.length) ∨ z = .inr (keys, v, ()) ∧ nd keys (List.range keys.length) := by
  have snoc : ∀ i, nd keys (List.range (i + 1)) ↔ nd keys (List.range i) ∧ ∀ k, k < i → kk keys k ≠ kk keys i := by
    intro i
    unfold nd
    rw [List.range_succ, List.pairwise_append]
    simp
  have sub : ∀ i j, i ≤ j → nd keys (List.range j) → nd keys (List.range i) := by
    intro i j hij
    induction hij with
    | refl => exact id
    | step _ ih => intro h; exact ih ((snoc _).1 h).1
  unfold passkeyref1_Map_L0
  refine Ok.iter (fun q => q.1 = keys ∧ q.2.1 = v ∧ ∃ i : Nat, i ≤ keys.length ∧ q.2.2.1 = (i : Int) ∧ nd keys (List.range i)) (fun q => (keys.length - q.2.2.1).toNat) ⟨rfl, rfl, 0, by omega, rfl, List.Pairwise.nil⟩ (by rw [rounds_eq]; dsimp only; omega) ?_
  rintro ⟨q0, q1, q2, u⟩ ⟨e1, e2, i, hi, e3, e4⟩
  dsimp only at *
  subst e1; subst e2; subst e3
  simp only [passkeyref1_Map_L0b]
  by_cases h : i < q0.length
  · rw [show decide ((i : Int) < (q0.length : Int)) = true from decide_eq_true (by omega)]
    simp only [cond_true]
    refine Ok.bind (Ok.mono (Q := fun z => z = .inl ([], 10, ()) ∧ (∃ k, k < i ∧ kk q0 k = kk q0 i) ∨ z = .inr (q0, q1, (i : Int), ()) ∧ ∀ k, k < i → kk q0 k ≠ kk q0 i) ?_ ?_)
    · unfold passkeyref1_Map_L2
      refine Ok.iter (fun q => q.1 = q0 ∧ q.2.1 = q1 ∧ q.2.2.1 = (i : Int) ∧ ∃ j : Nat, j ≤ i ∧ q.2.2.2.1 = (j : Int) ∧ ∀ k, k < j → kk q0 k ≠ kk q0 i) (fun q => (i - q.2.2.2.1).toNat) ⟨rfl, rfl, rfl, 0, by omega, rfl, by simp⟩ (by rw [rounds_eq]; dsimp only; omega) ?_
      rintro ⟨p0, p1, p2, p3, u⟩ ⟨f1, f2, f3, j, hj, f4, f5⟩
      dsimp only at *
      subst f1; subst f2; subst f3; subst f4
      simp only [passkeyref1_Map_L2b]
      by_cases h2 : j < i
      · rw [show decide ((j : Int) < (i : Int)) = true from decide_eq_true (by omega), kk_get (show j < p0.length by omega), kk_get h]
        simp only [cond_true, bindS]
        rw [key_eq]
        by_cases h3 : kk p0 j = kk p0 i
        · rw [show decide (kk p0 j = kk p0 i) = true from decide_eq_true h3]
          exact Ok.some (.inl ⟨rfl, j, h2, h3⟩)
        · rw [show decide (kk p0 j = kk p0 i) = false from decide_eq_false h3, wrap_id (n := (j : Int) + 1) (by omega) (by omega)]
          refine Ok.some ?_
          dsimp only
          refine ⟨⟨rfl, rfl, rfl, j + 1, by omega, rfl, fun k hk => ?_⟩, by omega⟩
          by_cases hkj : k < j
          · exact f5 k hkj
          · have : k = j := by omega
            subst this; exact h3
      · rw [show decide ((j : Int) < (i : Int)) = false from decide_eq_false (by omega)]
        exact Ok.some (.inr ⟨rfl, fun k hk => f5 k (by omega)⟩)
    · rintro z (⟨rfl, k, h1, h2⟩ | ⟨rfl, h1⟩)
      · refine Ok.some (.inl ⟨rfl, fun hn => ?_⟩)
        exact ((snoc i).1 (sub (i + 1) _ (by omega) hn)).2 k h1 h2
      · simp only [Sum.elim_inr]
        rw [wrap_id (n := (i : Int) + 1) (by omega) (by omega)]
        refine Ok.some ?_
        dsimp only
        exact ⟨⟨rfl, rfl, i + 1, by omega, rfl, (snoc i).2 ⟨e4, h1⟩⟩, by omega⟩
  · rw [show decide ((i : Int) < (q0.length : Int)) = false from decide_eq_false (by omega)]
    have : i = q0.length := by omega
    subst this
    exact Ok.some (.inr ⟨rfl, e4⟩)
theorem rfau_ok (keys : List (BitVec 64)) (v : List (List ApiItem)) (hv : light1 v) (hl : v.length ≤ 1000) : passkeyref1_Map_L4 (keys, v, 0, ()) = some (bif decide (fau v = 0) then .inr (keys, v, ()) else .inl ([], fau v, ())) := by
  have key : ∀ (r : List (List ApiItem)) (j f : Nat), v.drop j = r → r.length < f → iter (fun (y : ((List (BitVec 64)) × (List (List ApiItem)) × Int × Unit)) => passkeyref1_Map_L4b y.1 y.2.1 y.2.2.1) f (keys, v, (j : Int), ()) = some (bif decide (fau r = 0) then .inr (keys, v, ()) else .inl ([], fau r, ())) := by
    intro r
    induction r with
    | nil =>
      intro j f hr hf
      obtain ⟨f, rfl⟩ : ∃ g, f = g + 1 := ⟨f - 1, by omega⟩
      have hjl : v.length ≤ j := by
        have := congrArg List.length hr
        simp at this
        omega
      rw [iter_succ]
      dsimp only
      unfold passkeyref1_Map_L4b
      rw [show decide ((j : Int) < (v.length : Int)) = false from decide_eq_false (by omega)]
      rfl
    | cons l r ih =>
      intro j f hr hf
      obtain ⟨f, rfl⟩ : ∃ g, f = g + 1 := ⟨f - 1, by omega⟩
      obtain ⟨d1, d2, d3, d4⟩ := drop_cons hr
      have hm := hv l (List.mem_of_getElem? d1)
      have e1 : passkeyref1_Map_L4b keys v (j : Int) = bif decide (valO l = 0) then some (Sum.inl (keys, v, ((j + 1 : Nat) : Int), ())) else some (Sum.inr (Sum.inl ([], valO l, ()))) := by
        unfold passkeyref1_Map_L4b
        rw [show decide ((j : Int) < (v.length : Int)) = true from decide_eq_true (by omega), getI_nat d1, wrap_id (n := (j : Int) + 1) (by omega) (by omega)]
        simp only [cond_true, bindS]
        rw [rValidate_ok l (by omega) hm.2]
        simp only [bindS]
        cases decide (valO l = 0) <;> rfl
      rw [iter_succ]
      dsimp only
      rw [e1]
      unfold fau
      by_cases h0 : valO l = 0
      · rw [show decide (valO l = 0) = true from decide_eq_true h0]
        exact ih (j + 1) f d2 (by simp at hf; omega)
      · rw [show decide (valO l = 0) = false from decide_eq_false h0]
        simp only [cond_false, bindS, Sum.elim_inr]
        rw [show decide (valO l = 0) = false from decide_eq_false h0]
        rfl
  unfold passkeyref1_Map_L4
  exact key v 0 rounds rfl (by rw [rounds_eq]; omega)
theorem rcol_ok (keys : List (BitVec 64)) (v : List (List ApiItem)) (h : ApiItem) (hk : keys.length ≤ 12) (hl : keys.length = v.length) (hv : light1 v) (o : List Nat) (ho : o.Perm (List.range keys.length)) (hs : srt keys o) (hn : nd keys o) :
    Ok (passkeyref1_Map_L6 (keys, v, [h], List.replicate keys.length false, (keys.length : Int), 0, ())) fun z => z = (h :: (prO keys v o).flatten, ()) := by
  have hol : o.length = keys.length := by rw [ho.length_eq, List.length_range]
  have hnodup : o.Nodup := ho.nodup_iff.2 List.nodup_range
  unfold passkeyref1_Map_L6
  refine Ok.iter (fun q => q.1 = keys ∧ q.2.1 = v ∧ q.2.2.2.2.1 = (keys.length : Int) ∧ q.2.2.2.1.length = keys.length ∧ ∃ i : Nat, i ≤ keys.length ∧ q.2.2.2.2.2.1 = (i : Int) ∧ q.2.2.1 = h :: (prO keys v (o.take i)).flatten ∧ ∀ k, k < keys.length → q.2.2.2.1[k]? = some (decide (k ∈ o.take i))) (fun q => (keys.length - q.2.2.2.2.2.1).toNat) ⟨rfl, rfl, rfl, by simp, 0, by omega, rfl, by simp [prO], fun k hk => by simp [hk]⟩ (by rw [rounds_eq]; dsimp only; omega) ?_
  rintro ⟨q0, q1, q2, q3, q4, q5, u⟩ ⟨e1, e2, e3, e4, i, hi, e5, e6, e7⟩
  dsimp only at *
  subst e1; subst e2; subst e3; subst e5; subst e6
  simp only [passkeyref1_Map_L6b]
  by_cases hlt : i < q0.length
  · rw [show decide ((i : Int) < (q0.length : Int)) = true from decide_eq_true (by omega)]
    simp only [cond_true]
    refine Ok.bind (Ok.mono (sel_ok q0 q1 (h :: (prO q0 q1 (o.take i)).flatten) q3 (q0.length : Int) (i : Int) hk e4) ?_)
    rintro _ ⟨best, rfl, hb⟩
    dsimp only
    obtain ⟨m, hm⟩ : ∃ m, o[i]? = some m := ⟨o[i], by simp [hol, hlt]⟩
    have hmo : m ∈ o := List.mem_of_getElem? hm
    have hml := range_lt ho m hmo
    have hsplit : o = o.take i ++ m :: o.drop (i + 1) := by
      have h1 := List.take_append_drop i o
      rw [List.drop_eq_getElem_cons (show i < o.length by omega)] at h1
      rw [List.getElem?_eq_getElem (show i < o.length by omega)] at hm
      rw [Option.some.inj hm] at h1
      exact h1.symm
    have hnd2 := hnodup
    rw [hsplit, List.nodup_append] at hnd2
    have hmt : m ∉ o.take i := fun hx => hnd2.2.2 m hx m (by simp) rfl
    have hdm : q3[m]? = some false := by rw [e7 m hml, decide_eq_false hmt]
    rcases hb with ⟨_, hb⟩ | ⟨b, rfl, b1, b2, b3⟩
    · rw [hb m hml] at hdm; cases hdm
    · have hle := b3 m hml hdm
      have hbt : b ∉ o.take i := by
        intro hx
        rw [e7 b b1, decide_eq_true hx] at b2
        cases b2
      have hbo : b ∈ o := ho.mem_iff.2 (List.mem_range.2 b1)
      have hbm : b = m := by
        rw [hsplit] at hbo hs hn
        unfold srt nd at *
        rcases List.mem_append.1 hbo with hx | hx
        · exact absurd hx hbt
        · rcases List.mem_cons.1 hx with hx | hx
          · exact hx
          · have h1 := (List.pairwise_cons.1 (List.pairwise_append.1 hs).2.1).1 b hx
            have h2 := (List.pairwise_cons.1 (List.pairwise_append.1 hn).2.1).1 b hx
            omega
      subst hbm
      have htl : (o.take (i + 1)) = o.take i ++ [b] := by
        rw [List.take_add_one, hm]; rfl
      obtain ⟨l1, l2⟩ := prO_light (keys := q0) hv (o.take i)
      have l3 : (o.take i).length ≤ 12 := by rw [List.length_take]; omega
      have l4 : (o.take i).length * 601 ≤ 12 * 601 := Nat.mul_le_mul_right _ l3
      have l5 := (light1_get hv b).1
      rw [two_ok (by omega) (show (b : Int) < (q3.length : Int) by omega), Int.toNat_natCast, b2, kk_get b1]
      simp only [cond_true, bindS]
      rw [small32 (by simp only [List.length_cons, List.length_nil]; omega), getD_get (show b < q1.length by omega)]
      simp only [cond_true, bindS]
      rw [small32 (by simp only [List.length_append, List.length_cons, List.length_nil]; omega), wrap_id (n := (i : Int) + 1) (by omega) (by omega)]
      refine Ok.some ?_
      dsimp only
      refine ⟨⟨rfl, rfl, rfl, by rw [List.length_set]; exact e4, i + 1, by omega, rfl, ?_, ?_⟩, by omega⟩
      · rw [htl]
        simp [prO]
      · intro k hk2
        rw [htl]
        by_cases hkb : k = b
        · subst hkb
          rw [List.getElem?_set_self (by omega)]
          simp
        · rw [List.getElem?_set_ne (by omega), e7 k hk2]
          congr 1
          rw [decide_eq_decide]
          simp [hkb]
  · rw [show decide ((i : Int) < (q0.length : Int)) = false from decide_eq_false (by omega)]
    refine Ok.some ?_
    rw [List.take_of_length_le (by omega)]
theorem rMap_ok (keys : List (BitVec 64)) (v : List (List ApiItem)) (hk : keys.length ≤ 12) (hl : keys.length = v.length) (hv : light1 v) (o : List Nat) (ho : o.Perm (List.range keys.length)) (hs : srt keys o) : passkeyref1_Map keys v = some ((), (mapO keys v o).1, (mapO keys v o).2, ()) := by
  unfold passkeyref1_Map
  rw [show decide ((keys.length : Int) = (v.length : Int)) = true from decide_eq_true (by omega)]
  simp only [Bool.not_true, cond_false]
  obtain ⟨z, h1, h2⟩ := rdup_ok keys v hk
  rw [h1]
  simp only [bindS]
  unfold mapO
  have hnp := nd_perm (keys := keys) ho
  rcases h2 with ⟨rfl, h2⟩ | ⟨rfl, h2⟩
  · have : adj keys o = true := by
      cases h : adj keys o
      · exact absurd (hnp.1 ((adj_nd hs).1 h)) h2
      · rfl
    rw [this]
    rfl
  · have hn := hnp.2 h2
    rw [(adj_nd hs).2 hn]
    simp only [Sum.elim_inr, cond_false]
    rw [rfau_ok keys v hv (by omega)]
    by_cases h0 : fau v = 0
    · rw [show decide (fau v = 0) = true from decide_eq_true h0]
      simp only [cond_true, bindS, Sum.elim_inr, Bool.not_true, cond_false]
      rw [show (decide ((0 : Int) ≤ (keys.length : Int)) && (decide ((keys.length : Int) ≤ (keys.length : Int)) && decide ((1 : Int) * (keys.length : Int) ≤ 281474976710656 ∧ (keys.length : Int) ≤ 9223372036854775807))) = true by simp; omega]
      simp only [cond_true, Int.toNat_natCast]
      obtain ⟨_, c1, rfl⟩ := rcol_ok keys v ⟨6, BitVec.ofInt 64 (keys.length : Int), []⟩ hk hl hv o ho hs hn
      rw [c1]
      simp only [bindS]
      obtain ⟨l1, l2⟩ := prO_light (keys := keys) hv o
      have hol : o.length = keys.length := by rw [ho.length_eq, List.length_range]
      rw [rValidate_ok _ (by simp only [List.length_cons]; omega) (fun x hx => by
        rcases List.mem_cons.1 hx with rfl | hx
        · simp
        · exact l2 x hx)]
      simp only [bindS]
      by_cases h3 : valO (⟨6, BitVec.ofInt 64 (keys.length : Int), []⟩ :: (prO keys v o).flatten) = 0
      · rw [h3]; rfl
      · rw [show decide (valO (⟨6, BitVec.ofInt 64 (keys.length : Int), []⟩ :: (prO keys v o).flatten) = 0) = false from decide_eq_false h3]; rfl
    · rw [show decide (fau v = 0) = false from decide_eq_false h0]
      rfl
theorem skp_app : ∀ (l r : List ApiItem) (need m : Nat), skp l need = some l.length → skp (l ++ r) (need + m) = (skp r m).map (· + l.length)
  | [], r, need, m, h => by
    cases need with
    | zero => simp only [List.nil_append, Nat.zero_add, List.length_nil]; exact map0 _
    | succ k => simp [skp] at h
  | x :: t, r, need, m, h => by
    cases need with
    | zero => rw [skp_zero] at h; simp at h
    | succ k =>
      simp only [skp, List.cons_append, Nat.succ_add] at h ⊢
      cases hb : (isN x.kind && decide (512 < x.number.toNat))
      · rw [hb] at h
        simp only [cond_false] at h ⊢
        have h2 : skp t (k + addI x) = some t.length := by
          cases hq : skp t (k + addI x) with
          | none => rw [hq] at h; simp at h
          | some n => rw [hq] at h; simp at h; rw [h]
        have ih := skp_app t r (k + addI x) m h2
        rw [show k + m + addI x = k + addI x + m by omega, ih, mapmap, List.length_cons, Nat.add_comm 1]
      · rw [hb] at h
        simp at h
theorem skp_val {l : List ApiItem} (h : valO l = 0) (r : List ApiItem) (m : Nat) : skp (l ++ r) (m + 1) = (skp r m).map (· + l.length) := by
  have hw := valO_W h
  have h1 := W_skp 12 l 0 0 false [] (by rw [hw]) 0
  rw [hw, skp_zero] at h1
  have h2 : skp l 1 = some l.length := by rw [h1]; simp
  rw [Nat.add_comm m 1]
  exact skp_app l r 1 m h2
theorem fau_zero : ∀ {v : List (List ApiItem)}, fau v = 0 → ∀ l ∈ v, valO l = 0
  | [], _, l, hl => by cases hl
  | q :: r, h, l, hl => by
    unfold fau at h
    by_cases h0 : valO q = 0
    · rw [show decide (valO q = 0) = true from decide_eq_true h0] at h
      rcases List.mem_cons.1 hl with rfl | hl
      · exact h0
      · exact fau_zero h l hl
    · rw [show decide (valO q = 0) = false from decide_eq_false h0] at h
      exact absurd h h0
theorem pairs_prO {keys : List (BitVec 64)} {v : List (List ApiItem)} (hf : fau v = 0) : ∀ o : List Nat, (∀ i ∈ o, i < v.length) → PairsAt o.length (prO keys v o).flatten [] (o.map fun i => (⟨1, keys.getD i 0#64, []⟩, v.getD i []))
  | [], _ => PairsAt.nil []
  | i :: r, h => by
    have hi := h i (by simp)
    have hm : v.getD i [] ∈ v := by
      rw [List.getD_eq_getElem?_getD, List.getElem?_eq_getElem hi]
      exact List.getElem_mem hi
    have hv := fau_zero hf _ hm
    have ih := pairs_prO (keys := keys) hf r fun j hj => h j (by simp [hj])
    exact PairsAt.cons (x := ⟨1, keys.getD i 0#64, []⟩) rfl (fun m => skp_val hv _ m) (valO_ne hv) ih
theorem lkP_find {keys : List (BitVec 64)} {v : List (List ApiItem)} (i : Nat) : ∀ o : List Nat, nd keys o → i ∈ o → lkP (keys.getD i 0#64) (o.map fun i => (⟨1, keys.getD i 0#64, []⟩, v.getD i [])) = (v.getD i [], true)
  | [], _, h => by cases h
  | j :: r, hn, h => by
    unfold nd at hn
    obtain ⟨h1, h2⟩ := List.pairwise_cons.1 hn
    simp only [List.map_cons, lkP]
    by_cases hij : i = j
    · subst hij
      simp
    · have hr : i ∈ r := by
        rcases List.mem_cons.1 h with h | h
        · exact absurd h hij
        · exact h
      have hne := h1 i hr
      have : decide (keys.getD j 0#64 = keys.getD i 0#64) = false := by
        rw [key_eq]
        exact decide_eq_false hne
      rw [this, Bool.and_false]
      simp only [cond_false]
      exact lkP_find i r h2 hr
theorem bool_valid : light1 [[(⟨7, 1#64, []⟩ : ApiItem)]] := by
  intro l hl
  simp at hl
  subst hl
  simp
theorem vals_ok (keys : List (BitVec 64)) (l : List Int) (a : Int) (hk : keys.length ≤ 12) : Ok (passkeylaw1_CborMaps_L0 (keys, l, a, [], 0, ())) fun z => ∃ v, z = (keys, a, v, ()) ∧ v.length = keys.length ∧ ∀ o ∈ v, Tre o := by
  unfold passkeylaw1_CborMaps_L0
  refine Ok.iter (fun q => q.1 = keys ∧ q.2.1 = l ∧ q.2.2.1 = a ∧ ∃ i : Nat, i ≤ keys.length ∧ q.2.2.2.2.1 = (i : Int) ∧ q.2.2.2.1.length = i ∧ ∀ o ∈ q.2.2.2.1, Tre o) (fun q => (keys.length - q.2.2.2.2.1).toNat) ⟨rfl, rfl, rfl, 0, by omega, rfl, rfl, by simp⟩ (by rw [rounds_eq]; dsimp only; omega) ?_
  rintro ⟨q0, q1, q2, q3, q4, u⟩ ⟨e1, e2, e3, i, hi, e4, e5, e6⟩
  dsimp only at *
  subst e1; subst e2; subst e3; subst e4
  simp only [passkeylaw1_CborMaps_L0b]
  by_cases h : i < q0.length
  · rw [show decide ((i : Int) < (q0.length : Int)) = true from decide_eq_true (by omega), wrap_id (n := (2 : Int) * (i : Int)) (by omega) (by omega)]
    simp only [cond_true]
    have hmin : (decide ((0 : Int) ≤ (bif decide ((2 : Int) * (i : Int) < (q1.length : Int)) then (2 : Int) * (i : Int) else (q1.length : Int))) && decide ((bif decide ((2 : Int) * (i : Int) < (q1.length : Int)) then (2 : Int) * (i : Int) else (q1.length : Int)) ≤ (q1.length : Int))) = true := by
      rw [Bool.and_eq_true, decide_eq_true_eq, decide_eq_true_eq]
      by_cases hc : (2 : Int) * (i : Int) < (q1.length : Int)
      · rw [decide_eq_true hc]
        exact ⟨by show (0 : Int) ≤ 2 * (i : Int); omega, by show (2 : Int) * (i : Int) ≤ _; omega⟩
      · rw [decide_eq_false hc]
        exact ⟨by show (0 : Int) ≤ (q1.length : Int); omega, Int.le_refl _⟩
    rw [hmin]
    simp only [cond_true]
    refine Ok.bind (Ok.mono (Tree_ok _) ?_)
    rintro ⟨_, t, _⟩ ht
    dsimp only at ht ⊢
    rw [small24 (by simp; omega), wrap_id (n := (i : Int) + 1) (by omega) (by omega)]
    refine Ok.some ?_
    dsimp only
    refine ⟨⟨rfl, rfl, rfl, i + 1, by omega, rfl, by simp [e5], ?_⟩, by omega⟩
    intro o ho
    rcases List.mem_append.1 ho with ho | ho
    · exact e6 o ho
    · simp at ho; subst ho; exact ht
  · rw [show decide ((i : Int) < (q0.length : Int)) = false from decide_eq_false (by omega)]
    exact Ok.some ⟨q3, rfl, by omega, e6⟩
theorem mapO_len {keys : List (BitVec 64)} {v : List (List ApiItem)} {o : List Nat} (hv : light1 v) (ho : o.length ≤ 12) : (mapO keys v o).1.length < 1000000 := by
  obtain ⟨l1, l2⟩ := prO_light (keys := keys) hv o
  unfold mapO
  cases adj keys o
  · cases decide (fau v = 0)
    · simp
    · cases decide (valO (⟨6, BitVec.ofInt 64 (keys.length : Int), []⟩ :: (prO keys v o).flatten) = 0)
      · simp
      · show (_ :: _).length < _
        rw [List.length_cons]; omega
  · simp
theorem arrO_len {v : List (List ApiItem)} (hv : light1 v) (hl : v.length ≤ 13) : (arrO v).1.length < 1000000 := by
  obtain ⟨l1, l2⟩ := light1_flat hv
  unfold arrO
  cases decide (fau v = 0)
  · simp
  · cases decide (valO (⟨5, BitVec.ofInt 64 (v.length : Int), []⟩ :: v.flatten) = 0)
    · simp
    · show (_ :: _).length < _
      rw [List.length_cons]; omega
theorem both_ok (keys : List (BitVec 64)) (v : List (List ApiItem)) (hk : keys.length ≤ 12) (hv : light1 v) : ∃ (l : List ApiItem) (e : Int), cbor_Map keys v = some ((), l, e, ()) ∧ passkeyref1_Map keys v = some ((), l, e, ()) ∧ l.length < 1000000 ∧ (e = 0 → keys.length = v.length ∧ ∃ o : List Nat, o.Perm (List.range keys.length) ∧ nd keys o ∧ fau v = 0 ∧ valO l = 0 ∧ l = ⟨6, BitVec.ofInt 64 (keys.length : Int), []⟩ :: (prO keys v o).flatten) := by
  by_cases hl : keys.length = v.length
  · obtain ⟨o, h1, h2, h3⟩ := Map_ok keys v hk hl hv
    have h4 := rMap_ok keys v hk hl hv o h1 h2
    have hol : o.length ≤ 12 := by rw [h1.length_eq, List.length_range]; exact hk
    refine ⟨_, _, h3, h4, mapO_len hv hol, fun he => ⟨hl, o, h1, ?_⟩⟩
    unfold mapO at he ⊢
    cases ha : adj keys o
    · rw [ha] at he
      simp only [cond_false] at he ⊢
      by_cases h0 : fau v = 0
      · rw [show decide (fau v = 0) = true from decide_eq_true h0] at he ⊢
        simp only [Bool.not_true, cond_false] at he ⊢
        by_cases h5 : valO (⟨6, BitVec.ofInt 64 (keys.length : Int), []⟩ :: (prO keys v o).flatten) = 0
        · rw [show decide (valO (⟨6, BitVec.ofInt 64 (keys.length : Int), []⟩ :: (prO keys v o).flatten) = 0) = true from decide_eq_true h5]
          exact ⟨(adj_nd h2).1 ha, h0, h5, rfl⟩
        · rw [show decide (valO (⟨6, BitVec.ofInt 64 (keys.length : Int), []⟩ :: (prO keys v o).flatten) = 0) = false from decide_eq_false h5] at he
          exact absurd he h5
      · rw [show decide (fau v = 0) = false from decide_eq_false h0] at he
        exact absurd he h0
    · rw [ha] at he
      exact absurd (show (10 : Int) = 0 from he) (by decide)
  · refine ⟨[], 4, ?_, ?_, by simp, fun h => absurd h (by decide)⟩
    · unfold cbor_Map
      rw [show decide ((keys.length : Int) = (v.length : Int)) = false from decide_eq_false (by omega)]
      rfl
    · unfold passkeyref1_Map
      rw [show decide ((keys.length : Int) = (v.length : Int)) = false from decide_eq_false (by omega)]
      rfl
theorem CborMaps_plain (a0 : List (BitVec 64)) (a1 : List Int) (a2 : Int) (hd : CborMaps_dom a0 a1 a2) : Ok (passkeylaw1_CborMaps a0 a1 a2) fun r => r.2.1 = true := by
  unfold passkeylaw1_CborMaps
  refine Ok.cond (fun _ => awakeOk) (fun h0 => ?_)
  simp only [decide_eq_false_iff_not] at h0
  have hk : a0.length ≤ 12 := by omega
  refine Ok.bind (Ok.mono (vals_ok a0 a1 a2 hk) ?_)
  rintro _ ⟨v, rfl, v1, v2⟩
  dsimp only
  have hv : light1 v := fun l hl => ⟨by have := (v2 l hl).len; omega, (v2 l hl).d5⟩
  -- one more value
  refine Ok.bind (Ok.mono (Q := fun j => ∃ v', j = (a0, a2, v', ()) ∧ v'.length ≤ 13 ∧ light1 v' ∧ ((∀ o ∈ v', Tre o) ∨ ¬ (IntKind.wrap .i64 ((BitVec.ofInt (IntKind.bits .i64) a2 &&& BitVec.ofInt (IntKind.bits .i64) (15 : Int)).toNat : Int)) = 1)) ?_ ?_)
  · refine Ok.cond (fun h => ?_) (fun h => ?_)
    · simp only [decide_eq_true_eq] at h
      simp only [cbor_Bool, cond_true, bindS]
      rw [small24 (by simp; omega)]
      refine Ok.some ⟨v ++ [[⟨7, 1#64, []⟩]], rfl, by simp; omega, ?_, .inr (by rw [h]; decide)⟩
      intro l hl
      rcases List.mem_append.1 hl with hl | hl
      · exact hv l hl
      · exact bool_valid l hl
    · exact Ok.some ⟨v, rfl, by omega, hv, .inl v2⟩
  rintro _ ⟨w, rfl, w1, w2, w3⟩
  dsimp only
  -- a value that was changed
  refine Ok.bind (Ok.mono (Q := fun j => ∃ v', j = (a0, v', ()) ∧ v'.length ≤ 13 ∧ light1 v') ?_ ?_)
  · refine Ok.cond (fun h => ?_) (fun h => Ok.some ⟨w, rfl, w1, w2⟩)
    simp only [decide_eq_true_eq] at h
    have hT : ∀ o ∈ w, Tre o := by
      rcases w3 with w3 | w3
      · exact w3
      · exact absurd h w3
    refine Ok.cond (fun hp => ?_) (fun _ => Ok.some ⟨w, rfl, w1, w2⟩)
    rw [hp]
    simp only [decide_eq_true_eq] at hp
    cases w with
    | nil => simp at hp
    | cons t r =>
      have ht := hT t (by simp)
      rw [show (t :: r)[0]? = some t from rfl]
      simp only [cond_true, bindS]
      obtain ⟨n, hn, en⟩ := mask (Int.fdiv a2 (2 ^ (min 4 (IntKind.bits .i64)))) 1048575 (by omega)
      rw [show ((1048575 : Nat) : Int) = 1048575 from rfl] at en
      rw [en]
      refine Ok.bind (Ok.mono (spoil_ok t n ht.ne (by have := ht.len; omega) ht.data) ?_)
      rintro ⟨_, y, _⟩ ⟨s1, s2⟩
      dsimp only at s1 s2 ⊢
      refine Ok.some ⟨y :: r, rfl, by simpa using w1, ?_⟩
      intro l hl
      rcases List.mem_cons.1 hl with rfl | hl
      · exact ⟨by omega, fun z hz => by have := s2 z hz; omega⟩
      · exact w2 l (by simp [hl])
  rintro _ ⟨v', rfl, x1, x2⟩
  dsimp only
  obtain ⟨l, e, m1, m2, m3, m4⟩ := both_ok a0 v' hk x2
  rw [m1, m2, Array_ok v' x2 (by omega), rArray_ok v' x2 (by omega)]
  simp only [bindS, decide_true, Bool.not_true, cond_false]
  rw [SameItems_ok _ _ (by omega), SameItems_ok _ _ (by have := arrO_len x2 x1; omega)]
  simp only [bindS, decide_true, Bool.not_true, cond_false]
  refine Ok.bind (Ok.mono (Q := fun z => z = .inr ()) ?_ ?_)
  · unfold passkeylaw1_CborMaps_L2
    refine Ok.iter (fun q => q.1 = a0 ∧ q.2.1 = v' ∧ q.2.2.1 = l ∧ q.2.2.2.1 = e ∧ ∃ i : Nat, i ≤ a0.length ∧ q.2.2.2.2.1 = (i : Int)) (fun q => (a0.length - q.2.2.2.2.1).toNat) ⟨rfl, rfl, rfl, rfl, 0, by omega, rfl⟩ (by rw [rounds_eq]; dsimp only; omega) ?_
    rintro ⟨q0, q1, q2, q3, q4, u⟩ ⟨e1, e2, e3, e4, i, hi, e5⟩
    dsimp only at *
    subst e1; subst e2; subst e3; subst e4; subst e5
    simp only [passkeylaw1_CborMaps_L2b]
    refine Ok.cond (fun hlt => ?_) (fun _ => Ok.some rfl)
    refine Ok.cond (fun he => ?_) (fun _ => Ok.some rfl)
    simp only [decide_eq_true_eq] at hlt he
    obtain ⟨hl, o, o1, o2, o3, o4, o5⟩ := m4 he
    have hol : o.length = q0.length := by rw [o1.length_eq, List.length_range]
    have hq2 : ∀ x ∈ q2, x.data.length < 100000 := fun x hx => by have := ((valO_zero o4).2 x hx).2; omega
    obtain ⟨w, b, k1, _, k3, k4⟩ := Lookup_both q2 (q0.getD i 0#64) m3 hq2
    have hnum : (BitVec.ofInt 64 (q0.length : Int)).toNat = q0.length := by rw [BitVec.ofInt_natCast, BitVec.toNat_ofNat, Nat.mod_eq_of_lt (by omega)]
    have hpa := pairs_prO (keys := q0) o3 o fun j hj => by have := range_lt o1 j hj; omega
    have hwb := k4 ⟨6, BitVec.ofInt 64 (q0.length : Int), []⟩ (prO q0 q1 o).flatten o5 rfl o4 _ (by dsimp only; rw [hnum, ← hol]; exact hpa)
    have hio : i ∈ o := o1.mem_iff.2 (List.mem_range.2 (by omega))
    rw [lkP_find i o o2 hio] at hwb
    obtain ⟨rfl, rfl⟩ := Prod.mk.inj hwb
    rw [kk_get (show i < q0.length by omega)]
    simp only [bindS]
    rw [k1]
    simp only [bindS, Bool.not_true, cond_false]
    rw [getD_get (show i < q1.length by omega)]
    simp only [bindS]
    rw [SameItems_ok _ _ (by omega), wrap_id (n := (i : Int) + 1) (by omega) (by omega)]
    simp only [bindS, decide_true, Bool.not_true, cond_false]
    refine Ok.some ?_
    dsimp only
    exact ⟨⟨rfl, rfl, rfl, rfl, i + 1, by omega, rfl⟩, by omega⟩
  · rintro _ rfl
    exact awakeOk
end Go.Proofs.YtjedfmknnkimmaaDoor

/- cbor: what Decode of the program computes. No condition. -/
import Derived.Test.YtjedfmknnkimmaaDoorCborH
set_option linter.unusedVariables false
set_option linter.unusedSimpArgs false
set_option maxRecDepth 100000
namespace Go.Proofs.YtjedfmknnkimmaaDoor
open Go Go.Abs

/-! ### the walk inside a reader -/
theorem iter_lift {σ τ ρ ρ' : Type} {f : σ → Option (σ ⊕ ρ)} {f' : τ → Option (τ ⊕ ρ')} {e : σ → τ} {g : ρ → ρ'} (h : ∀ s, f' (e s) = (f s).map (Sum.map e g)) : ∀ n s, iter f' n (e s) = (iter f n s).map g
  | 0, s => rfl
  | n + 1, s => by
    rw [iter_succ, iter_succ, h s]
    cases hs : f s with
    | none => rfl
    | some z =>
      cases z with
      | inl q => exact iter_lift h n q
      | inr r => rfl
theorem bind_lift {α β γ δ : Type} {X : Option α} {X' : Option β} {e : α → β} {F : α → Option γ} {F' : β → Option δ} {g : γ → δ} (h1 : X' = X.map e) (h2 : ∀ y, F' (e y) = (F y).map g) : X'.bind F' = (X.bind F).map g := by
  rw [h1]
  cases X with
  | none => rfl
  | some y => exact h2 y
theorem bind_same {α γ δ : Type} {X : Option α} {F : α → Option γ} {F' : α → Option δ} {g : γ → δ} (h2 : ∀ y, F' y = (F y).map g) : X.bind F' = (X.bind F).map g := by
  cases X with
  | none => rfl
  | some y => exact h2 y
theorem cond_lift {γ δ : Type} {c : Bool} {a b : Option γ} {a' b' : Option δ} {g : γ → δ} (h1 : a' = a.map g) (h2 : b' = b.map g) : (bif c then a' else b') = (bif c then a else b).map g := by
  cases c
  · exact h2
  · exact h1
abbrev Wk := List CborFrame × Int × Unit
abbrev Rd := List CborFrame × Int × List UInt8 × Int × Unit
def rdo (bs : List UInt8) (at0 : Int) (w : Wk) : Rd := (w.1, w.2.1, bs, at0, ())
theorem stepL_lift (bs : List UInt8) (at0 : Int) (y : Wk × Int × Unit) : cbor_walk_step_1_L0 (rdo bs at0 y.1, y.2.1, ()) = (cbor_walk_step_L0 y).map fun z => (rdo bs at0 z.1, ()) := by
  unfold cbor_walk_step_1_L0 cbor_walk_step_L0
  refine iter_lift (e := fun y : Wk × Int × Unit => ((rdo bs at0 y.1, y.2.1, ()) : Rd × Int × Unit)) (g := fun z : Wk × Unit => ((rdo bs at0 z.1, ()) : Rd × Unit)) (fun s => ?_) _ y
  dsimp only
  unfold cbor_walk_step_1_L0b cbor_walk_step_L0b rdo
  dsimp only
  refine cond_lift (cond_lift (bind_same fun x => cond_lift (cond_lift (cond_lift rfl rfl) rfl) rfl) rfl) rfl
theorem step_lift (bs : List UInt8) (at0 : Int) (w : Wk) (x : ApiItem) : cbor_walk_step_1 (rdo bs at0 w) x = (cbor_walk_step w x).map fun r => ((rdo bs at0 r.1.1, ()), ()) := by
  unfold cbor_walk_step_1 cbor_walk_step
  refine bind_lift (e := fun j : Wk × (ApiItem × Unit) × Unit => ((rdo bs at0 j.1, j.2.1, ()) : Rd × (ApiItem × Unit) × Unit)) ?_ fun y => ?_
  · exact cond_lift (cond_lift (bind_same fun x => cond_lift (bind_same fun y => rfl) rfl) rfl) rfl
  · refine bind_lift (e := fun j : Wk × (ApiItem × Unit) × Unit => ((rdo bs at0 j.1, j.2.1, ()) : Rd × (ApiItem × Unit) × Unit)) ?_ fun y => ?_
    · exact cond_lift (cond_lift (cond_lift rfl rfl) rfl) rfl
    · refine bind_lift (e := fun j : Wk × Unit => ((rdo bs at0 j.1, ()) : Rd × Unit)) ?_ fun y => ?_
      · exact cond_lift (cond_lift (cond_lift rfl rfl) rfl) rfl
      · refine bind_lift (e := fun j : Wk × Unit => ((rdo bs at0 j.1, ()) : Rd × Unit)) (stepL_lift bs at0 (y.1, (y.1.1.length : Int), ())) fun z => rfl
theorem accept_lift (bs : List UInt8) (at0 : Int) (w : Wk) (x : ApiItem) : cbor_walk_accept_1 (rdo bs at0 w) x = (cbor_walk_accept w x).map fun r => ((rdo bs at0 r.1.1, ()), r.2) := by
  have K : ∀ w : Wk, (cbor_walk_step_1 (rdo bs at0 w) x).bind (fun r13 => some (((r13.1.1.1, r13.1.1.2.1, r13.1.1.2.2.1, r13.1.1.2.2.2.1, ()), ()), ((0 : Int), ()))) = ((cbor_walk_step w x).bind (fun r25 => some (((r25.1.1.1, r25.1.1.2.1, ()), ()), ((0 : Int), ())))).map fun (r : (Wk × Unit) × (Int × Unit)) => (((rdo bs at0 r.1.1, ()), r.2) : (Rd × Unit) × (Int × Unit)) := fun w =>
    bind_lift (step_lift bs at0 w x) fun z => rfl
  unfold cbor_walk_accept_1 cbor_walk_accept
  refine cond_lift (bind_same fun r => cond_lift rfl (bind_same fun r2 => cond_lift (cond_lift (bind_same fun r3 => bind_same fun x4 => cond_lift (bind_same fun x5 => bind_same fun r6 => cond_lift rfl (bind_same fun x7 => cond_lift rfl (K (_, _, ())))) (bind_same fun x10 => cond_lift rfl (K (_, _, ())))) rfl) (K (_, _, ())))) (bind_same fun r2 => cond_lift (cond_lift (bind_same fun r3 => bind_same fun x4 => cond_lift (bind_same fun x5 => bind_same fun r6 => cond_lift rfl (bind_same fun x7 => cond_lift rfl (K (_, _, ())))) (bind_same fun x10 => cond_lift rfl (K (_, _, ())))) rfl) (K (_, _, ())))
theorem accept1_ok (bs : List UInt8) (at0 : Int) (S : List CborFrame) (n : Nat) (x : ApiItem) (hk : kin x) (hd : x.data.length < 100000) (hl : S.length < 100000) (hn : n < 1000000) (hw : ∀ f ∈ S, -10 ≤ f.left ∧ f.left ≤ 2000) (hx : isN x.kind = true → x.number.toNat ≤ 512) :
    cbor_walk_accept_1 (S.reverse, (n : Int), bs, at0, ()) x = some (bif decide (acc x (atK S) (lst S) = 0) then ((((nxt x S).reverse, ((n + 1 : Nat) : Int), bs, at0, ()), ()), (0, ())) else (((S.reverse, (n : Int), bs, at0, ()), ()), (acc x (atK S) (lst S), ()))) := by
  have := accept_lift bs at0 (S.reverse, (n : Int), ()) x
  rw [accept_ok S n x hk hd hl hn hw hx] at this
  refine Eq.trans this ?_
  unfold res
  by_cases h : acc x (atK S) (lst S) = 0
  · rw [h]; rfl
  · rw [show decide (acc x (atK S) (lst S) = 0) = false from decide_eq_false h]; rfl
/-! ### heads -/
theorem short_ok (n : BitVec 64) : cbor_short n = some ((), (sho n : Int), ()) := by
  unfold cbor_short sho
  rw [show (24#64).toNat = 24 from rfl, show (256#64).toNat = 256 from rfl, show (65536#64).toNat = 65536 from rfl, show (4294967296#64).toNat = 4294967296 from rfl]
  cases decide (n.toNat < 24) <;> cases decide (n.toNat < 256) <;> cases decide (n.toNat < 65536) <;> cases decide (n.toNat < 4294967296) <;> rfl
theorem getI_nat {α : Type} {l : List α} {i : Nat} {x : α} (h : l[i]? = some x) : getI l (i : Int) = some x := by unfold getI; simp [h]
theorem bev_snoc (n : BitVec 64) : ∀ (l : List UInt8) (m : BitVec 64) (c : UInt8), bev m (l ++ [c]) = (bev m l <<< 8) ||| (BitVec.setWidth 64 c.toBitVec)
  | [], m, c => rfl
  | d :: r, m, c => bev_snoc n r _ c
theorem headL (st : Rd) (k : Int) (sz : Int) (l : List UInt8) (hl : l.length < 1000) : cbor_reader_head_L1 (st, k, 0#64, sz, l, (l.length : Int), 0, ()) = some ((st.1, st.2.1, st.2.2.1, st.2.2.2.1, ()), k, bev 0#64 l, sz, ()) := by
  have key : ∀ (r : List UInt8) (j f : Nat) (v : BitVec 64), l.drop j = r → j ≤ l.length → r.length < f → iter (fun (y : (Rd × Int × (BitVec 64) × Int × (List (UInt8)) × Int × Int × Unit)) => cbor_reader_head_L1b y.1 y.2.1 y.2.2.1 y.2.2.2.1 y.2.2.2.2.1 y.2.2.2.2.2.1 y.2.2.2.2.2.2.1) f (st, k, v, sz, l, (l.length : Int), (j : Int), ()) = some ((st.1, st.2.1, st.2.2.1, st.2.2.2.1, ()), k, bev v r, sz, ()) := by
    intro r
    induction r with
    | nil =>
      intro j f v hr hj hf
      obtain ⟨f, rfl⟩ : ∃ g, f = g + 1 := ⟨f - 1, by omega⟩
      have hjl : j = l.length := by
        have := congrArg List.length hr
        simp at this
        omega
      rw [iter_succ]
      dsimp only
      unfold cbor_reader_head_L1b
      rw [show decide ((j : Int) < (l.length : Int)) = false from decide_eq_false (by omega)]
      rfl
    | cons c r ih =>
      intro j f v hr hj hf
      obtain ⟨f, rfl⟩ : ∃ g, f = g + 1 := ⟨f - 1, by omega⟩
      have hjl : j < l.length := by
        have := congrArg List.length hr
        simp at this
        omega
      have hx : l[j]? = some c := by
        have := congrArg (·[0]?) hr
        simpa using this
      have hr2 : l.drop (j + 1) = r := by
        have := congrArg (List.drop 1) hr
        simpa [List.drop_drop] using this
      rw [iter_succ]
      dsimp only
      unfold cbor_reader_head_L1b
      rw [show decide ((j : Int) < (l.length : Int)) = true from decide_eq_true (by omega), getI_nat hx, wrap_id (n := (j : Int) + 1) (by omega) (by omega)]
      simp only [cond_true, bindS, Sum.elim_inl]
      exact ih (j + 1) f _ hr2 (by omega) (by simp at hf; omega)
  unfold cbor_reader_head_L1
  exact key l 0 rounds 0#64 rfl (by omega) (by rw [rounds_eq]; omega)
theorem u8lt (a : UInt8) (n : UInt8) : decide (a.toBitVec.toNat < n.toBitVec.toNat) = decide (a.toNat < n.toNat) := rfl
theorem maj_fin : ∀ c : Fin 256, (UInt8.ofBitVec ((UInt8.ofNat c.val).toBitVec >>> 5)).toNat = c.val / 32 ∧ (UInt8.ofBitVec ((UInt8.ofNat c.val).toBitVec &&& (31 : UInt8).toBitVec)).toNat = c.val % 32 := by decide +kernel
theorem maj_ok (c : UInt8) : (UInt8.ofBitVec (c.toBitVec >>> 5)).toNat = c.toNat / 32 ∧ (UInt8.ofBitVec (c.toBitVec &&& (31 : UInt8).toBitVec)).toNat = c.toNat % 32 := by
  have := maj_fin ⟨c.toNat, c.toNat_lt⟩
  dsimp only at this
  rwa [UInt8.ofNat_toNat] at this
theorem low_fin : ∀ j : Fin 4, (UInt8.ofBitVec ((UInt8.ofNat (24 + j.val)).toBitVec - (24 : UInt8).toBitVec)).toNat = j.val := by decide +kernel
theorem low_ok {v : UInt8} (h1 : 24 ≤ v.toNat) (h2 : v.toNat ≤ 27) : (UInt8.ofBitVec (v.toBitVec - (24 : UInt8).toBitVec)).toNat = v.toNat - 24 := by
  have := low_fin ⟨v.toNat - 24, by omega⟩
  dsimp only at this
  rw [show 24 + (v.toNat - 24) = v.toNat by omega, UInt8.ofNat_toNat] at this
  exact this
theorem bool_num (c : UInt8) (h : isB c = true) : BitVec.setWidth 64 (UInt8.ofBitVec (c.toBitVec - (244 : UInt8).toBitVec)).toBitVec = BitVec.ofNat 64 (c.toNat - 244) := by
  unfold isB at h
  simp only [Bool.or_eq_true, decide_eq_true_eq] at h
  rcases h with rfl | rfl <;> rfl
theorem setw (v : UInt8) : BitVec.setWidth 64 v.toBitVec = BitVec.ofNat 64 v.toNat := by
  apply BitVec.eq_of_toNat_eq
  have := v.toNat_lt
  rw [BitVec.toNat_setWidth, BitVec.toNat_ofNat]
  rfl
theorem dec_u8 (a b : UInt8) : decide (a.toBitVec = b.toBitVec) = decide (a = b) := by
  rw [decide_eq_decide]
  exact ⟨fun h => UInt8.toBitVec_inj.1 h, fun h => by rw [h]⟩
theorem drop_cons {α : Type} {l : List α} {j : Nat} {c : α} {r : List α} (h : l.drop j = c :: r) : l[j]? = some c ∧ l.drop (j + 1) = r ∧ j < l.length ∧ l.length = j + 1 + r.length := by
  refine ⟨?_, ?_, ?_, ?_⟩
  · have := congrArg (·[0]?) h
    simpa using this
  · have := congrArg (List.drop 1) h
    simpa [List.drop_drop] using this
  · have := congrArg List.length h
    simp at this
    omega
  · have := congrArg List.length h
    simp at this
    omega
theorem pow2_le {z : Nat} (h : z ≤ 3) : 1 ≤ 2 ^ z ∧ 2 ^ z ≤ 8 := ⟨Nat.one_le_two_pow, Nat.le_trans (Nat.pow_le_pow_right (by omega) h) (by omega)⟩
theorem size_ok {z : Nat} (h : z ≤ 3) : IntKind.wrap .i64 ((1 : Int) * 2 ^ (min z (IntKind.bits .i64))) = ((2 ^ z : Nat) : Int) := by
  have hz : z = 0 ∨ z = 1 ∨ z = 2 ∨ z = 3 := by omega
  rcases hz with rfl | rfl | rfl | rfl <;> decide
theorem head_ok (o : List CborFrame) (n : Int) (bs : List UInt8) (at0 : Nat) (hat : at0 ≤ bs.length) (hbs : bs.length < 1000000) :
    ∃ at1 : Nat, at1 ≤ bs.length ∧ cbor_reader_head (o, n, bs, (at0 : Int), ()) = some (((o, n, bs, (at1 : Int), ()), ()), ((hdB (bs.drop at0)).2.1, (hdB (bs.drop at0)).2.2.1, (hdB (bs.drop at0)).1, ())) ∧ ((hdB (bs.drop at0)).1 = 0 → bs.drop at1 = (hdB (bs.drop at0)).2.2.2) := by
  unfold cbor_reader_head
  dsimp only
  cases hs : bs.drop at0 with
  | nil =>
    have := congrArg List.length hs
    simp at this
    rw [show decide ((bs.length : Int) ≤ (at0 : Int)) = true from decide_eq_true (by omega)]
    exact ⟨at0, hat, rfl, fun h => by simp [hdB] at h⟩
  | cons c r =>
    obtain ⟨d1, d2, d3, d4⟩ := drop_cons hs
    rw [show decide ((bs.length : Int) ≤ (at0 : Int)) = false from decide_eq_false (by omega), getI_nat d1]
    simp only [cond_false, bindS, dec_u8]
    rw [wrap_id (n := (at0 : Int) + 1) (by omega) (by omega), show (at0 : Int) + 1 = ((at0 + 1 : Nat) : Int) from rfl]
    obtain ⟨m1, m2⟩ := maj_ok c
    simp only [hdB]
    by_cases hB : isB c = true
    · rw [hB]
      have hb := hB
      unfold isB at hb
      simp only [Bool.or_eq_true, decide_eq_true_eq] at hb
      rcases hb with rfl | rfl
      · exact ⟨at0 + 1, by omega, rfl, fun _ => d2⟩
      · exact ⟨at0 + 1, by omega, rfl, fun _ => d2⟩
    · have hB' : isB c = false := by cases h : isB c; rfl; exact absurd h hB
      have hb := hB'
      unfold isB at hb
      simp only [Bool.or_eq_false_iff, decide_eq_false_iff_not] at hb
      rw [hB', show decide (c = 244) = false from decide_eq_false hb.1, show decide (c = 245) = false from decide_eq_false hb.2]
      by_cases h6 : c = 246
      · rw [show decide (c = 246) = true from decide_eq_true h6]
        exact ⟨at0 + 1, by omega, rfl, fun _ => d2⟩
      · rw [show decide (c = 246) = false from decide_eq_false h6]
        simp only [cond_false, bindS, Sum.elim_inl]
        rw [u8lt, u8lt, u8lt, m1, m2, show (5 : UInt8).toNat = 5 from rfl, show (27 : UInt8).toNat = 27 from rfl, show (24 : UInt8).toNat = 24 from rfl]
        by_cases q1 : 5 < c.toNat / 32
        · rw [show decide (5 < c.toNat / 32) = true from decide_eq_true q1]
          exact ⟨at0 + 1, by omega, rfl, fun h => by simp at h⟩
        · rw [show decide (5 < c.toNat / 32) = false from decide_eq_false q1]
          by_cases q2 : 27 < c.toNat % 32
          · rw [show decide (27 < c.toNat % 32) = true from decide_eq_true q2]
            exact ⟨at0 + 1, by omega, rfl, fun h => by simp at h⟩
          · rw [show decide (27 < c.toNat % 32) = false from decide_eq_false q2]
            simp only [cond_false, Bool.or_self]
            have ek : IntKind.wrap .i64 ((1 : Int) + ((UInt8.ofBitVec (c.toBitVec >>> 5)).toBitVec.toNat : Int)) = ((c.toNat / 32 : Nat) : Int) + 1 := by
              rw [show ((UInt8.ofBitVec (c.toBitVec >>> 5)).toBitVec.toNat : Int) = ((c.toNat / 32 : Nat) : Int) by rw [← m1]; rfl, wrap_id (by omega) (by omega)]
              omega
            rw [ek]
            by_cases q3 : c.toNat % 32 < 24
            · rw [show decide (c.toNat % 32 < 24) = true from decide_eq_true q3, setw, m2]
              exact ⟨at0 + 1, by omega, rfl, fun _ => d2⟩
            · rw [show decide (c.toNat % 32 < 24) = false from decide_eq_false q3, low_ok (by omega) (by omega), m2]
              generalize hz : c.toNat % 32 - 24 = z
              have hz3 : z ≤ 3 := by omega
              obtain ⟨p1, p8⟩ := pow2_le hz3
              rw [size_ok hz3, wrap_id (n := (bs.length : Int) - ((at0 + 1 : Nat) : Int)) (by omega) (by omega)]
              simp only [cond_false]
              by_cases q4 : r.length < 2 ^ z
              · rw [show decide ((bs.length : Int) - ((at0 + 1 : Nat) : Int) < ((2 ^ z : Nat) : Int)) = true from decide_eq_true (by omega), show decide (r.length < 2 ^ z) = true from decide_eq_true q4]
                exact ⟨at0 + 1, by omega, rfl, fun h => by simp at h⟩
              · rw [show decide ((bs.length : Int) - ((at0 + 1 : Nat) : Int) < ((2 ^ z : Nat) : Int)) = false from decide_eq_false (by omega), show decide (r.length < 2 ^ z) = false from decide_eq_false q4, wrap_id (n := ((at0 + 1 : Nat) : Int) + ((2 ^ z : Nat) : Int)) (by omega) (by omega), show (((at0 + 1 : Nat) : Int) + ((2 ^ z : Nat) : Int)) = ((at0 + 1 + 2 ^ z : Nat) : Int) from rfl]
                simp only [cond_false, Int.toNat_natCast]
                rw [show (decide ((0 : Int) ≤ ((at0 + 1 + 2 ^ z : Nat) : Int)) && decide (((at0 + 1 + 2 ^ z : Nat) : Int) ≤ (bs.length : Int))) = true by (rw [Bool.and_eq_true, decide_eq_true_eq, decide_eq_true_eq]; exact ⟨by omega, by omega⟩), show (decide ((0 : Int) ≤ ((at0 + 1 : Nat) : Int)) && decide (((at0 + 1 : Nat) : Int) ≤ ((at0 + 1 + 2 ^ z : Nat) : Int))) = true by (rw [Bool.and_eq_true, decide_eq_true_eq, decide_eq_true_eq]; exact ⟨by omega, by omega⟩)]
                simp only [cond_true]
                have hv : List.drop (at0 + 1) (List.take (at0 + 1 + 2 ^ z) bs) = r.take (2 ^ z) := by
                  rw [List.drop_take, d2, show at0 + 1 + 2 ^ z - (at0 + 1) = 2 ^ z by omega]
                have hvl : (r.take (2 ^ z)).length = 2 ^ z := by rw [List.length_take]; omega
                rw [hv, headL _ _ _ _ (by omega)]
                simp only [bindS, short_ok]
                rw [wrap_id (n := ((at0 + 1 : Nat) : Int) + ((2 ^ z : Nat) : Int)) (by omega) (by omega), show (((at0 + 1 : Nat) : Int) + ((2 ^ z : Nat) : Int)) = ((at0 + 1 + 2 ^ z : Nat) : Int) from rfl, show decide ((sho (bev 0#64 (r.take (2 ^ z))) : Int) < ((2 ^ z : Nat) : Int)) = decide (sho (bev 0#64 (r.take (2 ^ z))) < 2 ^ z) by rw [decide_eq_decide]; omega]
                refine ⟨at0 + 1 + 2 ^ z, by omega, ?_, ?_⟩
                · cases decide (sho (bev 0#64 (r.take (2 ^ z))) < 2 ^ z) <;> rfl
                · cases decide (sho (bev 0#64 (r.take (2 ^ z))) < 2 ^ z)
                  · intro _
                    show bs.drop (at0 + 1 + 2 ^ z) = r.drop (2 ^ z)
                    rw [← d2, List.drop_drop]
                  · intro h; simp at h
end Go.Proofs.YtjedfmknnkimmaaDoor

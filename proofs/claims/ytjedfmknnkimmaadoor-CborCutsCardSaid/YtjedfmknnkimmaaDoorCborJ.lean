/- cbor: Decode of the program is the machine over bytes. No condition. -/
import Derived.Test.YtjedfmknnkimmaaDoorCborI
set_option linter.unusedVariables false
set_option linter.unusedSimpArgs false
set_option maxRecDepth 100000
namespace Go.Proofs.YtjedfmknnkimmaaDoor
open Go Go.Abs

/-- what the reader answers for one item. -/
def RdOut (S : List CborFrame) (n : Nat) (bs : List UInt8) (g : Int × ApiItem × List UInt8) (z : Option ((Rd × Unit) × (ApiItem × Int × Unit))) : Prop :=
  ∃ at1 : Nat, at1 ≤ bs.length ∧ (g.1 = 0 → bs.drop at1 = g.2.2 ∧ z = some ((((nxt g.2.1 S).reverse, ((n + 1 : Nat) : Int), bs, (at1 : Int), ()), ()), (g.2.1, 0, ()))) ∧ (g.1 ≠ 0 → ∃ st y, z = some (st, (y, g.1, ())))
theorem RdOut_err {S : List CborFrame} {n : Nat} {bs : List UInt8} {e : Int} {x : ApiItem} {t : List UInt8} {st : Rd × Unit} {y : ApiItem} (he : e ≠ 0) : RdOut S n bs (e, x, t) (some (st, (y, e, ()))) :=
  ⟨0, by omega, fun h => absurd h he, fun _ => ⟨_, _, rfl⟩⟩
/-- the tail of reader.item. -/
def tailR (st : Rd) (x : ApiItem) : Option ((Rd × Unit) × (ApiItem × Int × Unit)) :=
  (cbor_walk_accept_1 (st.1, st.2.1, st.2.2.1, st.2.2.2.1, ()) x).bind fun r20 => (bif (!decide (r20.2.1 = (0 : Int))) then (some (((r20.1.1.1, r20.1.1.2.1, r20.1.1.2.2.1, r20.1.1.2.2.2.1, ()), ()), ((⟨(0 : Int), 0#64, ([] : List UInt8)⟩ : ApiItem), r20.2.1, ())))
 else (some (((r20.1.1.1, r20.1.1.2.1, r20.1.1.2.2.1, r20.1.1.2.2.2.1, ()), ()), (x, (0 : Int), ()))))
theorem tail_ok {S : List CborFrame} {n : Nat} {bs : List UInt8} {at1 : Nat} {x : ApiItem} {t : List UInt8} (hS : WS S) (hn : n ≤ 512) (hat : at1 ≤ bs.length) (ht : bs.drop at1 = t) (hk : kin x) (hd : x.data.length ≤ 1024) (hx : isN x.kind = true → x.number.toNat ≤ 512) :
    RdOut S n bs (accB (atK S) (lst S) (0, x, t)) (tailR (S.reverse, (n : Int), bs, (at1 : Int), ()) x) := by
  unfold tailR
  dsimp only
  rw [accept1_ok bs (at1 : Int) S n x hk (by omega) (by have := hS.2.2; omega) (by omega) (fun f hf => by have := hS.1 f hf; omega) hx]
  simp only [bindS, accB, decide_true, cond_true]
  by_cases h : acc x (atK S) (lst S) = 0
  · rw [h]
    exact ⟨at1, hat, fun _ => ⟨ht, rfl⟩, fun h => absurd rfl h⟩
  · rw [show decide (acc x (atK S) (lst S) = 0) = false from decide_eq_false h]
    simp only [cond_false]
    rw [show decide (acc x (atK S) (lst S) = 0) = false from decide_eq_false h]
    exact RdOut_err h
theorem kindsN (k : Int) : k = 5 ∨ k = 3 ∨ k = 6 ∨ k = 4 ∨ (¬ k = 5 ∧ ¬ k = 3 ∧ ¬ k = 6 ∧ ¬ k = 4) := by omega
/-- the data of bytes or a text. -/
def datR (S : List CborFrame) (n : Int) (bs : List UInt8) (at1 : Nat) (k : Int) (m : BitVec 64) : Option ((Rd × Unit) × (ApiItem × Int × Unit)) :=
  (bif decide ((1024#64).toNat < m.toNat) then some (((S.reverse, n, bs, (at1 : Int), ()), ()), ((⟨(0 : Int), 0#64, ([] : List UInt8)⟩ : ApiItem), (8 : Int), ()))
  else bif decide (IntKind.wrap .i64 ((bs.length : Int) - (at1 : Int)) < IntKind.wrap .i64 (m.toNat : Int)) then some (((S.reverse, n, bs, (at1 : Int), ()), ()), ((⟨(0 : Int), 0#64, ([] : List UInt8)⟩ : ApiItem), (1 : Int), ()))
  else bif (decide ((0 : Int) ≤ IntKind.wrap .i64 ((at1 : Int) + IntKind.wrap .i64 (m.toNat : Int))) && decide (IntKind.wrap .i64 ((at1 : Int) + IntKind.wrap .i64 (m.toNat : Int)) ≤ (bs.length : Int))) then
    (bif (decide ((0 : Int) ≤ (at1 : Int)) && decide ((at1 : Int) ≤ ((IntKind.wrap .i64 ((at1 : Int) + IntKind.wrap .i64 (m.toNat : Int))).toNat : Int))) then
      tailR (S.reverse, n, bs, IntKind.wrap .i64 ((at1 : Int) + IntKind.wrap .i64 (m.toNat : Int)), ()) ⟨k, 0#64, List.drop ((at1 : Int)).toNat (List.take (IntKind.wrap .i64 ((at1 : Int) + IntKind.wrap .i64 (m.toNat : Int))).toNat bs)⟩
     else none)
  else none)
theorem dat_ok {S : List CborFrame} {n : Nat} {bs : List UInt8} {at1 : Nat} {k : Int} {m : BitVec 64} {t : List UInt8} (hS : WS S) (hn : n ≤ 512) (hbs : bs.length < 1000000) (hat : at1 ≤ bs.length) (ht : bs.drop at1 = t) (hk : k = 3 ∨ k = 4) :
    RdOut S n bs (accB (atK S) (lst S) (bodB k m t)) (datR S n bs at1 k m) := by
  have hD : isD k = true := by rcases hk with rfl | rfl <;> rfl
  have hN := isD_isN hD
  have htl := congrArg List.length ht
  rw [List.length_drop] at htl
  unfold datR bodB
  rw [hN, hD, show (1024#64).toNat = 1024 from rfl]
  simp only [cond_true, cond_false]
  by_cases h1 : 1024 < m.toNat
  · rw [show decide (1024 < m.toNat) = true from decide_eq_true h1]
    exact RdOut_err (by decide)
  · rw [show decide (1024 < m.toNat) = false from decide_eq_false h1, wrap_id (n := (m.toNat : Int)) (by omega) (by omega), wrap_id (n := (bs.length : Int) - (at1 : Int)) (by omega) (by omega)]
    simp only [cond_false]
    by_cases h2 : t.length < m.toNat
    · rw [show decide (t.length < m.toNat) = true from decide_eq_true h2, show decide ((bs.length : Int) - (at1 : Int) < (m.toNat : Int)) = true from decide_eq_true (by omega)]
      exact RdOut_err (by decide)
    · rw [show decide (t.length < m.toNat) = false from decide_eq_false h2, show decide ((bs.length : Int) - (at1 : Int) < (m.toNat : Int)) = false from decide_eq_false (by omega), wrap_id (n := (at1 : Int) + (m.toNat : Int)) (by omega) (by omega), show ((at1 : Int) + (m.toNat : Int)) = ((at1 + m.toNat : Nat) : Int) from rfl]
      simp only [cond_false, Int.toNat_natCast]
      rw [show (decide ((0 : Int) ≤ ((at1 + m.toNat : Nat) : Int)) && decide (((at1 + m.toNat : Nat) : Int) ≤ (bs.length : Int))) = true by (rw [Bool.and_eq_true, decide_eq_true_eq, decide_eq_true_eq]; exact ⟨by omega, by omega⟩), show (decide ((0 : Int) ≤ (at1 : Int)) && decide ((at1 : Int) ≤ ((at1 + m.toNat : Nat) : Int))) = true by (rw [Bool.and_eq_true, decide_eq_true_eq, decide_eq_true_eq]; exact ⟨by omega, by omega⟩)]
      simp only [cond_true]
      have hv : List.drop at1 (List.take (at1 + m.toNat) bs) = t.take m.toNat := by
        rw [List.drop_take, ht, show at1 + m.toNat - at1 = m.toNat by omega]
      rw [hv]
      refine tail_ok hS hn (by omega) (by rw [← ht, List.drop_drop]) ?_ ?_ ?_
      · refine ⟨?_, ?_, ?_⟩
        · dsimp only; omega
        · dsimp only; omega
        · intro h; dsimp only at h; rw [hD] at h; cases h
      · dsimp only; rw [List.length_take]; omega
      · intro h; dsimp only at h; rw [hN] at h; cases h
theorem item1_ok (S : List CborFrame) (n : Nat) (bs : List UInt8) (at0 : Nat) (hS : WS S) (hn : n ≤ 512) (hbs : bs.length < 1000000) (hat : at0 ≤ bs.length) :
    RdOut S n bs (getB n S.length (atK S) (lst S) (bs.drop at0)) (cbor_reader_item (S.reverse, (n : Int), bs, (at0 : Int), ())) := by
  obtain ⟨at1, h1, h2, h3⟩ := head_ok S.reverse (n : Int) bs at0 hat hbs
  generalize bs.drop at0 = s at h2 h3 ⊢
  unfold cbor_reader_item getB
  dsimp only
  rw [h2]
  simp only [bindS]
  have hB := fun k m t => hdB_back (s := s) (k := k) (n := m) (t := t)
  generalize hdB s = q at h3 hB ⊢
  obtain ⟨e, k, m, t⟩ := q
  dsimp only at h3 hB ⊢
  by_cases he : e = 0
  · subst he
    have ht := h3 rfl
    have hbk := hB k m t rfl
    simp only [decide_true, Bool.not_true, cond_false]
    rw [admit_ok S n k (by have := hS.2.2; omega)]
    simp only [bindS]
    by_cases ha : adm k n S.length (atK S) = 0
    · rw [show decide (adm k n S.length (atK S) = 0) = true from decide_eq_true ha]
      simp only [Bool.not_true, cond_false]
      obtain ⟨a1, a2, a3, a4, a5⟩ := adm_zero ha
      have hnum : isN k = true → ¬ 512 < m.toNat → RdOut S n bs (accB (atK S) (lst S) (bodB k m t)) (tailR (S.reverse, (n : Int), bs, (at1 : Int), ()) ⟨k, m, []⟩) := by
        intro hN hm
        have : bodB k m t = (0, ⟨k, m, []⟩, t) := by
          unfold bodB
          rw [hN, show decide (512 < m.toNat) = false from decide_eq_false hm]; rfl
        rw [this]
        exact tail_ok hS hn h1 ht ⟨a2, a3, fun _ => rfl⟩ (by simp) (fun _ => by dsimp only; omega)
      have hbig : isN k = true → 512 < m.toNat → bodB k m t = (8, default, []) := by
        intro hN hm
        unfold bodB
        rw [hN, show decide (512 < m.toNat) = true from decide_eq_true hm]; rfl
      rcases kindsN k with rfl | rfl | rfl | rfl | ⟨g1, g2, g3, g4⟩
      · simp only [decide_true, cond_true, show (512#64).toNat = 512 from rfl]
        by_cases hm : 512 < m.toNat
        · rw [show decide (512 < m.toNat) = true from decide_eq_true hm, hbig rfl hm]
          exact RdOut_err (by decide)
        · rw [show decide (512 < m.toNat) = false from decide_eq_false hm]
          exact hnum rfl hm
      · have := dat_ok (m := m) hS hn hbs h1 ht (.inl rfl)
        refine Eq.mp (congrArg (RdOut S n bs _) ?_) this
        unfold datR
        simp only [Int.reduceEq, decide_true, decide_false, cond_true, cond_false]
        cases decide ((1024#64).toNat < m.toNat)
        · simp only [cond_false]
          generalize decide (IntKind.wrap .i64 ((bs.length : Int) - (at1 : Int)) < IntKind.wrap .i64 (m.toNat : Int)) = c1
          cases c1
          · simp only [cond_false]
            generalize (decide ((0 : Int) ≤ IntKind.wrap .i64 ((at1 : Int) + IntKind.wrap .i64 (m.toNat : Int))) && decide (IntKind.wrap .i64 ((at1 : Int) + IntKind.wrap .i64 (m.toNat : Int)) ≤ (bs.length : Int))) = c2
            cases c2
            · rfl
            · simp only [cond_true]
              generalize (decide ((0 : Int) ≤ (at1 : Int)) && decide ((at1 : Int) ≤ ((IntKind.wrap .i64 ((at1 : Int) + IntKind.wrap .i64 (m.toNat : Int))).toNat : Int))) = c3
              cases c3 <;> rfl
          · rfl
        · rfl
      · simp only [Int.reduceEq, decide_true, decide_false, cond_true, cond_false, show (512#64).toNat = 512 from rfl]
        by_cases hm : 512 < m.toNat
        · rw [show decide (512 < m.toNat) = true from decide_eq_true hm, hbig rfl hm]
          exact RdOut_err (by decide)
        · rw [show decide (512 < m.toNat) = false from decide_eq_false hm]
          exact hnum rfl hm
      · have := dat_ok (m := m) hS hn hbs h1 ht (.inr rfl)
        refine Eq.mp (congrArg (RdOut S n bs _) ?_) this
        unfold datR
        simp only [Int.reduceEq, decide_true, decide_false, cond_true, cond_false]
        cases decide ((1024#64).toNat < m.toNat)
        · simp only [cond_false]
          generalize decide (IntKind.wrap .i64 ((bs.length : Int) - (at1 : Int)) < IntKind.wrap .i64 (m.toNat : Int)) = c1
          cases c1
          · simp only [cond_false]
            generalize (decide ((0 : Int) ≤ IntKind.wrap .i64 ((at1 : Int) + IntKind.wrap .i64 (m.toNat : Int))) && decide (IntKind.wrap .i64 ((at1 : Int) + IntKind.wrap .i64 (m.toNat : Int)) ≤ (bs.length : Int))) = c2
            cases c2
            · rfl
            · simp only [cond_true]
              generalize (decide ((0 : Int) ≤ (at1 : Int)) && decide ((at1 : Int) ≤ ((IntKind.wrap .i64 ((at1 : Int) + IntKind.wrap .i64 (m.toNat : Int))).toNat : Int))) = c3
              cases c3 <;> rfl
          · rfl
        · rfl
      · simp only [g1, g2, g3, g4, decide_false, cond_false, bindS, Sum.elim_inl]
        have : bodB k m t = (0, ⟨k, m, []⟩, t) := by
          unfold bodB isN isD
          simp [g1, g2, g3, g4]
        rw [this]
        have hN : isN k = false := by unfold isN; simp [g1, g3]
        exact tail_ok hS hn h1 ht ⟨a2, a3, fun _ => rfl⟩ (by simp) (fun h => by dsimp only at h; rw [hN] at h; cases h)
    · rw [show decide (adm k n S.length (atK S) = 0) = false from decide_eq_false ha]
      exact RdOut_err ha
  · rw [show decide (e = 0) = false from decide_eq_false he]
    exact RdOut_err he
theorem getB_sound {n d : Nat} {key : Bool} {b s : List UInt8} {x : ApiItem} {t : List UInt8} (h : getB n d key b s = (0, x, t)) : chk x n d key b = 0 := (getB_back h).2
theorem Decode_ok (bs : List UInt8) (hbs : bs.length < 1000000) : cbor_Decode bs = some ((), (decO bs).1, (decO bs).2.1, (decO bs).2.2, ()) := by
  have key : ∀ (fuel : Nat) (S : List CborFrame) (n : Nat) (out : List ApiItem) (at0 f : Nat), WS S → n ≤ 512 → out.length = n → at0 ≤ bs.length → 600 ≤ fuel + n → fuel ≤ f →
      (iter (fun (y : (List (ApiItem)) × Rd × Unit) => cbor_Decode_L0b y.1 y.2.1) f (out, (S.reverse, (n : Int), bs, (at0 : Int), ()), ())).bind (Sum.elim (fun (z3 : ((List (ApiItem)) × Int × Int × Unit)) => (some ((), (z3.1, z3.2.1, z3.2.2.1, ())) : Option (Unit × (List ApiItem × Int × Int × Unit)))) (fun (z4 : ((List (ApiItem)) × Rd × Unit)) => (some ((), (z4.1, z4.2.1.2.2.2.1, (0 : Int), ()))))) = some ((), (bif decide ((mach getB fuel S n (bs.drop at0)).1 = 0) then (out ++ (mach getB fuel S n (bs.drop at0)).2.1, ((bs.length - (mach getB fuel S n (bs.drop at0)).2.2.length : Nat) : Int), (0 : Int), ()) else ([], (0 : Int), (mach getB fuel S n (bs.drop at0)).1, ()))) := by
    intro fuel
    induction fuel with
    | zero => intro S n out at0 f hS hn ho hat h6; omega
    | succ fuel ih =>
      intro S n out at0 f hS hn ho hat h6 hf
      obtain ⟨f, rfl⟩ : ∃ g, f = g + 1 := ⟨f - 1, by omega⟩
      rw [iter_succ]
      have hit := item1_ok S n bs at0 hS hn hbs hat
      have e1 : cbor_Decode_L0b out (S.reverse, (n : Int), bs, (at0 : Int), ()) = bif decide (0 < n) && S.isEmpty then some (Sum.inr (Sum.inr (out, (S.reverse, (n : Int), bs, (at0 : Int), ()), ()))) else (cbor_reader_item (S.reverse, (n : Int), bs, (at0 : Int), ())).bind fun r2 => (bif (!decide (r2.2.2.1 = (0 : Int))) then (some (Sum.inr (Sum.inl ([], (0 : Int), r2.2.2.1, ())))) else (bif small ((out).length + (([r2.2.1] : List (ApiItem)) : List (ApiItem)).length) 32 then (some (Sum.inl ((out ++ ([r2.2.1] : List (ApiItem))), (r2.1.1.1, r2.1.1.2.1, r2.1.1.2.2.1, r2.1.1.2.2.2.1, ()), ()))) else none)) := by
        unfold cbor_Decode_L0b
        dsimp only
        rw [done_ok]
        simp only [bindS]
        cases (decide (0 < n) && S.isEmpty) <;> rfl
      dsimp only
      rw [e1]
      rcases mach_cases getB fuel S n (bs.drop at0) with ⟨h1, h2⟩ | ⟨h1, h2, h3⟩ | ⟨h1, x, t, h2, h3⟩
      · rw [h1, h2]
        simp only [cond_true, bindS, Sum.elim_inr, decide_true, List.append_nil, List.length_drop]
        rw [show bs.length - (bs.length - at0) = at0 by omega]
      · rw [h1, h3]
        obtain ⟨_, _, _, g3⟩ := hit
        obtain ⟨st, y, g4⟩ := g3 h2
        rw [g4]
        simp only [cond_false, bindS]
        rw [show decide ((getB n S.length (atK S) (lst S) (bs.drop at0)).1 = 0) = false from decide_eq_false h2]
        rfl
      · rw [h1, h3]
        obtain ⟨at1, g1, g2, _⟩ := hit
        rw [h2] at g2
        obtain ⟨g3, g4⟩ := g2 rfl
        dsimp only at g3 g4
        rw [g4]
        have hc := getB_sound h2
        have hn512 := (adm_zero (chk_zero hc).1).1
        simp only [cond_false, bindS, decide_true, Bool.not_true, Sum.elim_inl]
        rw [small32 (by simp; omega)]
        simp only [cond_true, bindS, Sum.elim_inl]
        have := ih (nxt x S) (n + 1) (out ++ [x]) at1 f (chk_WS hS hc) (by omega) (by simp; omega) g1 (by omega) (by omega)
        rw [g3] at this
        rw [this, List.append_assoc]
        rfl
  unfold cbor_Decode cbor_Decode_L0 decO
  have := key 600 [] 0 [] 0 rounds ⟨by simp, trivial, by simp⟩ (by omega) rfl (by omega) (by omega) (by rw [rounds_eq]; omega)
  refine Eq.trans this ?_
  rw [show bs.drop 0 = bs from rfl, List.nil_append]
  cases decide ((mach getB 600 [] 0 bs).1 = 0) <;> rfl
end Go.Proofs.YtjedfmknnkimmaaDoor

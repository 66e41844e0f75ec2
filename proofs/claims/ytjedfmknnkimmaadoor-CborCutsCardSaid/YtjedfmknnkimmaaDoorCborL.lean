/- cbor: Decode of the document is the machine over bytes; the laws CborDecodes, CborBack, CborUnique, CborCuts, plainly. No condition. -/
import Derived.Test.YtjedfmknnkimmaaDoorCborK
set_option linter.unusedVariables false
set_option linter.unusedSimpArgs false
set_option maxRecDepth 100000
namespace Go.Proofs.YtjedfmknnkimmaaDoor
open Go Go.Abs

/-- what the walk makes of an item that was got. -/
def WR (f : Nat) (n d : Nat) (s : List UInt8) (g : Int × ApiItem × List UInt8) : Res (List UInt8) :=
  bif decide (g.1 = 0) then
    let q := bif decide (g.2.1.kind = 5) then LA (fun s n => W getB f s n (d + 1) false []) g.2.1.number.toNat g.2.2 (n + 1)
      else bif decide (g.2.1.kind = 6) then LM (fun s n last => W getB f s n (d + 1) true last) (fun s n => W getB f s n (d + 1) false []) g.2.1.number.toNat g.2.2 (n + 1) []
      else (0, [], g.2.2)
    (q.1, g.2.1 :: q.2.1, q.2.2)
  else (g.1, [], s)
theorem W_WR (f n d : Nat) (s : List UInt8) (key : Bool) (b : List UInt8) : W getB (f + 1) s n d key b = WR f n d s (getB n d key b s) := rfl
theorem WR_err {f n d : Nat} {s : List UInt8} {g : Int × ApiItem × List UInt8} (h : g.1 ≠ 0) : WR f n d s g = (g.1, [], s) := by
  unfold WR
  rw [show decide (g.1 = 0) = false from decide_eq_false h]
  rfl
theorem ritem_ok (bs : List UInt8) (hbs : bs.length < 1000000) : ∀ (f d at0 : Nat) (out : List ApiItem) (key : Bool) (b : List UInt8), at0 ≤ bs.length → out.length ≤ 512 → d ≤ 9 → 10 ≤ f + d → RI bs out (W getB f (bs.drop at0) out.length d key b) (passkeyref1_reader_item_n f (bs, (at0 : Int), out, ()) (d : Int) key b)
  | 0, d, at0, out, key, b, hat, ho, hd, hf => by omega
  | f + 1, d, at0, out, key, b, hat, ho, hd, hf => by
    have ih := fun at0 out key b h1 h2 h3 h4 => ritem_ok bs hbs f (d + 1) at0 out key b h1 h2 h3 h4
    obtain ⟨at1, h1, h2, h3⟩ := rhead_ok out bs at0 hat hbs
    show RI bs out (W getB (f + 1) (bs.drop at0) out.length d key b) (passkeyref1_reader_item_R (passkeyref1_reader_item_n f) (bs, (at0 : Int), out, ()) (d : Int) key b)
    rw [W_WR]
    generalize bs.drop at0 = s at h2 h3 ⊢
    unfold getB
    have hB := fun k m t => hdB_back (s := s) (k := k) (n := m) (t := t)
    generalize hdB s = q at h2 h3 hB ⊢
    obtain ⟨e, k, m, t⟩ := q
    dsimp only at h2 h3 hB ⊢
    by_cases he : e = 0
    · subst he
      have ht := h3 rfl
      have hbk := hB k m t rfl
      have hk1 : 1 ≤ k ∧ k ≤ 8 := by omega
      rw [mid_ok _ bs (at0 : Int) at1 out d key b k m h1 hbs ho hk1.1 hk1.2 h2]
      unfold midI
      by_cases ha : adm k out.length d key = 0
      · obtain ⟨a1, a2, a3, a4, a5⟩ := adm_zero ha
        simp only [ha, decide_true, Bool.not_true, cond_false]
        have ed : IntKind.wrap .i64 ((d : Int) + 1) = ((d + 1 : Nat) : Int) := by
          rw [wrap_id (n := (d : Int) + 1) (by omega) (by omega)]; rfl
        have fin : ∀ (x : ApiItem) (at2 : Nat) (u : List UInt8) (m : BitVec 64), at2 ≤ bs.length → bs.drop at2 = u → (isN x.kind = true → m = x.number ∧ m.toNat ≤ 512) → RI bs out (WR f out.length d s (accB key b (0, x, u))) (endI (passkeyref1_reader_item_n f) bs (at2 : Int) out (d : Int) key b x m) := by
          intro x at2 u m hat2 hu hm
          unfold endI accB
          simp only [decide_true, cond_true]
          by_cases hc : acc x key b = 0
          · have := tailI bs (passkeyref1_reader_item_n f) f d (fun at0 out key b h1 h2 => ih at0 out key b h1 h2 (by omega) (by omega)) ed x m at2 out hat2 a1 hm
            rw [hu] at this
            simp only [hc, decide_true, Bool.not_true, cond_false]
            unfold WR
            exact this
          · rw [WR_err (g := (acc x key b, x, u)) hc, show decide (acc x key b = 0) = false from decide_eq_false hc]
            exact RI_err hc
        unfold bodB
        cases hN : isN k
        · simp only [cond_false]
          cases hD : isD k
          · simp only [cond_false]
            exact fin ⟨k, m, []⟩ at1 t m h1 ht (fun h => by dsimp only at h; rw [hN] at h; cases h)
          · simp only [cond_true]
            have htl := congrArg List.length ht
            rw [List.length_drop] at htl
            by_cases q1 : 1024 < m.toNat
            · simp only [decide_eq_true q1, cond_true]
              exact RI_err (e := 8) (by decide)
            · simp only [decide_eq_false q1, cond_false]
              by_cases q2 : t.length < m.toNat
              · rw [show decide (bs.length - at1 < m.toNat) = true from decide_eq_true (by omega), show decide (t.length < m.toNat) = true from decide_eq_true q2]
                exact RI_err (e := 1) (by decide)
              · rw [show decide (bs.length - at1 < m.toNat) = false from decide_eq_false (by omega), show decide (t.length < m.toNat) = false from decide_eq_false q2, ht]
                exact fin ⟨k, 0#64, t.take m.toNat⟩ (at1 + m.toNat) (t.drop m.toNat) m (by omega) (by rw [← ht, List.drop_drop]) (fun h => by dsimp only at h; rw [hN] at h; cases h)
        · simp only [cond_true]
          by_cases q1 : 512 < m.toNat
          · simp only [decide_eq_true q1, cond_true]
            exact RI_err (e := 8) (by decide)
          · simp only [decide_eq_false q1, cond_false]
            exact fin ⟨k, m, []⟩ at1 t m h1 ht (fun _ => ⟨rfl, by omega⟩)
      · simp only [decide_eq_false ha, Bool.not_false, cond_true, decide_true, Bool.not_true, cond_false]
        rw [WR_err (by exact ha)]
        exact RI_err ha
    · have e1 : passkeyref1_reader_item_R (passkeyref1_reader_item_n f) (bs, (at0 : Int), out, ()) (d : Int) key b = some (((bs, (at1 : Int), out, ()), ()), (e, ())) := by
        unfold passkeyref1_reader_item_R
        dsimp only
        rw [h2]
        simp only [bindS]
        rw [show decide (e = 0) = false from decide_eq_false he]
        rfl
      rw [e1, show decide (e = 0) = false from decide_eq_false he]
      simp only [Bool.not_false, cond_true]
      rw [WR_err (by exact he)]
      exact RI_err he
theorem rDecode_ok (bs : List UInt8) (hbs : bs.length < 1000000) : passkeyref1_Decode bs = some ((), (decO bs).1, (decO bs).2.1, (decO bs).2.2, ()) := by
  have h : RI bs [] (W getB 12 bs 0 0 false []) (passkeyref1_reader_item (bs, 0, [], ()) 0 false []) := ritem_ok bs hbs 12 0 0 [] false [] (by omega) (by simp) (by omega) (by omega)
  obtain ⟨m1, m2⟩ := W_mach getB_ok 12 (by omega) bs
  unfold passkeyref1_Decode decO
  obtain ⟨j1, j2⟩ := h
  by_cases hw : (W getB 12 bs 0 0 false []).1 = 0
  · obtain ⟨at1, a1, a2, a3, a4⟩ := j1 hw
    rw [m2 hw]
    rw [a2]
    simp only [bindS, decide_true, Bool.not_true, cond_false, cond_true, hw, List.nil_append]
    have hl := congrArg List.length a3
    rw [List.length_drop] at hl
    rw [show (bs.length - (W getB 12 bs 0 0 false []).2.2.length : Nat) = at1 by omega]
  · obtain ⟨st, a1⟩ := j2 hw
    rw [a1]
    simp only [bindS]
    rw [show decide ((W getB 12 bs 0 0 false []).1 = 0) = false from decide_eq_false hw, m1 hw, show decide ((W getB 12 bs 0 0 false []).1 = 0) = false from decide_eq_false hw]
    rfl
/-! ### the laws -/
theorem decO_len (b : List UInt8) : (decO b).1.length ≤ 600 := by
  have key : ∀ (f : Nat) (S : List CborFrame) (n : Nat) (s : List UInt8), (mach getB f S n s).2.1.length ≤ f := by
    intro f
    induction f with
    | zero => intro S n s; simp [mach]
    | succ f ih =>
      intro S n s
      rcases mach_cases getB f S n s with ⟨h1, h2⟩ | ⟨h1, h2, h3⟩ | ⟨h1, x, t, h2, h3⟩
      · rw [h2]; simp
      · rw [h3]; simp
      · rw [h3]
        have := ih (nxt x S) (n + 1) t
        simp only [List.length_cons]
        omega
  unfold decO
  have := key 600 [] 0 b
  cases decide ((mach getB 600 [] 0 b).1 = 0)
  · simp
  · exact this
theorem encA_le : ∀ (l : List ApiItem), (∀ x ∈ l, x.data.length ≤ 1024) → (encA l).length ≤ l.length * 1033
  | [], _ => by simp [encA]
  | x :: r, h => by
    have h1 := enc_len (h x (by simp))
    have h2 := encA_le r fun y hy => h y (by simp [hy])
    rw [encA_cons, List.length_append, List.length_cons, Nat.add_mul]
    omega
theorem encA_len {o : List ApiItem} (h : Tre o) : (encA o).length ≤ 248953 := by
  have h1 := encA_le o fun x hx => by have := h.data x hx; omega
  have h2 : o.length * 1033 ≤ 241 * 1033 := Nat.mul_le_mul_right _ h.len
  omega
theorem encA_ne {o : List ApiItem} (h : o ≠ []) : 0 < (encA o).length := by
  cases o with
  | nil => exact absurd rfl h
  | cons x r =>
    rw [encA_cons, List.length_append]
    have := List.length_pos_iff.2 (enc_ne x)
    omega
theorem CborDecodes_plain (a0 : List UInt8) (a1 : List Int) (a2 : Int) (a3 : UInt8) (hd : CborDecodes_dom a0 a1 a2 a3) : Ok (passkeylaw1_CborDecodes a0 a1 a2 a3) fun r => r.2.1 = true := by
  unfold passkeylaw1_CborDecodes
  refine Ok.cond (fun _ => awakeOk) (fun h0 => ?_)
  simp only [decide_eq_false_iff_not] at h0
  refine Ok.bind (Ok.mono (Tree_ok a1) ?_)
  rintro ⟨_, o, _⟩ ht
  dsimp only at ht ⊢
  rw [rEncode_ok o (by have := ht.len; omega) ht.d5]
  simp only [bindS]
  rw [encO_val ht.val]
  dsimp only
  have hne := encA_ne ht.ne
  have hlen := encA_len ht
  obtain ⟨k, hk, ek⟩ := mask a2 65535 (by omega)
  rw [show ((65535 : Nat) : Int) = 65535 from rfl] at ek
  rw [ek, tmodN, show decide (((encA o).length : Int) = 0) = false from decide_eq_false (by omega)]
  have hm : k % (encA o).length < (encA o).length := Nat.mod_lt _ (by omega)
  rw [inb _ _ hm, Int.toNat_natCast, List.getElem?_eq_getElem hm]
  simp only [cond_false, cond_true, bindS]
  rw [Decode_ok a0 (by omega), rDecode_ok a0 (by omega), Decode_ok _ (by rw [List.length_set]; omega), rDecode_ok _ (by rw [List.length_set]; omega)]
  simp only [bindS, decide_true, cond_true]
  rw [SameItems_ok _ _ (by have := decO_len a0; omega), SameItems_ok _ _ (Nat.lt_of_le_of_lt (decO_len _) (by omega))]
  simp only [bindS, decide_true, cond_true]
  exact awakeOk
theorem CborBack_plain (a0 : List Int) (a1 : List UInt8) (hd : CborBack_dom a0 a1) : Ok (passkeylaw1_CborBack a0 a1) fun r => r.2.1 = true := by
  unfold passkeylaw1_CborBack
  refine Ok.cond (fun _ => awakeOk) (fun h0 => ?_)
  simp only [decide_eq_false_iff_not] at h0
  refine Ok.bind (Ok.mono (Tree_ok a0) ?_)
  rintro ⟨_, o, _⟩ ht
  dsimp only at ht ⊢
  have hlen := encA_len ht
  have hl := ht.len
  rw [Encode_ok o (by omega) ht.d5]
  simp only [bindS]
  rw [encO_val ht.val]
  dsimp only
  rw [small1 (by omega), small1 (by omega), Decode_ok _ (by rw [List.length_append]; omega), decO_enc ht.val]
  simp only [cond_true, bindS, decide_true]
  rw [SameItems_ok _ _ (by omega)]
  simp only [bindS, decide_true, cond_true]
  exact awakeOk
theorem CborUnique_plain (a0 : List UInt8) (hd : CborUnique_dom a0) : Ok (passkeylaw1_CborUnique a0) fun r => r.2.1 = true := by
  unfold passkeylaw1_CborUnique
  refine Ok.cond (fun _ => awakeOk) (fun h0 => ?_)
  simp only [decide_eq_false_iff_not] at h0
  rw [Decode_ok a0 (by omega)]
  simp only [bindS]
  by_cases h : (decO a0).2.2 = 0
  · obtain ⟨v, t, e1, e2⟩ := decO_back h
    have hz := (valO_zero v).2
    have hl := decO_len a0
    generalize hq : (decO a0).1 = o at v e1 e2 hz hl ⊢
    have hlen := congrArg List.length e1
    rw [List.length_append] at hlen
    rw [show decide ((decO a0).2.2 = 0) = true from decide_eq_true h, Encode_ok o (by omega) (fun x hx => by have := (hz x hx).2; omega), encO_val v, e2]
    simp only [Bool.not_true, cond_false, bindS, decide_true, cond_true]
    rw [show decide (((encA o).length : Int) ≤ (a0.length : Int)) = true from decide_eq_true (by omega), show decide ((0 : Int) ≤ ((encA o).length : Int)) = true from decide_eq_true (by omega), Int.toNat_natCast]
    have e3 : List.take (encA o).length a0 = encA o := by rw [e1]; simp
    rw [e3]
    simp only [Bool.and_self, cond_true, decide_true]
    exact awakeOk
  · rw [show decide ((decO a0).2.2 = 0) = false from decide_eq_false h, (decO_err h).1, (decO_err h).2]
    exact awakeOk
theorem CborCuts_plain (a0 : List Int) (hd : CborCuts_dom a0) : Ok (passkeylaw1_CborCuts a0) fun r => r.2.1 = true := by
  unfold passkeylaw1_CborCuts
  refine Ok.bind (Ok.mono (Tree_ok a0) ?_)
  rintro ⟨_, o, _⟩ ht
  dsimp only at ht ⊢
  have hlen := encA_len ht
  have hne := encA_ne ht.ne
  have hl := ht.len
  rw [Encode_ok o (by omega) ht.d5]
  simp only [bindS]
  rw [encO_val ht.val]
  dsimp only
  rw [show decide ((0 : Int) = 0) = true from rfl, show decide (((encA o).length : Int) = 0) = false from decide_eq_false (by omega)]
  simp only [Bool.not_true, cond_false]
  refine Ok.bind (Ok.mono (Q := fun z => z = .inr ()) ?_ ?_)
  · unfold passkeylaw1_CborCuts_L0
    refine Ok.iter (fun q => q.1 = encA o ∧ ∃ j : Nat, q.2.1 = (j : Int) ∧ j ≤ (encA o).length) (fun q => ((encA o).length - q.2.1).toNat) ⟨rfl, 0, rfl, by omega⟩ (by rw [rounds_eq]; dsimp only; omega) ?_
    rintro ⟨b, i, u⟩ ⟨e1, j, e2, e3⟩
    dsimp only at *
    subst e1; subst e2
    simp only [passkeylaw1_CborCuts_L0b]
    by_cases hj : j < (encA o).length
    · rw [show decide ((j : Int) < ((encA o).length : Int)) = true from decide_eq_true (by omega), show (decide ((0 : Int) ≤ (j : Int)) && decide ((j : Int) ≤ ((encA o).length : Int))) = true by (rw [Bool.and_eq_true, decide_eq_true_eq, decide_eq_true_eq]; exact ⟨by omega, by omega⟩), Int.toNat_natCast, show decide (j ≤ (encA o).length) = true from decide_eq_true e3, Decode_ok _ (by rw [List.length_take]; omega)]
      have hc := decO_cut ht.val (p := (encA o).take j) (q := (encA o).drop j) (List.take_append_drop _ _) (by
        intro h
        have := congrArg List.length h
        rw [List.length_drop, List.length_nil] at this
        omega)
      rw [hc]
      simp only [cond_true, bindS, decide_true, Bool.not_true, cond_false]
      rw [wrap_id (n := (j : Int) + 1) (by omega) (by omega)]
      refine Ok.some ?_
      dsimp only
      exact ⟨⟨rfl, j + 1, rfl, by omega⟩, by omega⟩
    · rw [show decide ((j : Int) < ((encA o).length : Int)) = false from decide_eq_false (by omega)]
      exact Ok.some rfl
  · rintro _ rfl
    exact awakeOk
end Go.Proofs.YtjedfmknnkimmaaDoor

/- cbor: lists of items, the encoding of an item, the law CborItems, plainly. No condition. -/
import Derived.Test.YtjedfmknnkimmaaDoorFns
import Derived.Test.YtjedfmknnkimmaaDoorLib8
set_option linter.unusedVariables false
set_option linter.unusedSimpArgs false
set_option maxRecDepth 100000
namespace Go.Proofs.YtjedfmknnkimmaaDoor
open Go Go.Abs
theorem awake_ok : passkeylaw1_awake = some ((), true, ()) := by kernel_rfl
theorem awakeOk : Ok (passkeylaw1_awake.bind fun r => some ((), (r.2.1, ()))) fun r => r.2.1 = true := by
  rw [awake_ok]; exact ⟨_, rfl, rfl⟩
theorem small1 {n : Nat} (h : n < 1000000000) : small n 1 = true := by
  unfold small; simp; omega
theorem small40 {n : Nat} (h : n < 1000000) : small n 40 = true := by
  unfold small; simp; omega
theorem small32 {n : Nat} (h : n < 1000000) : small n 32 = true := by
  unfold small; simp; omega
theorem ble_of {a b : Nat} (h : a ≤ b) : Nat.ble a b = true := Eq.mpr Nat.ble_eq h
theorem item_eq (x y : ApiItem) : (!(decide (x.kind = y.kind) && (decide (x.number = y.number) && (decide (x.data = y.data) && true)))) = !decide (x = y) := by
  obtain ⟨a, b, c⟩ := x
  obtain ⟨d, e, f⟩ := y
  simp only [ApiItem.mk.injEq]
  by_cases h1 : a = d <;> by_cases h2 : b = e <;> by_cases h3 : c = f <;> simp [h1, h2, h3]
theorem SameItems_ok (a b : List ApiItem) (ha : a.length < 1000000000) : passkeyref1_SameItems a b = some ((), decide (a = b), ()) := by
  unfold passkeyref1_SameItems
  by_cases hl : a.length = b.length
  · rw [show decide ((a.length : Int) = (b.length : Int)) = true by simp [hl]]
    simp only [Bool.not_true, cond_false]
    have : passkeyref1_SameItems_L0 (a, b, 0, ()) = some (scan (fun i x (_ : Unit) => bif decide (b[i]? = some x) then .inl () else .inr (.inl (false, ()))) (fun _ => .inr ()) 0 a ()) := by
      unfold passkeyref1_SameItems_L0
      refine iter_scan (fun i (_ : Unit) => (a, b, i, ())) a _ _ (fun _ _ => True) ?_ ?_ () trivial rounds (by rw [rounds_eq]; omega)
      · intro i x u hx _
        have hi : i < a.length := (List.getElem?_eq_some_iff.1 hx).1
        refine ⟨?_, fun _ _ => trivial⟩
        simp only [passkeyref1_SameItems_L0b]
        rw [show decide ((i : Int) < (a.length : Int)) = true by simp; omega]
        have e1 : getI a (i : Int) = some x := by unfold getI; simp [hx]
        have hb : i < b.length := by omega
        have e2 : getI b (i : Int) = some b[i] := by unfold getI; simp [hb]
        rw [e1, e2, wrap_id (by omega) (by omega)]
        simp only [cond_true, bindS]
        rw [item_eq]
        by_cases h : x = b[i]
        · simp [h, hb]
        · have h' : ¬ b[i] = x := fun e => h e.symm
          simp [h, h', hb]
      · intro u _
        simp only [passkeyref1_SameItems_L0b]
        rw [show decide ((a.length : Int) < (a.length : Int)) = false by simp]
        rfl
    rw [this, scan_allI]
    by_cases hab : a = b
    · have : allI (fun i x => decide (b[i]? = some x)) 0 a = true := allI_iff.2 fun i x hx => by
        rw [hab] at hx; simp [hx]
      rw [this]; simp [hab]
    · have : allI (fun i x => decide (b[i]? = some x)) 0 a = false := by
        cases h : allI (fun i x => decide (b[i]? = some x)) 0 a
        · rfl
        · refine absurd ?_ hab
          apply List.ext_getElem?
          intro i
          by_cases hi : i < a.length
          · have := allI_iff.1 h i a[i] (by simp [hi])
            simp only [Nat.zero_add, decide_eq_true_eq] at this
            rw [this]; simp [hi]
          · rw [List.getElem?_eq_none (by omega), List.getElem?_eq_none (by omega)]
      rw [this]; simp [hab]
  · rw [show decide ((a.length : Int) = (b.length : Int)) = false by simp; omega]
    have : a ≠ b := fun e => hl (by rw [e])
    simp [this]
def byt (n : BitVec 64) : UInt8 := UInt8.ofBitVec (BitVec.setWidth 8 n)
def beb (n : BitVec 64) : Nat → List UInt8
  | 0 => []
  | k + 1 => byt (n >>> (8 * k)) :: beb n k
def hdr (m : UInt8) (n : BitVec 64) : List UInt8 :=
  bif decide (n.toNat < 24) then [m + byt n] else bif decide (n.toNat < 256) then (m + 24) :: beb n 1 else bif decide (n.toNat < 65536) then (m + 25) :: beb n 2 else bif decide (n.toNat < 4294967296) then (m + 26) :: beb n 4 else (m + 27) :: beb n 8
def mj (k : Int) : UInt8 := bif decide (k = 2) then 32 else bif decide (k = 3) then 64 else bif decide (k = 4) then 96 else bif decide (k = 5) then 128 else bif decide (k = 6) then 160 else 0
def isD (k : Int) : Bool := decide (k = 3) || decide (k = 4)
def isN (k : Int) : Bool := decide (k = 5) || decide (k = 6)
def num (x : ApiItem) : BitVec 64 := bif isD x.kind then BitVec.ofInt 64 (x.data.length : Int) else x.number
def hdI (x : ApiItem) : List UInt8 := bif decide (x.kind = 7) then [244 + byt x.number] else bif decide (x.kind = 8) then [246] else hdr (mj x.kind) (num x)
def enc (x : ApiItem) : List UInt8 := hdI x ++ x.data
theorem beb_len (n : BitVec 64) : ∀ k, (beb n k).length = k
  | 0 => rfl
  | k + 1 => by simp [beb, beb_len n k]
theorem hdr_len (m : UInt8) (n : BitVec 64) : 1 ≤ (hdr m n).length ∧ (hdr m n).length ≤ 9 := by
  unfold hdr
  cases decide (n.toNat < 24) <;> cases decide (n.toNat < 256) <;> cases decide (n.toNat < 65536) <;> cases decide (n.toNat < 4294967296) <;> simp [beb_len]
theorem hdI_len (x : ApiItem) : 1 ≤ (hdI x).length ∧ (hdI x).length ≤ 9 := by
  unfold hdI
  have := hdr_len (mj x.kind) (num x)
  cases decide (x.kind = 7) <;> cases decide (x.kind = 8) <;> simp <;> omega
theorem enc_ne (x : ApiItem) : enc x ≠ [] := by
  have h1 := (hdI_len x).1
  intro h
  have h2 := congrArg List.length h
  unfold enc at h2
  rw [List.length_append, List.length_nil] at h2
  omega
theorem headL_ok (out : List UInt8) (n : BitVec 64) (k : Nat) (hk : k ≤ 8) (ho : out.length < 100000000) : cbor_appendHead_L1 (out, n, (k : Int) - 1, ()) = some (out ++ beb n k, ()) := by
  unfold cbor_appendHead_L1
  rw [iter_fun (fun q => q.2.1 = n ∧ -1 ≤ q.2.2.1 ∧ q.2.2.1 ≤ 7 ∧ (q.1.length : Int) + q.2.2.1 ≤ 200000000) (fun q => (q.2.2.1 + 1).toNat) (fun q => (q.1 ++ beb q.2.1 (q.2.2.1 + 1).toNat, ()))]
  · rw [show ((k : Int) - 1 + 1).toNat = k by omega]
  · rintro ⟨o, m, i, u⟩ ⟨h1, h2, h3, h4⟩
    dsimp only at *
    subst h1
    simp only [cbor_appendHead_L1b]
    by_cases hi : 0 ≤ i
    · left
      obtain ⟨j, rfl⟩ : ∃ j : Nat, i = (j : Int) := ⟨i.toNat, by omega⟩
      rw [wrap_id (n := 8 * (j : Int)) (by omega) (by omega), wrap_id (n := (j : Int) - 1) (by omega) (by omega), show decide ((0 : Int) ≤ (j : Int)) = true by simp, show decide ((0 : Int) ≤ 8 * (j : Int)) = true by simp; omega, small1 (by simp; omega)]
      refine ⟨_, rfl, ⟨rfl, by dsimp only; omega, by dsimp only; omega, by dsimp only; simp; omega⟩, by dsimp only; omega, ?_⟩
      dsimp only
      rw [show ((j : Int) + 1).toNat = j + 1 by omega, show ((j : Int) - 1 + 1).toNat = j by omega, show (8 * (j : Int)).toNat = 8 * j by omega]
      simp [beb, byt]
    · right
      rw [show decide ((0 : Int) ≤ i) = false by simpa using hi, show (i + 1).toNat = 0 by omega]
      simp [beb]
  · exact ⟨rfl, by dsimp only; omega, by dsimp only; omega, by dsimp only; omega⟩
  · rw [rounds_eq]; dsimp only; omega
theorem appendHead_ok (out : List UInt8) (m : UInt8) (n : BitVec 64) (ho : out.length < 10000000) : cbor_appendHead out m n = some ((), out ++ hdr (UInt8.ofBitVec (m.toBitVec <<< 5)) n, ()) := by
  unfold cbor_appendHead hdr
  have e24 : (24#64).toNat = 24 := rfl
  have e256 : (256#64).toNat = 256 := rfl
  have e16 : (65536#64).toNat = 65536 := rfl
  have e32 : (4294967296#64).toNat = 4294967296 := rfl
  rw [e24, e256, e16, e32]
  generalize UInt8.ofBitVec (m.toBitVec <<< 5) = f
  by_cases h1 : n.toNat < 24
  · simp only [h1, decide_true, cond_true]
    rw [small1 (by simp; omega)]
    rfl
  · by_cases h2 : n.toNat < 256
    · simp only [h1, h2, decide_true, decide_false, cond_true, cond_false, bindS, Sum.elim_inl]
      rw [small1 (by simp; omega), wrap_id (n := (1 : Int) - 1) (by omega) (by omega), show (1 : Int) - 1 = ((1 : Nat) : Int) - 1 from rfl, headL_ok _ _ 1 (by omega) (by simp; omega)]
      simp only [cond_true, bindS, List.append_assoc]
      rfl
    · by_cases h3 : n.toNat < 65536
      · simp only [h1, h2, h3, decide_true, decide_false, cond_true, cond_false, bindS, Sum.elim_inl]
        rw [small1 (by simp; omega), wrap_id (n := (2 : Int) - 1) (by omega) (by omega), show (2 : Int) - 1 = ((2 : Nat) : Int) - 1 from rfl, headL_ok _ _ 2 (by omega) (by simp; omega)]
        simp only [cond_true, bindS, List.append_assoc]
        rfl
      · by_cases h4 : n.toNat < 4294967296
        · simp only [h1, h2, h3, h4, decide_true, decide_false, cond_true, cond_false, bindS, Sum.elim_inl]
          rw [small1 (by simp; omega), wrap_id (n := (4 : Int) - 1) (by omega) (by omega), show (4 : Int) - 1 = ((4 : Nat) : Int) - 1 from rfl, headL_ok _ _ 4 (by omega) (by simp; omega)]
          simp only [cond_true, bindS, List.append_assoc]
          rfl
        · simp only [h1, h2, h3, h4, decide_true, decide_false, cond_true, cond_false, bindS, Sum.elim_inl]
          rw [small1 (by simp; omega), wrap_id (n := (8 : Int) - 1) (by omega) (by omega), show (8 : Int) - 1 = ((8 : Nat) : Int) - 1 from rfl, headL_ok _ _ 8 (by omega) (by simp; omega)]
          simp only [cond_true, bindS, List.append_assoc]
          rfl
def kin (x : ApiItem) : Prop := 1 ≤ x.kind ∧ x.kind ≤ 8 ∧ (isD x.kind = false → x.data = [])
theorem appendItem_ok (out : List UInt8) (x : ApiItem) (hk : kin x) (ho : out.length < 1000000) (hx : x.data.length < 1000000) : cbor_appendItem out x = some ((), out ++ enc x, ()) := by
  obtain ⟨k, n, d⟩ := x
  obtain ⟨h1, h2, h3⟩ := hk
  dsimp only at h1 h2 h3 hx
  unfold cbor_appendItem enc hdI num
  dsimp only
  have hl := fun m n => (hdr_len m n).2
  have hk : k = 1 ∨ k = 2 ∨ k = 3 ∨ k = 4 ∨ k = 5 ∨ k = 6 ∨ k = 7 ∨ k = 8 := by omega
  rcases hk with rfl | rfl | rfl | rfl | rfl | rfl | rfl | rfl
  · rw [h3 rfl, List.append_nil]
    exact (congrArg (fun q => Option.bind q fun r9 => some ((), (r9.2.1, ()))) (appendHead_ok out 0 n (by omega))).trans rfl
  · rw [h3 rfl, List.append_nil]
    exact (congrArg (fun q => Option.bind q fun r9 => some ((), (r9.2.1, ()))) (appendHead_ok out 1 n (by omega))).trans rfl
  · have := appendHead_ok out 2 (BitVec.ofInt 64 (d.length : Int)) (by omega)
    have hs := small1 (n := (out ++ hdr 64 (BitVec.ofInt 64 (d.length : Int))).length + d.length) (by have := hl 64 (BitVec.ofInt 64 (d.length : Int)); rw [List.length_append]; omega)
    have e : (UInt8.ofBitVec ((2 : UInt8).toBitVec <<< 5)) = 64 := by decide
    rw [e] at this
    show ((cbor_appendHead out 2 (BitVec.ofInt 64 (d.length : Int))).bind fun r3 => (bif small ((r3.2.1).length + (d : List (UInt8)).length) 1 then (some ((), ((r3.2.1 ++ d), ()))) else none)) = _
    rw [this]
    simp only [bindS]
    rw [hs]
    simp only [cond_true, List.append_assoc]
    rfl
  · have := appendHead_ok out 3 (BitVec.ofInt 64 (d.length : Int)) (by omega)
    have hs := small1 (n := (out ++ hdr 96 (BitVec.ofInt 64 (d.length : Int))).length + d.length) (by have := hl 96 (BitVec.ofInt 64 (d.length : Int)); rw [List.length_append]; omega)
    have e : (UInt8.ofBitVec ((3 : UInt8).toBitVec <<< 5)) = 96 := by decide
    rw [e] at this
    show ((cbor_appendHead out 3 (BitVec.ofInt 64 (d.length : Int))).bind fun r3 => (bif small ((r3.2.1).length + (d : List (UInt8)).length) 1 then (some ((), ((r3.2.1 ++ d), ()))) else none)) = _
    rw [this]
    simp only [bindS]
    rw [hs]
    simp only [cond_true, List.append_assoc]
    rfl
  · rw [h3 rfl, List.append_nil]
    exact (congrArg (fun q => Option.bind q fun r9 => some ((), (r9.2.1, ()))) (appendHead_ok out 4 n (by omega))).trans rfl
  · rw [h3 rfl, List.append_nil]
    exact (congrArg (fun q => Option.bind q fun r9 => some ((), (r9.2.1, ()))) (appendHead_ok out 5 n (by omega))).trans rfl
  · rw [h3 rfl, List.append_nil]
    show (bif small (out.length + 1) 1 then _ else none) = _
    rw [small1 (by omega)]
    rfl
  · rw [h3 rfl, List.append_nil]
    show (bif small (out.length + 1) 1 then _ else none) = _
    rw [small1 (by omega)]
    rfl
theorem Words_ok (n : BitVec 64) : passkeyref1_Words [n] = some ((), beb n 8, ()) := by
  have hL : ∀ out : List UInt8, out.length ≤ 100 → passkeyref1_Words_L2 ([n], out, 0, 7, ()) = some ([n], out ++ beb n 8, 0, ()) := by
    intro out ho
    unfold passkeyref1_Words_L2
    rw [iter_fun (fun q => q.1 = [n] ∧ q.2.2.1 = 0 ∧ -1 ≤ q.2.2.2.1 ∧ q.2.2.2.1 ≤ 7 ∧ (q.2.1.length : Int) + q.2.2.2.1 ≤ 200) (fun q => (q.2.2.2.1 + 1).toNat) (fun q => (q.1, q.2.1 ++ beb n (q.2.2.2.1 + 1).toNat, q.2.2.1, ()))]
    · rfl
    · rintro ⟨l, o, z, i, u⟩ ⟨h0, h1, h2, h3, h4⟩
      dsimp only at *
      subst h0; subst h1
      simp only [passkeyref1_Words_L2b]
      by_cases hi : 0 ≤ i
      · left
        obtain ⟨j, rfl⟩ : ∃ j : Nat, i = (j : Int) := ⟨i.toNat, by omega⟩
        have eg : getI [n] 0 = some n := rfl
        have es : (BitVec.ofInt 64 (8 * (j : Int))).toNat = 8 * j := by
          rw [show (8 * (j : Int)) = ((8 * j : Nat) : Int) by omega, BitVec.ofInt_natCast, BitVec.toNat_ofNat, Nat.mod_eq_of_lt (by omega)]
        rw [wrap_id (n := 8 * (j : Int)) (by omega) (by omega), wrap_id (n := (j : Int) - 1) (by omega) (by omega), show decide ((0 : Int) ≤ (j : Int)) = true by simp, eg, es]
        simp only [cond_true, bindS]
        rw [small1 (by simp; omega)]
        refine ⟨_, rfl, ⟨rfl, rfl, by dsimp only; omega, by dsimp only; omega, by dsimp only; simp; omega⟩, by dsimp only; omega, ?_⟩
        dsimp only
        rw [show ((j : Int) + 1).toNat = j + 1 by omega, show ((j : Int) - 1 + 1).toNat = j by omega]
        simp [beb, byt]
      · right
        rw [show decide ((0 : Int) ≤ i) = false by simpa using hi, show (i + 1).toNat = 0 by omega]
        simp [beb]
    · exact ⟨rfl, rfl, by dsimp only; omega, by dsimp only; omega, by dsimp only; omega⟩
    · rw [rounds_eq]; dsimp only; omega
  unfold passkeyref1_Words passkeyref1_Words_L0
  rw [rounds_eq, show (1180591620717411303424 : Nat) = 1180591620717411303422 + 1 + 1 from rfl, iter_succ]
  have e1 : passkeyref1_Words_L0b [n] [] 0 = some (.inl ([n], beb n 8, 1, ())) := by
    unfold passkeyref1_Words_L0b
    rw [hL [] (by simp)]
    rfl
  have e2 : passkeyref1_Words_L0b [n] (beb n 8) 1 = some (.inr (beb n 8, ())) := rfl
  dsimp only
  rw [e1, bindS, Sum.elim_inl, iter_succ]
  dsimp only
  rw [e2, bindS, Sum.elim_inr, bindS]
def tailH (j2 : (BitVec 64) × UInt8 × Unit) : Option (Unit × (List UInt8 × Unit)) := (bif (decide (j2.1.toNat < (24#64).toNat)) then (let v3 : UInt8 := (UInt8.ofBitVec (j2.2.1.toBitVec + (UInt8.ofBitVec (BitVec.setWidth 8 j2.1)).toBitVec))
 (some ((), (([v3] : List (UInt8)), ()))))
 else (bif (decide (j2.1.toNat < (256#64).toNat)) then (let v4 : List (UInt8) := ([(UInt8.ofBitVec (j2.2.1.toBitVec + (24 : UInt8).toBitVec)), (UInt8.ofBitVec (BitVec.setWidth 8 j2.1))] : List (UInt8))
 (some ((), (v4, ()))))
 else (bif (decide (j2.1.toNat < (65536#64).toNat)) then (let v5 : List (UInt8) := ([(UInt8.ofBitVec (j2.2.1.toBitVec + (25 : UInt8).toBitVec)), (UInt8.ofBitVec (BitVec.setWidth 8 (j2.1 >>> 8))), (UInt8.ofBitVec (BitVec.setWidth 8 j2.1))] : List (UInt8))
 (some ((), (v5, ()))))
 else (bif (decide (j2.1.toNat < (4294967296#64).toNat)) then (let v6 : List (UInt8) := ([(UInt8.ofBitVec (j2.2.1.toBitVec + (26 : UInt8).toBitVec)), (UInt8.ofBitVec (BitVec.setWidth 8 (j2.1 >>> 24))), (UInt8.ofBitVec (BitVec.setWidth 8 (j2.1 >>> 16))), (UInt8.ofBitVec (BitVec.setWidth 8 (j2.1 >>> 8))), (UInt8.ofBitVec (BitVec.setWidth 8 j2.1))] : List (UInt8))
 (some ((), (v6, ()))))
 else (let v7 : List (UInt8) := ([(UInt8.ofBitVec (j2.2.1.toBitVec + (27 : UInt8).toBitVec))] : List (UInt8))
 ((passkeyref1_Words ([j2.1] : List (BitVec 64))).bind fun r8 => (bif small ((v7).length + (r8.2.1 : List (UInt8)).length) 1 then (some ((), ((v7 ++ r8.2.1), ())))
 else none)))))))
theorem Head_ok (x : ApiItem) : passkeyref1_Head x = some ((), hdI x, ()) := by
  have key : ∀ (m : UInt8) (n : BitVec 64), tailH (n, m, ()) = some ((), hdr m n, ()) := by
    intro m n
    unfold tailH
    dsimp only
    have e24 : (24#64).toNat = 24 := rfl
    have e256 : (256#64).toNat = 256 := rfl
    have e16 : (65536#64).toNat = 65536 := rfl
    have e32 : (4294967296#64).toNat = 4294967296 := rfl
    have es : n >>> (8 * 0) = n := by simp
    rw [e24, e256, e16, e32]
    unfold hdr
    simp only [beb, byt, es]
    by_cases h1 : n.toNat < 24
    · simp only [h1, decide_true, cond_true]; rfl
    · by_cases h2 : n.toNat < 256
      · simp only [h1, h2, decide_true, decide_false, cond_true, cond_false]; rfl
      · by_cases h3 : n.toNat < 65536
        · simp only [h1, h2, h3, decide_true, decide_false, cond_true, cond_false]; rfl
        · by_cases h4 : n.toNat < 4294967296
          · simp only [h1, h2, h3, h4, decide_true, decide_false, cond_true, cond_false]; rfl
          · simp only [h1, h2, h3, h4, decide_true, decide_false, cond_true, cond_false]
            rw [Words_ok]
            simp only [bindS]
            rw [small1 (by simp [beb_len])]
            simp only [cond_true, beb, byt, es]
            rfl
  unfold passkeyref1_Head hdI num isD mj
  by_cases h7 : x.kind = 7
  · simp only [h7, decide_true, cond_true]; rfl
  · by_cases h8 : x.kind = 8
    · simp only [h8, decide_true, cond_true]; rfl
    · by_cases h2 : x.kind = 2
      · simp only [h2]; exact key _ _
      · by_cases h3 : x.kind = 3
        · simp only [h3]; exact key _ _
        · by_cases h4 : x.kind = 4
          · simp only [h4]; exact key _ _
          · by_cases h5 : x.kind = 5
            · simp only [h5]; exact key _ _
            · by_cases h6 : x.kind = 6
              · simp only [h6]; exact key _ _
              · simp only [h2, h3, h4, h5, h6, h7, h8, decide_false, cond_false, Bool.or_self]; exact key _ _
theorem Bytes_ok (x : ApiItem) (hx : x.data.length < 1000000) : passkeyref1_Bytes x = some ((), enc x, ()) := by
  unfold passkeyref1_Bytes enc
  rw [Head_ok]
  simp only [bindS]
  rw [ble_of (by have := (hdI_len x).2; omega)]
  rfl
def lss (a b : List UInt8) : Bool := bif decide (a.length = b.length) then Op.bytesLess a b else decide (a.length < b.length)
theorem less_ok (a b : List UInt8) : passkeyref1_less a b = some ((), lss a b, ()) := by
  unfold passkeyref1_less lss
  by_cases h : a.length = b.length
  · simp [h]
  · rw [show decide ((a.length : Int) = (b.length : Int)) = false by simp; omega, show decide (a.length = b.length) = false by simpa using h]
    simp
theorem cmp_less : ∀ a b : List UInt8, decide (Lib.compareBytes a b < 0) = Op.bytesLess a b
  | [], [] => rfl
  | [], _ :: _ => rfl
  | _ :: _, [] => rfl
  | a :: x, b :: y => by
    unfold Lib.compareBytes Op.bytesLess
    by_cases h1 : a < b
    · simp [h1]
    · by_cases h2 : b < a
      · have : a ≠ b := fun e => by subst e; exact absurd h2 h1
        simp [h1, h2, this]
      · have : a = b := by
          apply UInt8.toNat_inj.1
          have h1' : ¬ a.toNat < b.toNat := h1
          have h2' : ¬ b.toNat < a.toNat := h2
          omega
        subst this
        simp [h1, cmp_less x y]
theorem smaller_ok (a b : List UInt8) : cbor_smaller a b = some ((), lss a b, ()) := by
  unfold cbor_smaller lss bytes_Compare
  by_cases h : a.length = b.length
  · rw [show decide ((a.length : Int) = (b.length : Int)) = true by simp [h], show decide (a.length = b.length) = true by simpa using h]
    simp only [Bool.not_true, cond_false, cond_true, bindS]
    rw [cmp_less]
  · rw [show decide ((a.length : Int) = (b.length : Int)) = false by simp; omega, show decide (a.length = b.length) = false by simpa using h]
    simp
end Go.Proofs.YtjedfmknnkimmaaDoor

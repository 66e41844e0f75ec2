/- cbor: changed items, Skip; the laws CborEncodes, CborSkips, CborDepth, plainly. No condition. -/
import Derived.Test.YtjedfmknnkimmaaDoorCborF
set_option linter.unusedVariables false
set_option linter.unusedSimpArgs false
set_option maxRecDepth 100000
namespace Go.Proofs.YtjedfmknnkimmaaDoor
open Go Go.Abs
theorem shr (k : Nat) (j : Nat) (hj : j ≤ 64) : Int.fdiv (k : Int) (2 ^ (min j (IntKind.bits .i64))) = ((k / 2 ^ j : Nat) : Int) := by
  rw [show min j (IntKind.bits .i64) = j from Nat.min_eq_left hj, Int.fdiv_eq_ediv_of_nonneg _ (by exact_mod_cast Nat.zero_le (2 ^ j))]
  rw [Int.natCast_ediv]
  congr 1
theorem tmodN (a b : Nat) : Int.tmod (a : Int) (b : Int) = ((a % b : Nat) : Int) := rfl
theorem inb (a b : Nat) (h : a < b) : (decide ((0 : Int) ≤ (a : Int)) && decide ((a : Int) < (b : Int))) = true := by
  rw [decide_eq_true (Int.natCast_nonneg a), decide_eq_true (by omega)]; rfl
theorem spoil_ok (x : List ApiItem) (n : Nat) (hx : x ≠ []) (hl : x.length ≤ 250) (hd : ∀ y ∈ x, y.data.length ≤ 40) : Ok (passkeylaw1_spoil x (n : Int)) fun r => r.2.1.length ≤ 300 ∧ ∀ y ∈ r.2.1, y.data.length ≤ 1100 := by
  have hx0 : 0 < x.length := List.length_pos_iff.2 hx
  have hd2 : ∀ y ∈ x, y.data.length ≤ 1100 := fun y hy => by have := hd y hy; omega
  unfold passkeylaw1_spoil
  rw [small32 (by omega)]
  simp only [cond_true]
  obtain ⟨k, hk, ek⟩ := mask (Int.fdiv (n : Int) (2 ^ (min 4 (IntKind.bits .i64)))) 65535 (by omega)
  rw [show ((65535 : Nat) : Int) = 65535 from rfl] at ek
  rw [ek, show decide ((x.length : Int) = 0) = false from decide_eq_false (by omega), tmodN]
  have hi : k % x.length < x.length := Nat.mod_lt _ hx0
  generalize k % x.length = i at hi
  rw [inb i x.length hi, Int.toNat_natCast, show decide ((0 : Int) ≤ (i : Int)) = true from decide_eq_true (Int.natCast_nonneg i), show decide ((i : Int) ≤ (x.length : Int)) = true from decide_eq_true (by omega), show decide (i ≤ x.length) = true from decide_eq_true (by omega)]
  simp only [cond_true, cond_false, Bool.and_self]
  have hset : ∀ z : ApiItem, z.data.length ≤ 1100 → Ok (some ((), (x.set i z, ()))) fun (r : Unit × (List ApiItem × Unit)) => r.2.1.length ≤ 300 ∧ ∀ y ∈ r.2.1, y.data.length ≤ 1100 := by
    intro z hz
    refine Ok.some ⟨by simp; omega, ?_⟩
    intro y hy
    rcases List.mem_or_eq_of_mem_set hy with h | rfl
    · exact hd2 y h
    · exact hz
  have hxi : x[i]? = some x[i] := List.getElem?_eq_getElem hi
  have hdi := hd2 x[i] (List.getElem_mem hi)
  rw [hxi]
  simp only [bindS]
  refine Ok.cond (fun _ => hset _ hdi) (fun _ => ?_)
  refine Ok.cond (fun _ => ?_) (fun _ => ?_)
  · rw [shr k 3 (by omega), show (6 : Int) = ((6 : Nat) : Int) from rfl, tmodN]
    have h6 : k / 2 ^ 3 % 6 < 6 := Nat.mod_lt _ (by omega)
    generalize k / 2 ^ 3 % 6 = j at h6
    rw [inb j 6 h6, Int.toNat_natCast]
    simp only [cond_true]
    exact Ok.get (by simpa using h6) fun z => hset _ hdi
  refine Ok.cond (fun _ => ?_) (fun _ => ?_)
  · rw [shr k 3 (by omega)]
    obtain ⟨j, hj, ej⟩ := mask ((k / 2 ^ 3 : Nat) : Int) 3 (by omega)
    rw [show ((3 : Nat) : Int) = 3 from rfl] at ej
    rw [ej, show (4 : Int) = ((4 : Nat) : Int) from rfl, inb j 4 (by omega), Int.toNat_natCast]
    simp only [cond_true]
    have hL : ∃ w, ([([] : List UInt8), ([98] : List UInt8), ([255] : List UInt8), List.replicate 1025 (0 : UInt8)] : List (List UInt8))[j]? = some w ∧ w.length ≤ 1100 := by
      have : j = 0 ∨ j = 1 ∨ j = 2 ∨ j = 3 := by omega
      rcases this with rfl | rfl | rfl | rfl
      · exact ⟨_, rfl, by simp⟩
      · exact ⟨_, rfl, by simp⟩
      · exact ⟨_, rfl, by simp⟩
      · exact ⟨_, rfl, by rw [List.length_replicate]; omega⟩
    obtain ⟨w, hw1, hw2⟩ := hL
    rw [hw1]
    simp only [bindS]
    exact hset _ hw2
  refine Ok.cond (fun _ => ?_) (fun _ => ?_)
  · refine Ok.some ⟨by simp; omega, fun y hy => hd2 y (List.mem_of_mem_take hy)⟩
  refine Ok.cond (fun _ => ?_) (fun _ => ?_)
  · rw [small32 (by simp; omega)]
    simp only [cond_true]
    refine Ok.some ⟨by simp; omega, fun y hy => ?_⟩
    rcases List.mem_append.1 hy with h | h
    · exact hd2 y h
    · simp at h; subst h; simp
  refine Ok.cond (fun _ => ?_) (fun _ => ?_)
  · rw [shr k 4 (by omega), tmodN]
    have hj : k / 2 ^ 4 % x.length < x.length := Nat.mod_lt _ hx0
    generalize k / 2 ^ 4 % x.length = j at hj
    rw [inb j x.length hj, Int.toNat_natCast, show x[j]? = some x[j] from List.getElem?_eq_getElem hj]
    simp only [cond_true, bindS]
    have hj2 : j < (x.set i x[j]).length := by simpa using hj
    rw [show (x.set i x[j])[j]? = some (x.set i x[j])[j] from List.getElem?_eq_getElem hj2]
    simp only [bindS]
    refine Ok.some ⟨by simp; omega, fun y hy => ?_⟩
    rcases List.mem_or_eq_of_mem_set hy with h | rfl
    · rcases List.mem_or_eq_of_mem_set h with h | rfl
      · exact hd2 y h
      · exact hd2 _ (List.getElem_mem hj)
    · exact hdi
  · exact Ok.some ⟨by dsimp only; omega, hd2⟩
theorem Tre.d5 {o : List ApiItem} (h : Tre o) : ∀ x ∈ o, x.data.length < 100000 := fun x hx => by have := h.data x hx; omega
def addI (x : ApiItem) : Nat := bif decide (x.kind = 5) then x.number.toNat else bif decide (x.kind = 6) then 2 * x.number.toNat else 0
def skp : List ApiItem → Nat → Option Nat
  | [], 0 => some 0
  | [], _ + 1 => none
  | _ :: _, 0 => some 0
  | x :: r, n + 1 => bif isN x.kind && decide (512 < x.number.toNat) then none else (skp r (n + addI x)).map (· + 1)
theorem skp_zero : ∀ l, skp l 0 = some 0
  | [] => rfl
  | _ :: _ => rfl
def skZ (at0 : Nat) : Option Nat → (Int × Bool × Unit) ⊕ (Int × Unit)
  | none => .inl (0, false, ())
  | some k => .inr (((at0 + k : Nat) : Int), ())
theorem addI_le {x : ApiItem} (h : (isN x.kind && decide (512 < x.number.toNat)) = false) : addI x ≤ 1024 := by
  unfold addI
  simp only [isN, Bool.and_eq_false_iff, decide_eq_false_iff_not, Bool.or_eq_false_iff] at h
  by_cases h5 : x.kind = 5
  · simp [h5] at h ⊢; omega
  · by_cases h6 : x.kind = 6
    · simp [h6] at h ⊢; omega
    · simp [h5, h6]
theorem SkipL_ok (l : List ApiItem) (hl : l.length < 1000000) : ∀ (r : List ApiItem) (at0 need f : Nat), l.drop at0 = r → at0 ≤ l.length → need ≤ 1024 * (at0 + 1) → r.length < f →
    iter (fun (y : ((List (ApiItem)) × Int × Int × Unit)) => cbor_Skip_L0b y.1 y.2.1 y.2.2.1) f (l, (at0 : Int), (need : Int), ()) = some (skZ at0 (skp r need)) := by
  intro r
  induction r with
  | nil =>
    intro at0 need f hr ha hn hf
    have hal : at0 = l.length := by
      have := congrArg List.length hr
      simp at this
      omega
    obtain ⟨f, rfl⟩ : ∃ g, f = g + 1 := ⟨f - 1, by omega⟩
    rw [iter_succ]
    dsimp only
    unfold cbor_Skip_L0b
    cases need with
    | zero => rfl
    | succ need =>
      rw [show decide ((0 : Int) < ((need + 1 : Nat) : Int)) = true from decide_eq_true (by omega), show decide ((l.length : Int) ≤ (at0 : Int)) = true from decide_eq_true (by omega)]
      rfl
  | cons x r ih =>
    intro at0 need f hr ha hn hf
    have hlt : at0 < l.length := by
      have := congrArg List.length hr
      simp at this
      omega
    have hx : l[at0]? = some x := by
      have := congrArg (·[0]?) hr
      simpa using this
    have hr2 : l.drop (at0 + 1) = r := by
      have := congrArg (List.drop 1) hr
      simpa [List.drop_drop] using this
    have eg : getI l (at0 : Int) = some x := by unfold getI; simp [hx]
    simp only [List.length_cons] at hf
    obtain ⟨f, rfl⟩ : ∃ g, f = g + 1 := ⟨f - 1, by omega⟩
    rw [iter_succ]
    dsimp only
    cases need with
    | zero => rfl
    | succ need =>
      have e1 : cbor_Skip_L0b l (at0 : Int) ((need + 1 : Nat) : Int) = some (bif isN x.kind && decide (512 < x.number.toNat) then .inr (.inl (0, false, ())) else .inl (l, ((at0 + 1 : Nat) : Int), ((need + addI x : Nat) : Int), ())) := by
        unfold cbor_Skip_L0b
        rw [show decide ((0 : Int) < ((need + 1 : Nat) : Int)) = true from decide_eq_true (by omega), show decide ((l.length : Int) ≤ (at0 : Int)) = false from decide_eq_false (by omega), eg, wrap_id (n := (at0 : Int) + 1) (by omega) (by omega), wrap_id (n := ((need + 1 : Nat) : Int) - 1) (by omega) (by omega), show ((need + 1 : Nat) : Int) - 1 = (need : Int) by omega, show (512#64).toNat = 512 from rfl]
        simp only [cond_true, cond_false, bindS]
        unfold isN addI
        by_cases h5 : x.kind = 5
        · by_cases hm : 512 < x.number.toNat
          · simp [h5, hm]
          · rw [wrap_id (n := (x.number.toNat : Int)) (by omega) (by omega), wrap_id (n := (need : Int) + (x.number.toNat : Int)) (by omega) (by omega)]
            simp [h5, hm]
        · by_cases h6 : x.kind = 6
          · by_cases hm : 512 < x.number.toNat
            · simp [h6, hm]
            · rw [wrap_id (n := (x.number.toNat : Int)) (by omega) (by omega), wrap_id (n := (need : Int) + (x.number.toNat : Int)) (by omega) (by omega), wrap_id (n := (need : Int) + (x.number.toNat : Int) + (x.number.toNat : Int)) (by omega) (by omega)]
              simp [h6, hm]
              omega
          · simp [h5, h6]
      rw [e1, bindS]
      simp only [skp]
      cases hb : (isN x.kind && decide (512 < x.number.toNat))
      · simp only [cond_false, Sum.elim_inl]
        have := addI_le hb
        rw [ih (at0 + 1) (need + addI x) f hr2 (by omega) (by omega) (by omega)]
        cases skp r (need + addI x) with
        | none => rfl
        | some k =>
          simp only [Option.map_some, skZ]
          rw [show at0 + 1 + k = at0 + (k + 1) by omega]
      · rfl
theorem rSkipL_ok (l : List ApiItem) (hl : l.length < 1000000) : ∀ (r : List ApiItem) (at0 need f : Nat), l.drop at0 = r → at0 ≤ l.length → need ≤ 1024 * (at0 + 1) → r.length < f →
    iter (fun (y : ((List (ApiItem)) × Int × (BitVec 64) × Unit)) => passkeyref1_Skip_L0b y.1 y.2.1 y.2.2.1) f (l, (at0 : Int), BitVec.ofNat 64 need, ()) = some (skZ at0 (skp r need)) := by
  have ebv : ∀ i : Nat, i ≤ 2000000000 → (BitVec.ofNat 64 i).toNat = i := fun i hi => by
    rw [BitVec.toNat_ofNat, Nat.mod_eq_of_lt (by omega)]
  intro r
  induction r with
  | nil =>
    intro at0 need f hr ha hn hf
    have hal : at0 = l.length := by
      have := congrArg List.length hr
      simp at this
      omega
    obtain ⟨f, rfl⟩ : ∃ g, f = g + 1 := ⟨f - 1, by omega⟩
    rw [iter_succ]
    dsimp only
    unfold passkeyref1_Skip_L0b
    rw [ebv need (by omega), show (0#64).toNat = 0 from rfl]
    cases need with
    | zero => rfl
    | succ need =>
      rw [show decide (0 < need + 1) = true from decide_eq_true (by omega), show decide ((l.length : Int) ≤ (at0 : Int)) = true from decide_eq_true (by omega)]
      rfl
  | cons x r ih =>
    intro at0 need f hr ha hn hf
    have hlt : at0 < l.length := by
      have := congrArg List.length hr
      simp at this
      omega
    have hx : l[at0]? = some x := by
      have := congrArg (·[0]?) hr
      simpa using this
    have hr2 : l.drop (at0 + 1) = r := by
      have := congrArg (List.drop 1) hr
      simpa [List.drop_drop] using this
    have eg : getI l (at0 : Int) = some x := by unfold getI; simp [hx]
    simp only [List.length_cons] at hf
    obtain ⟨f, rfl⟩ : ∃ g, f = g + 1 := ⟨f - 1, by omega⟩
    rw [iter_succ]
    dsimp only
    cases need with
    | zero =>
      unfold passkeyref1_Skip_L0b
      rfl
    | succ need =>
      have e1 : passkeyref1_Skip_L0b l (at0 : Int) (BitVec.ofNat 64 (need + 1)) = some (bif isN x.kind && decide (512 < x.number.toNat) then .inr (.inl (0, false, ())) else .inl (l, ((at0 + 1 : Nat) : Int), BitVec.ofNat 64 (need + addI x), ())) := by
        have es : BitVec.ofNat 64 (need + 1) - 1#64 = BitVec.ofNat 64 need := by
          apply BitVec.eq_of_toNat_eq
          rw [BitVec.toNat_sub, ebv (need + 1) (by omega), ebv need (by omega), show (1#64).toNat = 1 from rfl]
          omega
        unfold passkeyref1_Skip_L0b
        rw [ebv (need + 1) (by omega), show (0#64).toNat = 0 from rfl, show decide (0 < need + 1) = true from decide_eq_true (by omega), show decide ((l.length : Int) ≤ (at0 : Int)) = false from decide_eq_false (by omega), eg, es, show (512#64).toNat = 512 from rfl]
        have ew : IntKind.wrap .i64 ((at0 : Int) + 1) = ((at0 + 1 : Nat) : Int) := by
          rw [wrap_id (n := (at0 : Int) + 1) (by omega) (by omega)]; rfl
        simp only [cond_true, cond_false, bindS, bindC, ew]
        unfold isN addI
        by_cases h5 : x.kind = 5
        · by_cases hm : 512 < x.number.toNat
          · simp [h5, hm]
          · have ea : BitVec.ofNat 64 need + x.number = BitVec.ofNat 64 (need + x.number.toNat) := by
              apply BitVec.eq_of_toNat_eq
              rw [BitVec.toNat_add, ebv need (by omega), ebv _ (by omega)]
              omega
            simp [h5, hm, ea]
        · by_cases h6 : x.kind = 6
          · by_cases hm : 512 < x.number.toNat
            · simp [h6, hm]
            · have ea : BitVec.ofNat 64 need + 2#64 * x.number = BitVec.ofNat 64 (need + 2 * x.number.toNat) := by
                apply BitVec.eq_of_toNat_eq
                rw [BitVec.toNat_add, BitVec.toNat_mul, ebv need (by omega), ebv (need + 2 * x.number.toNat) (by omega), show (2#64).toNat = 2 from rfl]
                omega
              simp [h6, hm, ea]
          · simp [h5, h6]
      rw [e1, bindS]
      simp only [skp]
      cases hb : (isN x.kind && decide (512 < x.number.toNat))
      · simp only [cond_false, Sum.elim_inl]
        have := addI_le hb
        rw [ih (at0 + 1) (need + addI x) f hr2 (by omega) (by omega) (by omega)]
        cases skp r (need + addI x) with
        | none => rfl
        | some k =>
          simp only [Option.map_some, skZ]
          rw [show at0 + 1 + k = at0 + (k + 1) by omega]
      · rfl
def skO (l : List ApiItem) (a : Int) : Int × Bool := bif decide (a < 0) then (0, false) else bif decide ((l.length : Int) ≤ a) then (0, false) else match skp (l.drop a.toNat) 1 with
  | none => (0, false)
  | some k => (((a.toNat + k : Nat) : Int), true)
theorem skZ_elim (a : Nat) (o : Option Nat) : (Sum.elim (fun (z6 : (Int × Bool × Unit)) => (some ((), (z6.1, z6.2.1, ())) : Option (Unit × (Int × Bool × Unit)))) (fun (z7 : (Int × Unit)) => (some ((), (z7.1, true, ())))) (skZ a o)) = some ((), (match o with | none => ((0 : Int), false) | some k => (((a + k : Nat) : Int), true)).1, (match o with | none => ((0 : Int), false) | some k => (((a + k : Nat) : Int), true)).2, ()) := by
  cases o <;> rfl
theorem Skip_ok (l : List ApiItem) (a : Int) (hl : l.length < 1000000) : cbor_Skip l a = some ((), (skO l a).1, (skO l a).2, ()) := by
  unfold cbor_Skip skO
  by_cases h1 : a < 0
  · simp [h1]
  · rw [show decide (a < 0) = false from decide_eq_false h1]
    by_cases h2 : (l.length : Int) ≤ a
    · simp [h2]
    · rw [show decide ((l.length : Int) ≤ a) = false from decide_eq_false h2]
      obtain ⟨n, rfl⟩ : ∃ n : Nat, a = (n : Int) := ⟨a.toNat, by omega⟩
      have := SkipL_ok l hl (l.drop n) n 1 rounds rfl (by omega) (by omega) (by rw [rounds_eq]; simp; omega)
      unfold cbor_Skip_L0
      simp only [cond_false]
      rw [show (1 : Int) = ((1 : Nat) : Int) from rfl, this, bindS, Int.toNat_natCast, skZ_elim]
theorem rSkip_ok (l : List ApiItem) (a : Int) (hl : l.length < 1000000) : passkeyref1_Skip l a = some ((), (skO l a).1, (skO l a).2, ()) := by
  unfold passkeyref1_Skip skO
  by_cases h1 : a < 0
  · simp [h1]
  · rw [show decide (a < 0) = false from decide_eq_false h1]
    by_cases h2 : (l.length : Int) ≤ a
    · simp [h2]
    · rw [show decide ((l.length : Int) ≤ a) = false from decide_eq_false h2]
      obtain ⟨n, rfl⟩ : ∃ n : Nat, a = (n : Int) := ⟨a.toNat, by omega⟩
      have := rSkipL_ok l hl (l.drop n) n 1 rounds rfl (by omega) (by omega) (by rw [rounds_eq]; simp; omega)
      unfold passkeyref1_Skip_L0
      simp only [cond_false]
      rw [show (1#64) = BitVec.ofNat 64 1 from rfl, this, bindS, Int.toNat_natCast, skZ_elim]
theorem mapmap (o : Option Nat) (a b : Nat) : (o.map (· + a)).map (· + b) = o.map (· + (b + a)) := by
  cases o with
  | none => rfl
  | some k => simp; omega
theorem map0 (o : Option Nat) : o = o.map (· + 0) := by cases o <;> rfl
theorem W_skp : ∀ (f : Nat) (s : List ApiItem) (n d : Nat) (key : Bool) (b : List UInt8), (W getL f s n d key b).1 = 0 → ∀ m, skp s (m + 1) = (skp (W getL f s n d key b).2.2 m).map (· + (W getL f s n d key b).2.1.length)
  | 0, s, n, d, key, b, h => by simp [W] at h
  | f + 1, s, n, d, key, b, h => by
    have ih := W_skp f
    intro m
    unfold W at h ⊢
    dsimp only at h ⊢
    rcases hg : getL n d key b s with ⟨e, x, t⟩
    rw [hg] at h
    dsimp only at h ⊢
    by_cases he : e = 0
    · subst he
      simp only [decide_true, cond_true] at h ⊢
      have hs : s = x :: t ∧ (isN x.kind && decide (512 < x.number.toNat)) = false := by
        cases s with
        | nil => simp [getL] at hg
        | cons y r =>
          simp only [getL, Prod.mk.injEq] at hg
          obtain ⟨g1, rfl, rfl⟩ := hg
          refine ⟨rfl, ?_⟩
          have := (big_false (chk_zero g1).2.2.1).2
          cases hn : isN y.kind
          · rfl
          · rw [decide_eq_false (by have := this hn; omega)]; rfl
      rw [hs.1]
      simp only [skp, hs.2, cond_false, List.length_cons]
      have key2 : ∀ q : Res (List ApiItem), skp t (m + addI x) = (skp q.2.2 m).map (· + q.2.1.length) → (skp t (m + addI x)).map (· + 1) = (skp q.2.2 m).map (· + (q.2.1.length + 1)) := by
        intro q hq
        rw [hq, mapmap, Nat.add_comm 1]
      refine key2 _ ?_
      by_cases h5 : x.kind = 5
      · simp only [h5, decide_true, cond_true] at h ⊢
        have loop : ∀ (k : Nat) (t : List ApiItem) (n : Nat), (LA (fun s n => W getL f s n (d + 1) false []) k t n).1 = 0 → skp t (m + k) = (skp (LA (fun s n => W getL f s n (d + 1) false []) k t n).2.2 m).map (· + (LA (fun s n => W getL f s n (d + 1) false []) k t n).2.1.length) := by
          intro k
          induction k with
          | zero => intro t n _; exact map0 _
          | succ k ihk =>
            intro t n h
            unfold LA at h ⊢
            have i1 := ih t n (d + 1) false []
            generalize W getL f t n (d + 1) false [] = w at h i1 ⊢
            by_cases hw : w.1 = 0
            · rw [show decide (w.1 = 0) = true by simpa using hw] at h ⊢
              simp only [cond_true] at h ⊢
              rw [← Nat.add_assoc, i1 hw (m + k), ihk _ _ h, mapmap, List.length_append]
            · rw [show decide (w.1 = 0) = false by simpa using hw] at h
              exact absurd h hw
        have := loop _ _ _ h
        unfold addI
        simp only [h5, decide_true, cond_true]
        exact this
      · by_cases h6 : x.kind = 6
        · simp only [h6, decide_true, cond_true, Int.reduceEq, decide_false, cond_false] at h ⊢
          have loop : ∀ (k : Nat) (t : List ApiItem) (n : Nat) (l : List UInt8), (LM (fun s n last => W getL f s n (d + 1) true last) (fun s n => W getL f s n (d + 1) false []) k t n l).1 = 0 → skp t (m + 2 * k) = (skp (LM (fun s n last => W getL f s n (d + 1) true last) (fun s n => W getL f s n (d + 1) false []) k t n l).2.2 m).map (· + (LM (fun s n last => W getL f s n (d + 1) true last) (fun s n => W getL f s n (d + 1) false []) k t n l).2.1.length) := by
            intro k
            induction k with
            | zero => intro t n l _; exact map0 _
            | succ k ihk =>
              intro t n l h
              unfold LM at h ⊢
              dsimp only at h ⊢
              have i1 := ih t n (d + 1) true l
              generalize W getL f t n (d + 1) true l = w at h i1 ⊢
              by_cases hw : w.1 = 0
              · rw [show decide (w.1 = 0) = true by simpa using hw] at h ⊢
                simp only [cond_true] at h ⊢
                have i2 := ih w.2.2 (n + w.2.1.length) (d + 1) false []
                generalize W getL f w.2.2 (n + w.2.1.length) (d + 1) false [] = v at h i2 ⊢
                by_cases hv : v.1 = 0
                · rw [show decide (v.1 = 0) = true by simpa using hv] at h ⊢
                  simp only [cond_true] at h ⊢
                  rw [show m + 2 * (k + 1) = m + 2 * k + 1 + 1 by omega, i1 hw (m + 2 * k + 1), i2 hv (m + 2 * k), ihk _ _ _ h]
                  simp only [mapmap, List.length_append]
                · rw [show decide (v.1 = 0) = false by simpa using hv] at h
                  exact absurd h hv
              · rw [show decide (w.1 = 0) = false by simpa using hw] at h
                exact absurd h hw
          have := loop _ _ _ _ h
          unfold addI
          simp only [h6, decide_true, cond_true, Int.reduceEq, decide_false, cond_false]
          exact this
        · simp only [h5, h6, decide_false, cond_false]
          unfold addI
          simp only [h5, h6, decide_false, cond_false]
          exact map0 _
    · rw [show decide (e = 0) = false by simpa using he] at h
      exact absurd h he
theorem Tre.skip {o : List ApiItem} (h : Tre o) : skO o 0 = ((o.length : Int), true) := by
  have h1 := W_skp 12 o 0 0 false [] (by rw [h.vt]) 0
  rw [h.vt] at h1
  have hl : 0 < o.length := List.length_pos_iff.2 h.ne
  unfold skO
  rw [show decide ((o.length : Int) ≤ 0) = false from decide_eq_false (by omega)]
  have e : o.drop (0 : Int).toNat = o := rfl
  have h2 : skp o 1 = some o.length := by rw [h1]; simp [skp]
  rw [e, h2]
  simp
def one : ApiItem := ⟨5, 1#64, []⟩
end Go.Proofs.YtjedfmknnkimmaaDoor

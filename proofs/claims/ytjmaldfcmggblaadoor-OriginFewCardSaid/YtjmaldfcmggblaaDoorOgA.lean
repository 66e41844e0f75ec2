/- Origins, as wip/orig has them. No condition. -/
import Derived.Test.YtjmaldfcmggblaaDoorOgH
import Derived.Lib.ItoaNum
set_option linter.unusedVariables false
set_option linter.unusedSimpArgs false
set_option maxRecDepth 100000
namespace Go.Proofs.YtjmaldfcmggblaaDoor
open Go Go.Abs
theorem awake_ok : passkeylaw24_awake = some ((), true, ()) := by
  unfold passkeylaw24_awake
  have h1 : origin_Parse [104, 116, 116, 112, 115, 58, 47, 47, 120, 46, 108, 111, 103, 105, 110, 46, 101, 120, 97, 109, 112, 108, 101, 46, 99, 111, 109, 58, 56, 52, 52, 51] = some ((), ⟨true, [120, 46, 108, 111, 103, 105, 110, 46, 101, 120, 97, 109, 112, 108, 101, 46, 99, 111, 109], 8443⟩, 0, ()) := by kernel_rfl
  have h2 : origin_Format ⟨true, [120, 46, 108, 111, 103, 105, 110, 46, 101, 120, 97, 109, 112, 108, 101, 46, 99, 111, 109], 8443⟩ = some ((), [104, 116, 116, 112, 115, 58, 47, 47, 120, 46, 108, 111, 103, 105, 110, 46, 101, 120, 97, 109, 112, 108, 101, 46, 99, 111, 109, 58, 56, 52, 52, 51], 0, ()) := by
    have hi : strconv_Itoa 8443 = some ((), [56, 52, 52, 51], ()) := by
      unfold strconv_Itoa Lib.itoa
      simp [Lib.decDigits]
    unfold origin_Format
    have hv : host_Validate [120, 46, 108, 111, 103, 105, 110, 46, 101, 120, 97, 109, 112, 108, 101, 46, 99, 111, 109] = some ((), 0, ()) := by kernel_rfl
    simp only [hv, bindS, decide_true, Bool.not_true, cond_false, cond_true, origin_defaultPort]
    simp [hi, Nat.ble]
  rw [h1]
  simp only [bindS]
  rw [h2]
  simp only [bindS, decide_true, cond_true]
  have h3 : origin_Permits [⟨[[99, 111, 109]], false, false⟩] ⟨true, [120, 46, 108, 111, 103, 105, 110, 46, 101, 120, 97, 109, 112, 108, 101, 46, 99, 111, 109], 8443⟩ [101, 120, 97, 109, 112, 108, 101, 46, 99, 111, 109] = some ((), 0, ()) := by kernel_rfl
  have h4 : origin_Permits [⟨[[99, 111, 109]], false, false⟩] ⟨true, [120, 46, 108, 111, 103, 105, 110, 46, 101, 120, 97, 109, 112, 108, 101, 46, 99, 111, 109], 8443⟩ [99, 111, 109] = some ((), 34, ()) := by kernel_rfl
  have h5 : origin_Permits [⟨[[99, 111, 109]], false, false⟩] ⟨true, [120, 46, 108, 111, 103, 105, 110, 46, 101, 120, 97, 109, 112, 108, 101, 46, 99, 111, 109], 8443⟩ [111, 116, 104, 101, 114, 46, 99, 111, 109] = some ((), 34, ()) := by kernel_rfl
  simp only [h3, h4, h5, bindS, decide_true, cond_true]
theorem awakeOk : Ok (passkeylaw24_awake.bind fun r => some ((), (r.2.1, ()))) fun r => r.2.1 = true := by
  rw [awake_ok]; exact ⟨_, rfl, rfl⟩
def dig (c : UInt8) : Nat := c.toNat - 48
theorem isDig_iff {c : UInt8} : isDig c = true ↔ 48 ≤ c.toNat ∧ c.toNat ≤ 57 := by
  unfold isDig
  simp only [Bool.and_eq_true, decide_eq_true_eq]
  exact Iff.rfl
theorem dig_ok {c : UInt8} (h : isDig c = true) : ((UInt8.ofBitVec (c.toBitVec - (48 : UInt8).toBitVec)).toBitVec.toNat : Int) = (dig c : Int) ∧ dig c ≤ 9 := by
  obtain ⟨h1, h2⟩ := isDig_iff.1 h
  refine ⟨?_, by unfold dig; omega⟩
  have e : (UInt8.ofBitVec (c.toBitVec - (48 : UInt8).toBitVec)).toBitVec.toNat = (c - 48).toNat := rfl
  rw [e, UInt8.toNat_sub_of_le _ _ (by rw [UInt8.le_iff_toNat_le]; exact h1)]
  rfl
def val (l : List UInt8) : Nat := l.foldl (fun n c => 10 * n + dig c) 0
theorem val_snoc (l : List UInt8) (c : UInt8) : val (l ++ [c]) = 10 * val l + dig c := by simp [val, List.foldl_append]
def portOf (s : List UInt8) : Int × Bool := bif decide (1 ≤ s.length ∧ s.length ≤ 5) && (!decide (s.head? = some 48) && s.all isDig) then ((val s : Int), decide ((val s : Int) ≤ 65535)) else (0, false)
theorem pport_L0 (s : List UInt8) (hl : s.length ≤ 5) : origin_parsePort_L0 (s, 0, (s.length : Int), 0, ()) = some (bif s.all isDig then .inr ((val s : Int), ()) else .inl (0, false, ())) := by
  unfold origin_parsePort_L0
  refine Eq.trans (iter_scan (f := fun y => origin_parsePort_L0b y.1 y.2.1 y.2.2.1 y.2.2.2.1) (fun i (n : Nat) => (s, (n : Int), (s.length : Int), i, ())) s (fun i c n => bif isDig c then .inl (10 * n + dig c) else .inr (.inl (0, false, ()))) (fun n => .inr ((n : Int), ())) (fun i n => n + 1 ≤ 10 ^ i) ?h1 ?h2 0 (by simp) rounds (by rw [rounds_eq]; omega)) ?h0
  case h0 =>
    have key : ∀ (l : List UInt8) (k n : Nat), scan (fun i c n => bif isDig c then .inl (10 * n + dig c) else .inr (.inl (0, false, ()))) (fun n => (.inr ((n : Int), ()) : (Int × Bool × Unit) ⊕ (Int × Unit))) k l n = bif l.all isDig then .inr ((l.foldl (fun n c => 10 * n + dig c) n : Nat), ()) else .inl (0, false, ()) := by
      intro l
      induction l with
      | nil => intro k n; rfl
      | cons c r ih =>
        intro k n
        unfold scan
        rw [List.all_cons, List.foldl_cons]
        cases isDig c
        · rfl
        · exact ih (k + 1) (10 * n + dig c)
    rw [key]
    rfl
  case h1 =>
    intro i x n hx hn
    obtain ⟨hi, hx'⟩ := List.getElem?_eq_some_iff.1 hx
    have hp : 10 ^ i ≤ 10 ^ 4 := Nat.pow_le_pow_right (by omega) (by omega)
    have hg : getI s (i : Int) = some x := by simp [getI, hx]
    refine ⟨?_, fun a' ha => ?_⟩
    · simp only [origin_parsePort_L0b]
      rw [hg, show decide ((i : Int) < (s.length : Int)) = true by simp; omega, wrap_id (n := (i : Int) + 1) (by omega) (by omega)]
      simp only [cond_true, bindS]
      by_cases hd : isDig x = true
      · obtain ⟨d1, d2⟩ := isDig_iff.1 hd
        obtain ⟨e1, e2⟩ := dig_ok hd
        have q1 : decide (x.toBitVec.toNat < (48 : UInt8).toBitVec.toNat) = false := by rw [decide_eq_false_iff_not]; exact Nat.not_lt.2 d1
        have q2 : decide ((57 : UInt8).toBitVec.toNat < x.toBitVec.toNat) = false := by rw [decide_eq_false_iff_not]; exact Nat.not_lt.2 d2
        rw [q1, q2, hd, e1, wrap_id (n := (10 : Int) * (n : Int)) (by omega) (by omega), wrap_id (n := (10 : Int) * (n : Int) + (dig x : Int)) (by omega) (by omega)]
        simp only [cond_false, cond_true, Sum.map_inl]
        congr 3
      · have hd' : isDig x = false := by simpa using hd
        rw [hd']
        simp only [cond_false]
        by_cases q1 : x.toBitVec.toNat < (48 : UInt8).toBitVec.toNat
        · simp only [q1, decide_true, cond_true]; rfl
        · simp only [q1, decide_false, cond_false]
          have q2 : (57 : UInt8).toBitVec.toNat < x.toBitVec.toNat := by
            rcases Nat.lt_or_ge (57 : UInt8).toBitVec.toNat x.toBitVec.toNat with h | h
            · exact h
            · exact absurd (isDig_iff.2 ⟨Nat.not_lt.1 q1, h⟩) hd
          simp only [q2, decide_true, cond_true]; rfl
    · by_cases hd : isDig x = true
      · have e2 := (dig_ok hd).2
        rw [hd] at ha
        simp only [cond_true, Sum.inl.injEq] at ha
        subst ha
        rw [Nat.pow_succ]
        omega
      · have hd' : isDig x = false := by simpa using hd
        rw [hd'] at ha
        cases ha
  case h2 =>
    intro n _
    simp only [origin_parsePort_L0b]
    simp
theorem head48 {s : List UInt8} (h : 1 ≤ s.length) : ∃ c r, s = c :: r ∧ getI s 0 = some c ∧ decide (c.toBitVec = (48 : UInt8).toBitVec) = decide (s.head? = some 48) := by
  cases s with
  | nil => simp at h
  | cons c r =>
    refine ⟨c, r, rfl, rfl, ?_⟩
    rw [decide_eq_decide, List.head?_cons, Option.some.injEq]
    exact UInt8.toBitVec_inj
theorem parsePort_ok (s : List UInt8) : origin_parsePort s = some ((), (portOf s).1, (portOf s).2, ()) := by
  unfold origin_parsePort portOf
  by_cases h1 : 1 ≤ s.length
  · by_cases h5 : s.length ≤ 5
    · rw [show decide ((s.length : Int) < 1) = false by simp; omega, show decide ((5 : Int) < (s.length : Int)) = false by simp; omega]
      simp only [cond_false, h1, h5, and_self, decide_true, Bool.true_and]
      obtain ⟨c, r, hs, hg, hd⟩ := head48 h1
      rw [hg]
      simp only [bindS, hd]
      cases decide (s.head? = some 48)
      · simp only [cond_false, Bool.not_false, Bool.true_and]
        rw [pport_L0 s h5]
        cases s.all isDig <;> rfl
      · rfl
    · rw [show decide ((s.length : Int) < 1) = false by simp; omega, show decide ((5 : Int) < (s.length : Int)) = true by simp; omega]
      simp [h5]
  · rw [show decide ((s.length : Int) < 1) = true by simp; omega]
    simp [h1]
def dport (b : Bool) : Int := bif b then 443 else 80
theorem defaultPort_ok (b : Bool) : origin_defaultPort b = some ((), dport b, ()) := by cases b <;> rfl
theorem rdefaultPort_ok (b : Bool) : passkeyref23_defaultPort b = some ((), dport b, ()) := by cases b <;> rfl
theorem rport_L0 (s : List UInt8) (b : Bool) (hl : s.length ≤ 5) : passkeyref23_port_L0 (s, b, 0, 0, ()) = some (bif s.all isDig then .inr (b, (val s : Int), ()) else .inl (0, false, ())) := by
  unfold passkeyref23_port_L0
  refine Eq.trans (iter_scan (f := fun y => passkeyref23_port_L0b y.1 y.2.1 y.2.2.1 y.2.2.2.1) (fun i (n : Nat) => (s, b, (n : Int), i, ())) s (fun i c n => bif isDig c then .inl (10 * n + dig c) else .inr (.inl (0, false, ()))) (fun n => .inr (b, (n : Int), ())) (fun i n => n + 1 ≤ 10 ^ i) ?h1 ?h2 0 (by simp) rounds (by rw [rounds_eq]; omega)) ?h0
  case h0 =>
    have key : ∀ (l : List UInt8) (k n : Nat), scan (fun i c n => bif isDig c then .inl (10 * n + dig c) else .inr (.inl (0, false, ()))) (fun n => (.inr (b, (n : Int), ()) : (Int × Bool × Unit) ⊕ (Bool × Int × Unit))) k l n = bif l.all isDig then .inr (b, (l.foldl (fun n c => 10 * n + dig c) n : Nat), ()) else .inl (0, false, ()) := by
      intro l
      induction l with
      | nil => intro k n; rfl
      | cons c r ih =>
        intro k n
        unfold scan
        rw [List.all_cons, List.foldl_cons]
        cases isDig c
        · rfl
        · exact ih (k + 1) (10 * n + dig c)
    rw [key]
    rfl
  case h1 =>
    intro i x n hx hn
    obtain ⟨hi, hx'⟩ := List.getElem?_eq_some_iff.1 hx
    have hp : 10 ^ i ≤ 10 ^ 4 := Nat.pow_le_pow_right (by omega) (by omega)
    have hg : getI s (i : Int) = some x := by simp [getI, hx]
    refine ⟨?_, fun a' ha => ?_⟩
    · simp only [passkeyref23_port_L0b]
      rw [hg, show decide ((i : Int) < (s.length : Int)) = true by simp; omega, wrap_id (n := (i : Int) + 1) (by omega) (by omega)]
      simp only [cond_true, bindS, digit_ok]
      by_cases hd : isDig x = true
      · obtain ⟨e1, e2⟩ := dig_ok hd
        rw [hd, e1, wrap_id (n := (10 : Int) * (n : Int)) (by omega) (by omega), wrap_id (n := (10 : Int) * (n : Int) + (dig x : Int)) (by omega) (by omega)]
        simp only [Bool.not_true, cond_false, cond_true, Sum.map_inl]
        congr 3
      · have hd' : isDig x = false := by simpa using hd
        rw [hd']
        rfl
    · by_cases hd : isDig x = true
      · have e2 := (dig_ok hd).2
        rw [hd] at ha
        simp only [cond_true, Sum.inl.injEq] at ha
        subst ha
        rw [Nat.pow_succ]
        omega
      · have hd' : isDig x = false := by simpa using hd
        rw [hd'] at ha
        cases ha
  case h2 =>
    intro n _
    simp only [passkeyref23_port_L0b]
    simp
theorem rport_ok (s : List UInt8) (b : Bool) : passkeyref23_port s b = some ((), (portOf s).1, ((portOf s).2 && !decide ((portOf s).1 = dport b)), ()) := by
  unfold passkeyref23_port portOf
  by_cases h1 : 1 ≤ s.length
  · by_cases h5 : s.length ≤ 5
    · rw [show decide ((s.length : Int) < 1) = false by simp; omega, show decide ((5 : Int) < (s.length : Int)) = false by simp; omega]
      simp only [cond_false, h1, h5, and_self, decide_true, Bool.true_and]
      obtain ⟨c, r, hs, hg, hd⟩ := head48 h1
      rw [hg]
      simp only [bindS, hd]
      cases decide (s.head? = some 48)
      · simp only [cond_false, Bool.not_false, Bool.true_and]
        rw [rport_L0 s b h5]
        cases s.all isDig
        · rfl
        · simp only [cond_true, bindS, Sum.elim_inr, rdefaultPort_ok]
          cases decide ((val s : Int) ≤ 65535) <;> rfl
      · rfl
    · rw [show decide ((s.length : Int) < 1) = false by simp; omega, show decide ((5 : Int) < (s.length : Int)) = true by simp; omega]
      simp [h5]
  · rw [show decide ((s.length : Int) < 1) = true by simp; omega]
    simp [h1]
abbrev sec : List UInt8 := [104, 116, 116, 112, 115, 58, 47, 47]
abbrev pla : List UInt8 := [104, 116, 116, 112, 58, 47, 47]
def zo : ApiOrigin := ⟨false, [], 0⟩
def cutC : List UInt8 → List UInt8 × List UInt8 × Bool
  | [] => ([], [], false)
  | x :: r => if x = 58 then ([], r, true) else (x :: (cutC r).1, (cutC r).2.1, (cutC r).2.2)
theorem cutC_free : ∀ {s : List UInt8}, (58 : UInt8) ∉ s → cutC s = (s, [], false)
  | [], _ => rfl
  | x :: r, h => by
    simp only [List.mem_cons, not_or] at h
    rw [cutC, if_neg (fun e => h.1 e.symm), cutC_free h.2]
theorem cutC_app : ∀ {a : List UInt8} (b : List UInt8), (58 : UInt8) ∉ a → cutC (a ++ 58 :: b) = (a, b, true)
  | [], b, _ => by simp [cutC]
  | x :: a, b, h => by
    simp only [List.mem_cons, not_or] at h
    rw [List.cons_append, cutC, if_neg (fun e => h.1 e.symm), cutC_app b h.2]
theorem Cut_ok (s : List UInt8) (hs : s.length < 1000000) : strings_Cut s [58] = some ((), (cutC s).1, (cutC s).2.1, (cutC s).2.2, ()) := by
  unfold strings_Cut stringslite_Cut stringslite_Index
  simp only [List.length_singleton, decide_true, cond_true, bindS, Lib.index_one]
  rcases indexByte_cases 58 s with ⟨h1, h2⟩ | ⟨a, b, h1, h2, h3⟩
  · rw [h1, cutC_free h2]; rfl
  · subst h1
    simp only [List.length_append, List.length_cons] at hs
    rw [h3, cutC_app b h2, show decide ((0 : Int) ≤ (a.length : Int)) = true by simp, show decide ((a.length : Int) ≤ ((a ++ 58 :: b).length : Int)) = true by simp; omega]
    have ew : IntKind.wrap .i64 ((a.length : Int) + ((1 : Nat) : Int)) = (a.length : Int) + 1 := wrap_id (by omega) (by omega)
    simp only [List.length_singleton, ew]
    rw [show (decide ((0 : Int) ≤ (a.length : Int) + 1) && decide ((a.length : Int) + 1 ≤ ((a ++ 58 :: b).length : Int))) = true by simp; omega]
    simp only [Bool.and_self, cond_true, bindS, Int.toNat_natCast]
    rw [show ((a.length : Int) + 1).toNat = a.length + 1 by omega]
    simp
def body (b : Bool) (rest : List UInt8) : ApiOrigin × Int :=
  bif decide (vali (cutC rest).1 = 0) then (bif (cutC rest).2.2 then (bif (portOf (cutC rest).2.1).2 && !decide ((portOf (cutC rest).2.1).1 = dport b) then (⟨b, (cutC rest).1, (portOf (cutC rest).2.1).1⟩, 0) else (zo, 2)) else (⟨b, (cutC rest).1, dport b⟩, 0)) else (zo, vali (cutC rest).1)
def porig (t : List UInt8) : ApiOrigin × Int := bif sec.isPrefixOf t then body true (t.drop 8) else bif pla.isPrefixOf t then body false (t.drop 7) else (zo, 2)
theorem Parse_ok (t : List UInt8) (ht : t.length < 1000000) : origin_Parse t = some ((), (porig t).1, (porig t).2, ()) := by
  unfold origin_Parse porig
  simp only [CutPrefix_ok, bindS]
  have tail : ∀ (b : Bool) (rest : List UInt8), rest.length < 1000000 → ((strings_Cut rest [58]).bind fun r4 => (host_Validate r4.2.1).bind fun r5 => bif !decide (r5.2.1 = 0) then some ((), (⟨false, [], 0⟩ : ApiOrigin), r5.2.1, ()) else (origin_defaultPort b).bind fun r6 => bif r4.2.2.2.1 then (origin_parsePort r4.2.2.1).bind fun r7 => bif !r7.2.2.1 then some ((), (⟨false, [], 0⟩ : ApiOrigin), 2, ()) else bif decide (r7.2.1 = r6.2.1) then some ((), (⟨false, [], 0⟩ : ApiOrigin), 2, ()) else some ((), (⟨b, r4.2.1, r7.2.1⟩ : ApiOrigin), 0, ()) else some ((), (⟨b, r4.2.1, r6.2.1⟩ : ApiOrigin), 0, ())) = some ((), (body b rest).1, (body b rest).2, ()) := by
    intro b rest hr
    rw [Cut_ok rest hr]
    simp only [bindS, Validate_ok, defaultPort_ok, parsePort_ok]
    unfold body
    cases decide (vali (cutC rest).1 = 0)
    · rfl
    · simp only [Bool.not_true, cond_false, cond_true]
      cases (cutC rest).2.2
      · rfl
      · simp only [cond_true]
        cases (portOf (cutC rest).2.1).2
        · rfl
        · cases decide ((portOf (cutC rest).2.1).1 = dport b) <;> rfl
  have hd : ∀ k, (t.drop k).length < 1000000 := fun k => by rw [List.length_drop]; omega
  cases hs : sec.isPrefixOf t
  · cases hp : pla.isPrefixOf t
    · rfl
    · simp only [Bool.not_false, Bool.not_true, cond_true, cond_false, bindS, Sum.elim_inl]
      exact tail false _ (hd 7)
  · simp only [Bool.not_true, cond_false, cond_true, bindS, Sum.elim_inl]
    exact tail true _ (hd 8)
theorem PO_L0 (z o : ApiOrigin) (s : List UInt8) (hs : s.length < 1000000) : passkeyref23_ParseOrigin_L0 ((z, ()), (o, ()), s, (s.length : Int), (s.length : Int) - 1, ()) = some ((z, ()), (o, ()), s, ((cutC s).1.length : Int), ()) := by
  unfold passkeyref23_ParseOrigin_L0
  have cl : ∀ l : List UInt8, (cutC l).1.length ≤ l.length := by
    intro l
    induction l with
    | nil => simp [cutC]
    | cons x r ih =>
      rw [cutC]
      split
      · simp
      · simp; omega
  -- behind a prefix
  have key : ∀ (a r : List UInt8) (x : UInt8), cutC (a ++ [x] ++ r) = cutC (a ++ x :: r) := by intro a r x; simp
  rw [iter_fun (fun q => q.1 = (z, ()) ∧ q.2.1 = (o, ()) ∧ q.2.2.1 = s ∧ -1 ≤ q.2.2.2.2.1 ∧ q.2.2.2.2.1 < (s.length : Int) ∧ q.2.2.2.1 = q.2.2.2.2.1 + 1 + ((cutC (s.drop (q.2.2.2.2.1 + 1).toNat)).1.length : Int)) (fun q => (q.2.2.2.2.1 + 1).toNat) (fun q => ((z, ()), (o, ()), s, (bif decide ((58 : UInt8) ∈ s.take (q.2.2.2.2.1 + 1).toNat) then ((cutC s).1.length : Int) else q.2.2.2.1), ()))]
  · have e0 : ((s.length : Int) - 1 + 1).toNat = s.length := by omega
    dsimp only
    rw [e0, List.take_length]
    by_cases h : (58 : UInt8) ∈ s
    · simp [h]
    · rw [show decide ((58 : UInt8) ∈ s) = false by simpa using h, cutC_free h]
      simp
  · rintro ⟨y0, y1, y2, y3, i, u⟩ ⟨e1, e2, e3, e4, e5, e6⟩
    dsimp only at *
    subst e1; subst e2; subst e3
    simp only [passkeyref23_ParseOrigin_L0b]
    by_cases hi : 0 ≤ i
    · left
      have hlt : i.toNat < y2.length := by omega
      rw [getI_some hi e5, wrap_id (n := i - 1) (by omega) (by omega), show decide ((0 : Int) ≤ i) = true by simpa using hi]
      simp only [cond_true, bindS]
      have hx : ati y2 i = y2[i.toNat] := by simp [ati, hlt]
      have hdr : y2.drop i.toNat = ati y2 i :: y2.drop (i + 1).toNat := by
        rw [List.drop_eq_getElem_cons hlt, hx, show (i + 1).toNat = i.toNat + 1 by omega]
      have htk : y2.take (i + 1).toNat = y2.take i.toNat ++ [ati y2 i] := by
        rw [show (i + 1).toNat = i.toNat + 1 by omega, List.take_succ_eq_append_getElem hlt, hx]
      by_cases hc : ati y2 i = 58
      · rw [show decide ((ati y2 i).toBitVec = (58 : UInt8).toBitVec) = true by rw [hc]; simp]
        refine ⟨_, rfl, ⟨rfl, rfl, rfl, by dsimp only; omega, by dsimp only; omega, ?_⟩, by dsimp only; omega, ?_⟩
        · dsimp only
          rw [show (i - 1 + 1).toNat = i.toNat by omega, hdr, hc]
          simp [cutC]
        · dsimp only
          rw [show (i - 1 + 1).toNat = i.toNat by omega, htk, hc]
          by_cases hm : (58 : UInt8) ∈ y2.take i.toNat
          · simp [hm]
          · rw [show decide ((58 : UInt8) ∈ y2.take i.toNat) = false by simpa using hm, show decide ((58 : UInt8) ∈ y2.take i.toNat ++ [58]) = true by simp]
            simp only [cond_true, cond_false]
            have : y2 = y2.take i.toNat ++ 58 :: y2.drop (i + 1).toNat := by
              conv => lhs; rw [← List.take_append_drop i.toNat y2, hdr, hc]
            have e : (cutC y2).1 = y2.take i.toNat := by
              conv => lhs; rw [this, cutC_app _ hm]
            rw [e, List.length_take]
            congr 4
            omega
      · rw [show decide ((ati y2 i).toBitVec = (58 : UInt8).toBitVec) = false by rw [decide_eq_false_iff_not]; exact fun e => hc (UInt8.toBitVec_inj.1 e)]
        refine ⟨_, rfl, ⟨rfl, rfl, rfl, by dsimp only; omega, by dsimp only; omega, ?_⟩, by dsimp only; omega, ?_⟩
        · dsimp only
          rw [show (i - 1 + 1).toNat = i.toNat by omega, hdr, cutC, if_neg hc, e6]
          simp
          omega
        · dsimp only
          rw [show (i - 1 + 1).toNat = i.toNat by omega, htk]
          have : decide ((58 : UInt8) ∈ y2.take i.toNat ++ [ati y2 i]) = decide ((58 : UInt8) ∈ y2.take i.toNat) := by
            rw [decide_eq_decide]
            simp only [List.mem_append, List.mem_singleton]
            exact ⟨fun h => h.elim id (fun h => absurd h.symm hc), .inl⟩
          rw [this]
    · right
      have : i = -1 := by omega
      subst this
      simp
  · refine ⟨rfl, rfl, rfl, by dsimp only; omega, by dsimp only; omega, ?_⟩
    dsimp only
    rw [show ((s.length : Int) - 1 + 1).toNat = s.length by omega, List.drop_length]
    simp [cutC]
  · rw [rounds_eq]; dsimp only; omega
theorem cutC_parts : ∀ s : List UInt8, (cutC s).1 = s.take (cutC s).1.length ∧ ((cutC s).2.2 = true → (cutC s).1.length < s.length ∧ (cutC s).2.1 = s.drop ((cutC s).1.length + 1)) ∧ ((cutC s).2.2 = false → (cutC s).1 = s)
  | [] => by simp [cutC]
  | x :: r => by
    obtain ⟨h1, h2, h3⟩ := cutC_parts r
    rw [cutC]
    split
    · simp
    · dsimp only
      refine ⟨?_, fun h => ?_, fun h => ?_⟩
      · rw [List.length_cons, List.take_succ_cons, ← h1]
      · obtain ⟨q1, q2⟩ := h2 h
        refine ⟨by simp; omega, ?_⟩
        rw [q2]; simp
      · rw [h3 h]
theorem rParse_ok (t : List UInt8) (ht : t.length < 1000000) : passkeyref23_ParseOrigin t = some ((), (porig t).1, (porig t).2, ()) := by
  have hd : ∀ k, (t.drop k).length < 1000000 := fun k => by rw [List.length_drop]; omega
  have tail : ∀ (b : Bool) (s : List UInt8), s.length < 1000000 → ((passkeyref23_ParseOrigin_L0 (((⟨false, [], 0⟩ : ApiOrigin), ()), ((⟨b, [], 0⟩ : ApiOrigin), ()), s, (s.length : Int), IntKind.wrap .i64 ((s.length : Int) - 1), ())).bind fun z5 => bif decide ((0 : Int) ≤ z5.2.2.2.1) && decide (z5.2.2.2.1 ≤ (z5.2.2.1.length : Int)) then (passkeyref23_Validate (List.take z5.2.2.2.1.toNat z5.2.2.1)).bind fun r6 => bif !decide (r6.2.1 = 0) then some ((), (⟨false, [], 0⟩ : ApiOrigin), r6.2.1, ()) else bif decide ((0 : Int) ≤ z5.2.2.2.1) && decide (z5.2.2.2.1 ≤ (z5.2.2.1.length : Int)) then (passkeyref23_defaultPort z5.2.1.1.secure).bind fun r7 => bif decide (z5.2.2.2.1 < (z5.2.2.1.length : Int)) then bif decide ((0 : Int) ≤ IntKind.wrap .i64 (z5.2.2.2.1 + 1)) && decide (IntKind.wrap .i64 (z5.2.2.2.1 + 1) ≤ (z5.2.2.1.length : Int)) then (passkeyref23_port (List.drop (IntKind.wrap .i64 (z5.2.2.2.1 + 1)).toNat z5.2.2.1) z5.2.1.1.secure).bind fun r9 => bif !r9.2.2.1 then some ((), (⟨false, [], 0⟩ : ApiOrigin), 2, ()) else some ((), (⟨z5.2.1.1.secure, List.take z5.2.2.2.1.toNat z5.2.2.1, r9.2.1⟩ : ApiOrigin), 0, ()) else none else some ((), (⟨z5.2.1.1.secure, List.take z5.2.2.2.1.toNat z5.2.2.1, r7.2.1⟩ : ApiOrigin), 0, ()) else none else none) = some ((), (body b s).1, (body b s).2, ()) := by
    intro b s hs
    rw [wrap_id (by omega) (by omega), PO_L0 _ _ _ hs]
    obtain ⟨p1, p2, p3⟩ := cutC_parts s
    have hle : (cutC s).1.length ≤ s.length := by
      rw [p1, List.length_take]; omega
    simp only [bindS]
    rw [show (decide ((0 : Int) ≤ ((cutC s).1.length : Int)) && decide (((cutC s).1.length : Int) ≤ (s.length : Int))) = true by simp; omega]
    simp only [cond_true, Int.toNat_natCast, ← p1, rValidate_ok, bindS, rdefaultPort_ok, rport_ok]
    unfold body
    cases decide (vali (cutC s).1 = 0)
    · rfl
    · simp only [Bool.not_true, cond_false, cond_true]
      cases hf : (cutC s).2.2
      · have := p3 hf
        rw [show decide (((cutC s).1.length : Int) < (s.length : Int)) = false by rw [this]; simp]
        rfl
      · obtain ⟨q1, q2⟩ := p2 hf
        rw [show decide (((cutC s).1.length : Int) < (s.length : Int)) = true by simp; omega, wrap_id (n := ((cutC s).1.length : Int) + 1) (by omega) (by omega), show (decide ((0 : Int) ≤ ((cutC s).1.length : Int) + 1) && decide (((cutC s).1.length : Int) + 1 ≤ (s.length : Int))) = true by simp; omega, show (((cutC s).1.length : Int) + 1).toNat = (cutC s).1.length + 1 by omega, ← q2]
        simp only [cond_true]
        cases ((portOf (cutC s).2.1).2 && !decide ((portOf (cutC s).2.1).1 = dport b)) <;> rfl
  unfold passkeyref23_ParseOrigin porig
  have e8 : decide (List.take 8 t = sec) = sec.isPrefixOf t := by
    rw [Bool.eq_iff_iff, decide_eq_true_eq, List.isPrefixOf_iff_prefix, List.prefix_iff_eq_take]
    exact eq_comm
  have e7 : decide (List.take 7 t = pla) = pla.isPrefixOf t := by
    rw [Bool.eq_iff_iff, decide_eq_true_eq, List.isPrefixOf_iff_prefix, List.prefix_iff_eq_take]
    exact eq_comm
  -- the plain scheme
  have plain : ((passkeyref23_scheme false).bind fun r10 => (bif (decide ((t.length : Int) < (r10.2.1.length : Int))) then (some ((), ((⟨false, ([] : List UInt8), (0 : Int)⟩ : ApiOrigin), (2 : Int), ()))) else (bif (decide ((0 : Int) ≤ (r10.2.1.length : Int)) && decide ((r10.2.1.length : Int) ≤ (t.length : Int))) then (bif (!decide ((List.take ((r10.2.1.length : Int)).toNat t) = r10.2.1)) then (some ((), ((⟨false, ([] : List UInt8), (0 : Int)⟩ : ApiOrigin), (2 : Int), ()))) else (bif (decide ((0 : Int) ≤ (r10.2.1.length : Int)) && decide ((r10.2.1.length : Int) ≤ (t.length : Int))) then some ((), (body false (t.drop 7)).1, (body false (t.drop 7)).2, ()) else none)) else none))) = some ((), (bif pla.isPrefixOf t then body false (t.drop 7) else (zo, 2)).1, (bif pla.isPrefixOf t then body false (t.drop 7) else (zo, 2)).2, ()) := by
    change (bif decide ((t.length : Int) < 7) then some ((), zo, 2, ()) else bif decide ((0 : Int) ≤ 7) && decide ((7 : Int) ≤ (t.length : Int)) then (bif !decide (List.take 7 t = pla) then some ((), zo, 2, ()) else bif decide ((0 : Int) ≤ 7) && decide ((7 : Int) ≤ (t.length : Int)) then some ((), (body false (t.drop 7)).1, (body false (t.drop 7)).2, ()) else none) else none) = _
    by_cases h7 : 7 ≤ t.length
    · rw [show decide ((t.length : Int) < 7) = false by simp; omega, show (decide ((0 : Int) ≤ 7) && decide ((7 : Int) ≤ (t.length : Int))) = true by simp; omega, e7]
      cases pla.isPrefixOf t <;> rfl
    · have : pla.isPrefixOf t = false := by
        cases hq : pla.isPrefixOf t
        · rfl
        · have := (List.isPrefixOf_iff_prefix.1 hq).length_le; simp at this; omega
      rw [this, show decide ((t.length : Int) < 7) = true by simp; omega]
      rfl
  by_cases h8 : 8 ≤ t.length
  · rw [show decide ((8 : Int) ≤ (t.length : Int)) = true by simp; omega]
    simp only [cond_true]
    have e8' : decide (List.take 8 t = [104, 116, 116, 112, 115, 58, 47, 47]) = sec.isPrefixOf t := e8
    rw [e8']
    cases hs : sec.isPrefixOf t
    · simp only [cond_false]
      rw [← plain]
      unfold passkeyref23_scheme
      simp only [cond_false, bindS]
      rw [← tail false (t.drop 7) (hd 7)]
      rfl
    · have tl := tail true (t.drop 8) (hd 8)
      simp only [cond_true]
      change (bif decide ((t.length : Int) < 8) then some ((), zo, 2, ()) else bif decide ((0 : Int) ≤ 8) && decide ((8 : Int) ≤ (t.length : Int)) then (bif !decide (List.take 8 t = sec) then some ((), zo, 2, ()) else bif decide ((0 : Int) ≤ 8) && decide ((8 : Int) ≤ (t.length : Int)) then _ else none) else none) = _
      rw [show decide ((t.length : Int) < 8) = false by simp; omega, show (decide ((0 : Int) ≤ 8) && decide ((8 : Int) ≤ (t.length : Int))) = true by simp; omega, e8, hs]
      simp only [Bool.not_true, cond_false, cond_true]
      exact tl
  · have hs : sec.isPrefixOf t = false := by
      cases hq : sec.isPrefixOf t
      · rfl
      · have := (List.isPrefixOf_iff_prefix.1 hq).length_le; simp at this; omega
    rw [show decide ((8 : Int) ≤ (t.length : Int)) = false by simp; omega, hs]
    simp only [cond_false]
    rw [← plain]
    unfold passkeyref23_scheme
    simp only [cond_false, bindS]
    rw [← tail false (t.drop 7) (hd 7)]
    rfl
theorem text_ok (n m : Int) : ∃ t, passkeylaw24_text n m = some ((), t, ()) ∧ t.length ≤ 100 := by
  unfold passkeylaw24_text
  obtain ⟨k, hk, e1⟩ := Mod_ok m 10 (by omega) (by omega)
  obtain ⟨j, hj, e2⟩ := Mod_ok (IntKind.wrap .i64 (Int.tdiv m 10)) 15 (by omega) (by omega)
  obtain ⟨x, hx, hxl⟩ := Host_ok n
  rw [show ((10 : Nat) : Int) = 10 from rfl] at e1
  rw [show ((15 : Nat) : Int) = 15 from rfl] at e2
  simp only [e1, e2, hx, bindS]
  rw [show (decide ((0 : Int) ≤ (k : Int)) && decide ((k : Int) < 10)) = true by simp; omega, show (decide ((0 : Int) ≤ (j : Int)) && decide ((j : Int) < 15)) = true by simp; omega]
  simp only [cond_true, Int.toNat_natCast]
  generalize hA : ([0, 0, 0, 1, 1, 2, 3, 4, 5, 0] : List Int) = A
  generalize hB : ([[104, 116, 116, 112, 115, 58, 47, 47], [104, 116, 116, 112, 58, 47, 47], [104, 116, 116, 112, 115, 58, 47], [], [102, 116, 112, 58, 47, 47], [72, 84, 84, 80, 83, 58, 47, 47]] : List (List UInt8)) = B
  generalize hC : ([[], [], [58, 56, 48, 56, 48], [58, 52, 52, 51], [58, 56, 48], [58, 48], [58, 54, 53, 53, 51, 53], [58, 54, 53, 53, 51, 54], [58, 48, 49], [58], [58, 56, 97], [58, 56, 48, 56, 48, 47], [47], [58, 49, 58, 50], [58, 57, 57, 57, 57, 57]] : List (List UInt8)) = C
  have a1 : A.length = 10 := by rw [← hA]; rfl
  have a2 : ∀ z ∈ A, 0 ≤ z ∧ z < 6 := by rw [← hA]; decide
  have b1 : B.length = 6 := by rw [← hB]; rfl
  have b2 : ∀ z ∈ B, z.length ≤ 10 := by rw [← hB]; decide
  have c1 : C.length = 15 := by rw [← hC]; rfl
  have c2 : ∀ z ∈ C, z.length ≤ 10 := by rw [← hC]; decide
  rw [List.getElem?_eq_getElem (show k < A.length by omega), List.getElem?_eq_getElem (show j < C.length by omega)]
  simp only [bindS]
  have hz := a2 _ (List.getElem_mem (show k < A.length by omega))
  generalize A[k]'(by omega) = z at hz
  rw [show (decide ((0 : Int) ≤ z) && decide (z < 6)) = true by simp; omega, List.getElem?_eq_getElem (show z.toNat < B.length by omega)]
  simp only [cond_true, bindS]
  have h1 := b2 _ (List.getElem_mem (show z.toNat < B.length by omega))
  have h2 := c2 _ (List.getElem_mem (show j < C.length by omega))
  rw [ble_of (by omega), ble_of (by rw [List.length_append]; omega)]
  exact ⟨_, rfl, by simp only [List.length_append]; omega⟩
end Go.Proofs.YtjmaldfcmggblaaDoor

/- Origins, as wip/orig has them. No condition. -/
import Derived.Test.YtjmaldfcmggblaaDoorOgA
set_option linter.unusedVariables false
set_option linter.unusedSimpArgs false
set_option maxRecDepth 100000
namespace Go.Proofs.YtjmaldfcmggblaaDoor
open Go Go.Abs
theorem dec_small {n : Nat} (h : n < 10) : Lib.decDigits n = [UInt8.ofNat (48 + n)] := by rw [Lib.decDigits, dif_pos h]
theorem dec_big {n : Nat} (h : ¬ n < 10) : Lib.decDigits n = Lib.decDigits (n / 10) ++ [UInt8.ofNat (48 + n % 10)] := by rw [Lib.decDigits, dif_neg h]
theorem dec_len : ∀ n : Nat, (Lib.decDigits n).length ≤ n + 1 := by
  intro n
  induction n using Nat.strongRecOn with
  | _ n ih =>
    by_cases h : n < 10
    · rw [dec_small h]; simp
    · rw [dec_big h, List.length_append]
      have := ih (n / 10) (by omega)
      simp; omega
theorem dec_ne (n : Nat) : Lib.decDigits n ≠ [] := by
  by_cases h : n < 10
  · rw [dec_small h]; simp
  · rw [dec_big h]; simp
theorem dig_of {d : Nat} (h : d < 10) : isDig (UInt8.ofNat (48 + d)) = true ∧ dig (UInt8.ofNat (48 + d)) = d := by
  have e : (UInt8.ofNat (48 + d)).toNat = 48 + d := by rw [UInt8.toNat_ofNat', Nat.mod_eq_of_lt (by omega)]
  refine ⟨isDig_iff.2 (by omega), ?_⟩
  unfold dig; omega
theorem dec_all : ∀ n : Nat, (Lib.decDigits n).all isDig = true ∧ val (Lib.decDigits n) = n ∧ (0 < n → (Lib.decDigits n).head? ≠ some 48) := by
  intro n
  induction n using Nat.strongRecOn with
  | _ n ih =>
    by_cases h : n < 10
    · rw [dec_small h]
      obtain ⟨h1, h2⟩ := dig_of h
      refine ⟨by rw [List.all_cons, h1]; rfl, ?_, fun h0 hh => ?_⟩
      · show 10 * 0 + dig _ = n
        rw [h2]; omega
      · simp only [List.head?_cons, Option.some.injEq] at hh
        rw [hh] at h2
        have : dig 48 = 0 := rfl
        omega
    · rw [dec_big h]
      obtain ⟨i1, i2, i3⟩ := ih (n / 10) (by omega)
      obtain ⟨h1, h2⟩ := dig_of (d := n % 10) (by omega)
      refine ⟨by rw [List.all_append, i1, List.all_cons, h1]; rfl, ?_, fun h0 => ?_⟩
      · rw [val_snoc, i2, h2]; omega
      · have := i3 (by omega)
        cases hd : Lib.decDigits (n / 10) with
        | nil => exact absurd hd (dec_ne _)
        | cons c r => rw [hd] at this; simpa using this
theorem dec_le : ∀ (k n : Nat), n < 10 ^ (k + 1) → (Lib.decDigits n).length ≤ k + 1
  | 0, n, h => by rw [dec_small (by omega)]; simp
  | k + 1, n, h => by
    by_cases h1 : n < 10
    · rw [dec_small h1]; simp
    · rw [dec_big h1, List.length_append]
      have := dec_le k (n / 10) (by rw [Nat.pow_succ] at h; omega)
      simp; omega
theorem val_pos {l : List UInt8} (h1 : l.all isDig = true) (h2 : l ≠ []) (h3 : l.head? ≠ some 48) : 0 < val l := by
  have key : ∀ (r : List UInt8) (n : Nat), n ≤ r.foldl (fun n c => 10 * n + dig c) n := by
    intro r
    induction r with
    | nil => intro n; exact Nat.le_refl _
    | cons c r ih => intro n; exact Nat.le_trans (by omega) (ih (10 * n + dig c))
  cases l with
  | nil => exact absurd rfl h2
  | cons c r =>
    simp only [List.all_cons, Bool.and_eq_true] at h1
    have hc := isDig_iff.1 h1.1
    have : c.toNat ≠ 48 := fun e => h3 (by
      rw [List.head?_cons, Option.some.injEq]
      exact UInt8.toNat_inj.1 e)
    have hk := key r (10 * 0 + dig c)
    have hd : dig c = c.toNat - 48 := rfl
    show 0 < r.foldl (fun n c => 10 * n + dig c) (10 * 0 + dig c)
    omega
theorem dec_val : ∀ (l : List UInt8), l.all isDig = true → l ≠ [] → l.head? ≠ some 48 → Lib.decDigits (val l) = l := by
  intro l
  induction hn : l.length using Nat.strongRecOn generalizing l with
  | _ n ih =>
    intro h1 h2 h3
    obtain ⟨r, c, rfl⟩ : ∃ r c, l = r ++ [c] := by
      rcases List.eq_nil_or_concat l with h | ⟨r, c, h⟩
      · exact absurd h h2
      · exact ⟨r, c, by simpa using h⟩
    simp only [List.all_append, List.all_cons, List.all_nil, Bool.and_true, Bool.and_eq_true] at h1
    have hc := isDig_iff.1 h1.2
    have hcc : UInt8.ofNat (48 + dig c) = c := by
      unfold dig
      rw [show 48 + (c.toNat - 48) = c.toNat by omega]
      exact UInt8.ofNat_toNat
    have hd9 := (dig_ok h1.2).2
    rw [val_snoc]
    cases r with
    | nil =>
      have e : 10 * val [] + dig c = dig c := by simp [val]
      rw [e, dec_small (by omega), hcc]; rfl
    | cons d r =>
      have hp : 0 < val (d :: r) := val_pos h1.1 (by simp) (by simpa using h3)
      rw [dec_big (by omega), show (10 * val (d :: r) + dig c) / 10 = val (d :: r) by omega, show (10 * val (d :: r) + dig c) % 10 = dig c by omega, hcc, ih (d :: r).length (by rw [← hn]; simp) (d :: r) rfl h1.1 (by simp) (by simpa using h3)]
def sch (b : Bool) : List UInt8 := bif b then sec else pla
def ftxt (o : ApiOrigin) : List UInt8 := sch o.secure ++ (o.host ++ bif decide (o.port = dport o.secure) then [] else 58 :: Lib.decDigits o.port.toNat)
def fmtO (o : ApiOrigin) : List UInt8 × Int := bif decide (vali o.host = 0) then (bif decide (1 ≤ o.port ∧ o.port ≤ 65535) then (ftxt o, 0) else ([], 9)) else ([], vali o.host)
theorem sch_len (b : Bool) : (sch b).length ≤ 8 := by cases b <;> simp [sch]
theorem Format_ok (o : ApiOrigin) : origin_Format o = some ((), (fmtO o).1, (fmtO o).2, ()) := by
  unfold origin_Format fmtO
  rw [Validate_ok]
  simp only [bindS]
  by_cases hv : vali o.host = 0
  · have hl := vali_len hv
    simp only [hv, decide_true, Bool.not_true, cond_false, cond_true]
    by_cases hp : 1 ≤ o.port ∧ o.port ≤ 65535
    · rw [show decide (o.port < 1) = false by simp; omega, show decide ((65535 : Int) < o.port) = false by simp; omega, ble_of (by simp; omega), ble_of (by simp; omega)]
      simp only [hp, and_self, decide_true, cond_false, cond_true]
      have tail : ∀ s : List UInt8, s.length ≤ 200 → ((origin_defaultPort o.secure).bind fun r4 => bif !decide (o.port = r4.2.1) then (strconv_Itoa o.port).bind fun r5 => bif Nat.ble (([58] : List UInt8).length + r5.2.1.length) 9223372036854775807 then bif Nat.ble (s.length + (([58] : List UInt8) ++ r5.2.1).length) 9223372036854775807 then some ((), s ++ (([58] : List UInt8) ++ r5.2.1), (0 : Int), ()) else none else none else some ((), s, (0 : Int), ())) = some ((), s ++ (bif decide (o.port = dport o.secure) then [] else 58 :: Lib.decDigits o.port.toNat), 0, ()) := by
        intro s hs
        rw [defaultPort_ok]
        simp only [bindS]
        cases decide (o.port = dport o.secure)
        · simp only [Bool.not_false, cond_true, cond_false]
          unfold strconv_Itoa Lib.itoa
          rw [show (decide (-9223372036854775808 ≤ o.port) && decide (o.port ≤ 9223372036854775807)) = true by simp; omega, if_neg (by omega)]
          simp only [cond_true, bindS]
          have hd := dec_le 4 o.port.toNat (by omega)
          rw [ble_of (by simp; omega), ble_of (by simp; omega)]
          rfl
        · simp
      cases hs : o.secure
      · simp only [cond_false, bindS]
        have := tail (pla ++ o.host) (by simp; omega)
        rw [hs] at this
        rw [hs, this]
        simp [ftxt, hs, sch]
      · simp only [cond_true, bindS]
        have := tail (sec ++ o.host) (by simp; omega)
        rw [hs] at this
        rw [hs, this]
        simp [ftxt, hs, sch]
    · rw [show decide (1 ≤ o.port ∧ o.port ≤ 65535) = false by simpa using hp]
      by_cases h1 : o.port < 1
      · simp [h1]
      · rw [show decide (o.port < 1) = false by simpa using h1, show decide ((65535 : Int) < o.port) = true by simp; omega]
        rfl
  · simp [hv]
theorem vali_no58 {s : List UInt8} (h : vali s = 0) : (58 : UInt8) ∉ s := by
  intro hm
  have hl := (vali_iff.1 h).2.1
  have : ∀ (L : List (List UInt8)), (58 : UInt8) ∈ joinD L → ∃ x ∈ L, (58 : UInt8) ∈ x := by
    intro L
    induction L with
    | nil => intro h; simp [joinD_nil] at h
    | cons x r ih =>
      cases r with
      | nil => intro h; rw [joinD_one] at h; exact ⟨x, by simp, h⟩
      | cons y r =>
        intro h
        rw [joinD_cons] at h
        rcases List.mem_append.1 h with h | h
        · exact ⟨x, by simp, h⟩
        · rcases List.mem_cons.1 h with h | h
          · exact absurd h (by decide)
          · obtain ⟨z, hz, q⟩ := ih h
            exact ⟨z, List.mem_cons_of_mem _ hz, q⟩
  obtain ⟨x, hx, hq⟩ := this (spl 46 s) (by rw [joinD_spl]; exact hm)
  have hx' := hl x hx
  unfold lab at hx'
  simp only [Bool.and_eq_true] at hx'
  have := List.all_eq_true.1 hx'.2.2 58 hq
  exact absurd this (by decide)
theorem porig_sch (b : Bool) (rest : List UInt8) : porig (sch b ++ rest) = body b rest := by
  unfold porig
  cases b
  · have e1 : sec.isPrefixOf (sch false ++ rest) = false := rfl
    have e2 : pla.isPrefixOf (sch false ++ rest) = true := by simp [sch]
    rw [e1, e2]; rfl
  · have e1 : sec.isPrefixOf (sch true ++ rest) = true := by simp [sch]
    rw [e1]; rfl
theorem parse_fmtO {o : ApiOrigin} (hv : vali o.host = 0) (hp : 1 ≤ o.port ∧ o.port ≤ 65535) : porig (ftxt o) = (o, 0) := by
  obtain ⟨b, h, p⟩ := o
  dsimp only at hv hp
  unfold ftxt
  dsimp only
  rw [porig_sch]
  unfold body
  have h58 := vali_no58 hv
  by_cases hd : p = dport b
  · rw [show decide (p = dport b) = true by simpa using hd]
    simp only [cond_true, List.append_nil, cutC_free h58]
    simp [hv, hd]
  · rw [show decide (p = dport b) = false by simpa using hd]
    simp only [cond_false, cutC_app _ h58]
    obtain ⟨d1, d2, d3⟩ := dec_all p.toNat
    have d4 := d3 (by omega)
    have d5 := dec_le 4 p.toNat (by omega)
    have d6 := List.length_pos_iff.2 (dec_ne p.toNat)
    have hpo : portOf (Lib.decDigits p.toNat) = (p, true) := by
      unfold portOf
      rw [d1, d2, show decide ((Lib.decDigits p.toNat).head? = some 48) = false by simpa using d4, show decide (1 ≤ (Lib.decDigits p.toNat).length ∧ (Lib.decDigits p.toNat).length ≤ 5) = true by simp; omega]
      simp only [Bool.not_false, Bool.and_self, cond_true]
      rw [show ((p.toNat : Nat) : Int) = p by omega]
      simp; omega
    rw [hpo]
    simp [hv, hd]
theorem Origin_ok (n : Int) (h0 : 0 ≤ n) (h1 : n < 8192) : ∃ o, passkeycast_Origin n = some ((), o, ()) ∧ o.host.length ≤ 30 := by
  unfold passkeycast_Origin
  obtain ⟨x, hx, hxl⟩ := Host_ok (Int.fdiv n (2 ^ (min 3 (IntKind.bits .i64))))
  simp only [hx, bindS]
  have hb : ∀ v : Int, ∃ k : Nat, IntKind.wrap .i64 ((BitVec.ofInt (IntKind.bits .i64) v &&& BitVec.ofInt (IntKind.bits .i64) (7 : Int)).toNat : Int) = (k : Int) ∧ k < 8 := by
    intro v
    have hlt : (BitVec.ofInt 64 v &&& BitVec.ofInt 64 (7 : Int)).toNat < 8 := by
      rw [BitVec.toNat_and]
      have : (BitVec.ofInt 64 (7 : Int)).toNat = 7 := by decide
      rw [this]
      have := Nat.and_le_right (n := (BitVec.ofInt 64 v).toNat) (m := 7)
      omega
    exact ⟨_, wrap_id (by omega) (by show ((BitVec.ofInt 64 v &&& BitVec.ofInt 64 (7 : Int)).toNat : Int) < _; omega), hlt⟩
  obtain ⟨k, hk, hk8⟩ := hb (Int.fdiv n (2 ^ (min 10 (IntKind.bits .i64))))
  rw [hk, show (decide ((0 : Int) ≤ (k : Int)) && decide ((k : Int) < 8)) = true by simp; omega]
  simp only [cond_true, Int.toNat_natCast]
  generalize hL : ([443, 80, 8080, 443, 1, 65535, 0, 65536] : List Int) = L
  have hl : L.length = 8 := by rw [← hL]; rfl
  rw [List.getElem?_eq_getElem (by omega)]
  exact ⟨_, rfl, hxl⟩
end Go.Proofs.YtjmaldfcmggblaaDoor

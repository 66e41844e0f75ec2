/- The laws OriginFormats, OriginPermits and OriginSame, plainly. No condition. -/
import Derived.Test.YtcapoikhcbnkjaaDoorOrigA
set_option linter.unusedVariables false
set_option linter.unusedSimpArgs false
set_option maxRecDepth 100000
namespace Go.Proofs.YtcapoikhcbnkjaaDoor
open Go Go.Abs

/-! ### numerals -/
theorem dec_small {n : Nat} (h : n < 10) : Lib.decDigits n = [UInt8.ofNat (48 + n)] := by rw [Lib.decDigits, dif_pos h]
theorem dec_big {n : Nat} (h : ¬ n < 10) : Lib.decDigits n = Lib.decDigits (n / 10) ++ [UInt8.ofNat (48 + n % 10)] := by rw [Lib.decDigits, dif_neg h]
theorem dec_len : ∀ n : Nat, (Lib.decDigits n).length ≤ n + 1 := by
  intro n
  induction n using Nat.strongRecOn with
  | _ n ih =>
    by_cases h : n < 10
    · rw [dec_small h]; simp
    · rw [dec_big h, List.length_append]
      have := ih (n / 10) (by omega)
      simp; omega
theorem dec_ne (n : Nat) : Lib.decDigits n ≠ [] := by
  by_cases h : n < 10
  · rw [dec_small h]; simp
  · rw [dec_big h]; simp
theorem dig_of {d : Nat} (h : d < 10) : isDig (UInt8.ofNat (48 + d)) = true ∧ dig (UInt8.ofNat (48 + d)) = d := by
  have e : (UInt8.ofNat (48 + d)).toNat = 48 + d := by rw [UInt8.toNat_ofNat', Nat.mod_eq_of_lt (by omega)]
  refine ⟨isDig_iff.2 (by omega), ?_⟩
  unfold dig; omega
theorem dec_all : ∀ n : Nat, (Lib.decDigits n).all isDig = true ∧ val (Lib.decDigits n) = n ∧ (0 < n → (Lib.decDigits n).head? ≠ some 48) := by
  intro n
  induction n using Nat.strongRecOn with
  | _ n ih =>
    by_cases h : n < 10
    · rw [dec_small h]
      obtain ⟨h1, h2⟩ := dig_of h
      refine ⟨by rw [List.all_cons, h1]; rfl, ?_, fun h0 hh => ?_⟩
      · show 10 * 0 + dig _ = n
        rw [h2]; omega
      · simp only [List.head?_cons, Option.some.injEq] at hh
        rw [hh] at h2
        have : dig 48 = 0 := rfl
        omega
    · rw [dec_big h]
      obtain ⟨i1, i2, i3⟩ := ih (n / 10) (by omega)
      obtain ⟨h1, h2⟩ := dig_of (d := n % 10) (by omega)
      refine ⟨by rw [List.all_append, i1, List.all_cons, h1]; rfl, ?_, fun h0 => ?_⟩
      · rw [val_snoc, i2, h2]; omega
      · have := i3 (by omega)
        cases hd : Lib.decDigits (n / 10) with
        | nil => exact absurd hd (dec_ne _)
        | cons c r => rw [hd] at this; simpa using this
theorem dec_le : ∀ (k n : Nat), n < 10 ^ (k + 1) → (Lib.decDigits n).length ≤ k + 1
  | 0, n, h => by rw [dec_small (by omega)]; simp
  | k + 1, n, h => by
    by_cases h1 : n < 10
    · rw [dec_small h1]; simp
    · rw [dec_big h1, List.length_append]
      have := dec_le k (n / 10) (by rw [Nat.pow_succ] at h; omega)
      simp; omega
theorem val_pos {l : List UInt8} (h1 : l.all isDig = true) (h2 : l ≠ []) (h3 : l.head? ≠ some 48) : 0 < val l := by
  have key : ∀ (r : List UInt8) (n : Nat), n ≤ r.foldl (fun n c => 10 * n + dig c) n := by
    intro r
    induction r with
    | nil => intro n; exact Nat.le_refl _
    | cons c r ih => intro n; exact Nat.le_trans (by omega) (ih (10 * n + dig c))
  cases l with
  | nil => exact absurd rfl h2
  | cons c r =>
    simp only [List.all_cons, Bool.and_eq_true] at h1
    have hc := isDig_iff.1 h1.1
    have : c.toNat ≠ 48 := fun e => h3 (by
      rw [List.head?_cons, Option.some.injEq]
      exact UInt8.toNat_inj.1 e)
    have hk := key r (10 * 0 + dig c)
    have hd : dig c = c.toNat - 48 := rfl
    show 0 < r.foldl (fun n c => 10 * n + dig c) (10 * 0 + dig c)
    omega
theorem dec_val : ∀ (l : List UInt8), l.all isDig = true → l ≠ [] → l.head? ≠ some 48 → Lib.decDigits (val l) = l := by
  intro l
  induction hn : l.length using Nat.strongRecOn generalizing l with
  | _ n ih =>
    intro h1 h2 h3
    obtain ⟨r, c, rfl⟩ : ∃ r c, l = r ++ [c] := by
      rcases List.eq_nil_or_concat l with h | ⟨r, c, h⟩
      · exact absurd h h2
      · exact ⟨r, c, by simpa using h⟩
    simp only [List.all_append, List.all_cons, List.all_nil, Bool.and_true, Bool.and_eq_true] at h1
    have hc := isDig_iff.1 h1.2
    have hcc : UInt8.ofNat (48 + dig c) = c := by
      unfold dig
      rw [show 48 + (c.toNat - 48) = c.toNat by omega]
      exact UInt8.ofNat_toNat
    have hd9 := (dig_ok h1.2).2
    rw [val_snoc]
    cases r with
    | nil =>
      have e : 10 * val [] + dig c = dig c := by simp [val]
      rw [e, dec_small (by omega), hcc]; rfl
    | cons d r =>
      have hp : 0 < val (d :: r) := val_pos h1.1 (by simp) (by simpa using h3)
      rw [dec_big (by omega), show (10 * val (d :: r) + dig c) / 10 = val (d :: r) by omega, show (10 * val (d :: r) + dig c) % 10 = dig c by omega, hcc, ih (d :: r).length (by rw [← hn]; simp) (d :: r) rfl h1.1 (by simp) (by simpa using h3)]
theorem decimal_ok (n : Nat) (hn : n ≤ 65535) : passkeyref23_decimal (n : Int) = some ((), Lib.decDigits n, ()) := by
  unfold passkeyref23_decimal passkeyref23_decimal_L0
  rw [iter_fun (fun q => 0 ≤ q.1 ∧ (q.2.1.length : Int) + q.1 ≤ 70000) (fun q => q.1.toNat) (fun q => (Lib.decDigits q.1.toNat ++ q.2.1, ()))]
  · simp
  · rintro ⟨m, l, u⟩ ⟨h1, h2⟩
    dsimp only at *
    simp only [passkeyref23_decimal_L0b]
    obtain ⟨k, rfl⟩ : ∃ k : Nat, m = (k : Int) := ⟨m.toNat, by omega⟩
    have e1 : Int.tmod (k : Int) 10 = ((k % 10 : Nat) : Int) := rfl
    have e2 : Int.tdiv (k : Int) 10 = ((k / 10 : Nat) : Int) := rfl
    rw [e1, e2, wrap_id (n := ((k / 10 : Nat) : Int)) (by omega) (by omega), wrap_id (n := (48 : Int) + ((k % 10 : Nat) : Int)) (by omega) (by omega)]
    have e3 : UInt8.ofBitVec (BitVec.ofInt 8 ((48 : Int) + ((k % 10 : Nat) : Int))) = UInt8.ofNat (48 + k % 10) := by
      rw [show (48 : Int) + ((k % 10 : Nat) : Int) = ((48 + k % 10 : Nat) : Int) by omega, BitVec.ofInt_natCast]
      rfl
    rw [e3, ble_of (by simp; omega)]
    simp only [cond_true, Int.toNat_natCast]
    by_cases hk : k < 10
    · right
      rw [show decide (((k / 10 : Nat) : Int) = 0) = true by simp; omega, dec_small hk, show k % 10 = k by omega]
      rfl
    · left
      rw [show decide (((k / 10 : Nat) : Int) = 0) = false by simp; omega]
      refine ⟨_, rfl, ⟨by dsimp only; omega, by simp; omega⟩, by dsimp only; omega, ?_⟩
      dsimp only
      rw [dec_big hk, Int.toNat_natCast, List.append_assoc]
  · exact ⟨by simp, by simp; omega⟩
  · rw [rounds_eq]; dsimp only; omega

/-! ### Format -/
def sch (b : Bool) : List UInt8 := bif b then sec else pla
def ftxt (o : ApiOrigin) : List UInt8 := sch o.secure ++ (o.host ++ bif decide (o.port = dport o.secure) then [] else 58 :: Lib.decDigits o.port.toNat)
def fmtO (o : ApiOrigin) : List UInt8 × Int := bif decide (vali o.host = 0) then (bif decide (1 ≤ o.port ∧ o.port ≤ 65535) then (ftxt o, 0) else ([], 9)) else ([], vali o.host)
theorem sch_len (b : Bool) : (sch b).length ≤ 8 := by cases b <;> simp [sch]
theorem Format_ok (o : ApiOrigin) : origin_Format o = some ((), (fmtO o).1, (fmtO o).2, ()) := by
  unfold origin_Format fmtO
  rw [Validate_ok]
  simp only [bindS]
  by_cases hv : vali o.host = 0
  · have hl := vali_len hv
    simp only [hv, decide_true, Bool.not_true, cond_false, cond_true]
    by_cases hp : 1 ≤ o.port ∧ o.port ≤ 65535
    · rw [show decide (o.port < 1) = false by simp; omega, show decide ((65535 : Int) < o.port) = false by simp; omega, ble_of (by simp; omega), ble_of (by simp; omega)]
      simp only [hp, and_self, decide_true, cond_false, cond_true]
      have tail : ∀ s : List UInt8, s.length ≤ 200 → ((origin_defaultPort o.secure).bind fun r4 => bif !decide (o.port = r4.2.1) then (strconv_Itoa o.port).bind fun r5 => bif Nat.ble (([58] : List UInt8).length + r5.2.1.length) 9223372036854775807 then bif Nat.ble (s.length + (([58] : List UInt8) ++ r5.2.1).length) 9223372036854775807 then some ((), s ++ (([58] : List UInt8) ++ r5.2.1), (0 : Int), ()) else none else none else some ((), s, (0 : Int), ())) = some ((), s ++ (bif decide (o.port = dport o.secure) then [] else 58 :: Lib.decDigits o.port.toNat), 0, ()) := by
        intro s hs
        rw [defaultPort_ok]
        simp only [bindS]
        cases decide (o.port = dport o.secure)
        · simp only [Bool.not_false, cond_true, cond_false]
          unfold strconv_Itoa Lib.itoa
          rw [show (decide (-9223372036854775808 ≤ o.port) && decide (o.port ≤ 9223372036854775807)) = true by simp; omega, if_neg (by omega)]
          simp only [cond_true, bindS]
          have hd := dec_le 4 o.port.toNat (by omega)
          rw [ble_of (by simp; omega), ble_of (by simp; omega)]
          rfl
        · simp
      cases hs : o.secure
      · simp only [cond_false, bindS]
        have := tail (pla ++ o.host) (by simp; omega)
        rw [hs] at this
        rw [hs, this]
        simp [ftxt, hs, sch]
      · simp only [cond_true, bindS]
        have := tail (sec ++ o.host) (by simp; omega)
        rw [hs] at this
        rw [hs, this]
        simp [ftxt, hs, sch]
    · rw [show decide (1 ≤ o.port ∧ o.port ≤ 65535) = false by simpa using hp]
      by_cases h1 : o.port < 1
      · simp [h1]
      · rw [show decide (o.port < 1) = false by simpa using h1, show decide ((65535 : Int) < o.port) = true by simp; omega]
        rfl
  · simp [hv]
theorem rFormat_ok (o : ApiOrigin) : passkeyref23_FormatOrigin o = some ((), (fmtO o).1, (fmtO o).2, ()) := by
  unfold passkeyref23_FormatOrigin fmtO
  rw [rValidate_ok]
  simp only [bindS]
  by_cases hv : vali o.host = 0
  · have hl := vali_len hv
    simp only [hv, decide_true, Bool.not_true, cond_false, cond_true]
    by_cases hp : 1 ≤ o.port ∧ o.port ≤ 65535
    · rw [show decide (o.port < 1) = false by simp; omega, show decide ((65535 : Int) < o.port) = false by simp; omega]
      have hsc : passkeyref23_scheme o.secure = some ((), sch o.secure, ()) := by cases o.secure <;> rfl
      have hd := dec_le 4 o.port.toNat (by omega)
      have hdm := decimal_ok o.port.toNat (by omega)
      rw [show ((o.port.toNat : Nat) : Int) = o.port by omega] at hdm
      have hsl := sch_len o.secure
      simp only [hp, and_self, decide_true, cond_false, cond_true, rdefaultPort_ok, bindS, hsc, hdm]
      rw [ble_of (by omega), ble_of (by simp; omega), ble_of (by simp; omega)]
      unfold ftxt
      cases decide (o.port = dport o.secure) <;> simp
    · rw [show decide (1 ≤ o.port ∧ o.port ≤ 65535) = false by simpa using hp]
      by_cases h1 : o.port < 1
      · simp [h1]
      · rw [show decide (o.port < 1) = false by simpa using h1, show decide ((65535 : Int) < o.port) = true by simp; omega]
        rfl
  · simp [hv]

/-! ### texts and origins correspond -/
theorem vali_no58 {s : List UInt8} (h : vali s = 0) : (58 : UInt8) ∉ s := by
  intro hm
  have hl := (vali_iff.1 h).2.1
  have : ∀ (L : List (List UInt8)), (58 : UInt8) ∈ joinD L → ∃ x ∈ L, (58 : UInt8) ∈ x := by
    intro L
    induction L with
    | nil => intro h; simp [joinD_nil] at h
    | cons x r ih =>
      cases r with
      | nil => intro h; rw [joinD_one] at h; exact ⟨x, by simp, h⟩
      | cons y r =>
        intro h
        rw [joinD_cons] at h
        rcases List.mem_append.1 h with h | h
        · exact ⟨x, by simp, h⟩
        · rcases List.mem_cons.1 h with h | h
          · exact absurd h (by decide)
          · obtain ⟨z, hz, q⟩ := ih h
            exact ⟨z, List.mem_cons_of_mem _ hz, q⟩
  obtain ⟨x, hx, hq⟩ := this (spl 46 s) (by rw [joinD_spl]; exact hm)
  have hx' := hl x hx
  unfold lab at hx'
  simp only [Bool.and_eq_true] at hx'
  have := List.all_eq_true.1 hx'.2.2 58 hq
  exact absurd this (by decide)
theorem porig_sch (b : Bool) (rest : List UInt8) : porig (sch b ++ rest) = body b rest := by
  unfold porig
  cases b
  · have e1 : sec.isPrefixOf (sch false ++ rest) = false := rfl
    have e2 : pla.isPrefixOf (sch false ++ rest) = true := by simp [sch]
    rw [e1, e2]; rfl
  · have e1 : sec.isPrefixOf (sch true ++ rest) = true := by simp [sch]
    rw [e1]; rfl
theorem parse_fmtO {o : ApiOrigin} (hv : vali o.host = 0) (hp : 1 ≤ o.port ∧ o.port ≤ 65535) : porig (ftxt o) = (o, 0) := by
  obtain ⟨b, h, p⟩ := o
  dsimp only at hv hp
  unfold ftxt
  dsimp only
  rw [porig_sch]
  unfold body
  have h58 := vali_no58 hv
  by_cases hd : p = dport b
  · rw [show decide (p = dport b) = true by simpa using hd]
    simp only [cond_true, List.append_nil, cutC_free h58]
    simp [hv, hd]
  · rw [show decide (p = dport b) = false by simpa using hd]
    simp only [cond_false, cutC_app _ h58]
    obtain ⟨d1, d2, d3⟩ := dec_all p.toNat
    have d4 := d3 (by omega)
    have d5 := dec_le 4 p.toNat (by omega)
    have d6 := List.length_pos_iff.2 (dec_ne p.toNat)
    have hpo : portOf (Lib.decDigits p.toNat) = (p, true) := by
      unfold portOf
      rw [d1, d2, show decide ((Lib.decDigits p.toNat).head? = some 48) = false by simpa using d4, show decide (1 ≤ (Lib.decDigits p.toNat).length ∧ (Lib.decDigits p.toNat).length ≤ 5) = true by simp; omega]
      simp only [Bool.not_false, Bool.and_self, cond_true]
      rw [show ((p.toNat : Nat) : Int) = p by omega]
      simp; omega
    rw [hpo]
    simp [hv, hd]
theorem prefix_drop {a t : List UInt8} (h : a.isPrefixOf t = true) : t = a ++ t.drop a.length := by
  obtain ⟨r, rfl⟩ := List.isPrefixOf_iff_prefix.1 h
  simp
theorem fmt_porig {t : List UInt8} (h : (porig t).2 = 0) : vali (porig t).1.host = 0 ∧ (1 ≤ (porig t).1.port ∧ (porig t).1.port ≤ 65535) ∧ ftxt (porig t).1 = t := by
  have key : ∀ (b : Bool) (rest : List UInt8), (body b rest).2 = 0 → vali (body b rest).1.host = 0 ∧ (1 ≤ (body b rest).1.port ∧ (body b rest).1.port ≤ 65535) ∧ ftxt (body b rest).1 = sch b ++ rest := by
    intro b rest hb
    unfold body at hb ⊢
    obtain ⟨p1, p2, p3⟩ := cutC_parts rest
    by_cases hv : vali (cutC rest).1 = 0
    · rw [show decide (vali (cutC rest).1 = 0) = true by simpa using hv] at hb ⊢
      simp only [cond_true] at hb ⊢
      cases hf : (cutC rest).2.2
      · rw [hf] at hb
        simp only [cond_false]
        refine ⟨hv, by cases b <;> decide, ?_⟩
        unfold ftxt
        dsimp only
        rw [p3 hf]
        simp
      · rw [hf] at hb
        obtain ⟨q1, q2⟩ := p2 hf
        simp only [cond_true] at hb ⊢
        cases hq : ((portOf (cutC rest).2.1).2 && !decide ((portOf (cutC rest).2.1).1 = dport b))
        · rw [hq] at hb; simp at hb
        · simp only [cond_true]
          simp only [Bool.and_eq_true, Bool.not_eq_true', decide_eq_false_iff_not] at hq
          have hpo := hq.1
          generalize hd : (cutC rest).2.1 = d at hpo hq q2 ⊢
          unfold portOf at hpo hq ⊢
          cases hc : (decide (1 ≤ d.length ∧ d.length ≤ 5) && (!decide (d.head? = some 48) && d.all isDig))
          · rw [hc] at hpo; simp at hpo
          · rw [hc] at hpo hq
            simp only [cond_true] at hpo hq ⊢
            simp only [Bool.and_eq_true, Bool.not_eq_true', decide_eq_true_eq, decide_eq_false_iff_not] at hc hpo
            have hne : d ≠ [] := by intro e; rw [e] at hc; simp at hc
            have hvp := val_pos hc.2.2 hne hc.2.1
            refine ⟨hv, by omega, ?_⟩
            unfold ftxt
            dsimp only
            rw [show decide ((val d : Int) = dport b) = false by simpa using hq.2]
            simp only [cond_false, Int.toNat_natCast]
            rw [dec_val d hc.2.2 hne hc.2.1, q2]
            congr 1
            have hx : ∃ x, rest.drop (cutC rest).1.length = x :: rest.drop ((cutC rest).1.length + 1) ∧ x = 58 := by
              refine ⟨rest[(cutC rest).1.length], List.drop_eq_getElem_cons q1, ?_⟩
              have : ∀ s : List UInt8, (hs : (cutC s).2.2 = true) → ∀ hh : (cutC s).1.length < s.length, s[(cutC s).1.length] = 58 := by
                intro s
                induction s with
                | nil => intro hs; cases hs
                | cons x r ih =>
                  intro hs hh
                  by_cases hx : x = 58
                  · subst hx
                    simp [cutC]
                  · have e : cutC (x :: r) = (x :: (cutC r).1, (cutC r).2.1, (cutC r).2.2) := by rw [cutC, if_neg hx]
                    have hs' : (cutC r).2.2 = true := by rw [e] at hs; exact hs
                    have hh' : (cutC r).1.length < r.length := by rw [e] at hh; simpa using hh
                    simp only [e, List.length_cons, List.getElem_cons_succ]
                    exact ih hs' hh'
              exact this rest hf q1
            obtain ⟨x, hx1, rfl⟩ := hx
            conv => rhs; rw [← List.take_append_drop (cutC rest).1.length rest, hx1, ← p1]
    · rw [show decide (vali (cutC rest).1 = 0) = false by simpa using hv] at hb
      simp only [cond_false] at hb
      exact absurd hb hv
  unfold porig at h ⊢
  cases hs : sec.isPrefixOf t
  · rw [hs] at h
    simp only [cond_false] at h ⊢
    cases hp : pla.isPrefixOf t
    · rw [hp] at h; cases h
    · rw [hp] at h
      simp only [cond_true] at h ⊢
      have := key false _ h
      refine ⟨this.1, this.2.1, this.2.2.trans ?_⟩
      exact (prefix_drop hp).symm
  · rw [hs] at h
    simp only [cond_true] at h ⊢
    have := key true _ h
    refine ⟨this.1, this.2.1, this.2.2.trans ?_⟩
    exact (prefix_drop hs).symm
theorem Origin_ok (n : Int) (h0 : 0 ≤ n) (h1 : n < 8192) : ∃ o, passkeycast_Origin n = some ((), o, ()) ∧ o.host.length ≤ 30 := by
  unfold passkeycast_Origin
  obtain ⟨x, hx, hxl⟩ := Host_ok (Int.fdiv n (2 ^ (min 3 (IntKind.bits .i64))))
  simp only [hx, bindS]
  have hb : ∀ v : Int, ∃ k : Nat, IntKind.wrap .i64 ((BitVec.ofInt (IntKind.bits .i64) v &&& BitVec.ofInt (IntKind.bits .i64) (7 : Int)).toNat : Int) = (k : Int) ∧ k < 8 := by
    intro v
    have hlt : (BitVec.ofInt 64 v &&& BitVec.ofInt 64 (7 : Int)).toNat < 8 := by
      rw [BitVec.toNat_and]
      have : (BitVec.ofInt 64 (7 : Int)).toNat = 7 := by decide
      rw [this]
      have := Nat.and_le_right (n := (BitVec.ofInt 64 v).toNat) (m := 7)
      omega
    exact ⟨_, wrap_id (by omega) (by show ((BitVec.ofInt 64 v &&& BitVec.ofInt 64 (7 : Int)).toNat : Int) < _; omega), hlt⟩
  obtain ⟨k, hk, hk8⟩ := hb (Int.fdiv n (2 ^ (min 10 (IntKind.bits .i64))))
  rw [hk, show (decide ((0 : Int) ≤ (k : Int)) && decide ((k : Int) < 8)) = true by simp; omega]
  simp only [cond_true, Int.toNat_natCast]
  generalize hL : ([443, 80, 8080, 443, 1, 65535, 0, 65536] : List Int) = L
  have hl : L.length = 8 := by rw [← hL]; rfl
  rw [List.getElem?_eq_getElem (by omega)]
  exact ⟨_, rfl, hxl⟩
theorem fmtO_len (o : ApiOrigin) (h : o.host.length ≤ 300) : (fmtO o).1.length < 1000000 := by
  unfold fmtO
  by_cases hv : vali o.host = 0
  · by_cases hp : 1 ≤ o.port ∧ o.port ≤ 65535
    · simp only [hv, hp, and_self, decide_true, cond_true]
      unfold ftxt
      have := sch_len o.secure
      have := dec_le 4 o.port.toNat (by omega)
      cases decide (o.port = dport o.secure) <;> simp <;> omega
    · rw [show decide (1 ≤ o.port ∧ o.port ≤ 65535) = false by simpa using hp]
      simp [hv]
  · simp [hv]
theorem OriginFormats_plain (a0 : ApiOrigin) (a1 : Int) (a2 : List UInt8) (hd : OriginFormats_dom a0 a1 a2) : Ok (passkeylaw24_OriginFormats a0 a1 a2) fun r => r.2.1 = true := by
  unfold passkeylaw24_OriginFormats
  refine Ok.cond (fun _ => awakeOk) (fun h0 => ?_)
  refine Ok.cond (fun _ => awakeOk) (fun h1 => ?_)
  have h0 : a0.host.length ≤ 300 := by simp at h0; omega
  have h1 : a2.length ≤ 300 := by simp at h1; omega
  obtain ⟨k, hk, ek⟩ := Mod_ok a1 8192 (by omega) (by omega)
  rw [show ((8192 : Nat) : Int) = 8192 from rfl] at ek
  obtain ⟨o, ho, hol⟩ := Origin_ok (k : Int) (by omega) (by omega)
  simp only [ek, ho, bindS]
  have step : ∀ (x : ApiOrigin) (i : Int), x.host.length ≤ 300 → 0 ≤ i → i < 2 → ([a0, o] : List ApiOrigin)[i.toNat]? = some x → passkeylaw24_OriginFormats_L0b a2 (a0, ()) [a0, o] 2 i = some (.inl (a2, (a0, ()), [a0, o], 2, i + 1, ())) := by
    intro x i hx hi0 hi2 hg
    simp only [passkeylaw24_OriginFormats_L0b]
    rw [show decide (i < 2) = true by simpa using hi2, show (decide ((0 : Int) ≤ i) && decide (i < (([a0, o] : List ApiOrigin).length : Int))) = true by simp; omega, hg, wrap_id (n := i + 1) (by omega) (by omega)]
    simp only [cond_true, bindS, Format_ok, rFormat_ok]
    rw [Parse_ok _ (fmtO_len x hx)]
    simp only [bindS, decide_true, Bool.not_true, cond_false]
    by_cases hv : vali x.host = 0
    · by_cases hp : 1 ≤ x.port ∧ x.port ≤ 65535
      · have e : fmtO x = (ftxt x, 0) := by unfold fmtO; simp [hv, hp]
        rw [e, parse_fmtO hv hp]
        simp
      · have e : fmtO x = ([], 9) := by unfold fmtO; rw [show decide (1 ≤ x.port ∧ x.port ≤ 65535) = false by simpa using hp]; simp [hv]
        rw [e]
        simp
    · have e : fmtO x = ([], vali x.host) := by unfold fmtO; simp [hv]
      rw [e]
      simp [hv]
  have hL : passkeylaw24_OriginFormats_L0 (a2, (a0, ()), [a0, o], 2, 0, ()) = some (.inr (a2, (a0, ()), ())) := by
    unfold passkeylaw24_OriginFormats_L0
    rw [rounds_eq]
    rw [show (1180591620717411303424 : Nat) = 1180591620717411303421 + 1 + 1 + 1 from rfl]
    rw [iter_succ, step a0 0 h0 (by omega) (by omega) rfl, bindS, Sum.elim_inl, iter_succ]
    rw [show ((0 : Int) + 1) = 1 from rfl, step o 1 (by omega) (by omega) (by omega) rfl, bindS, Sum.elim_inl, iter_succ]
    rfl
  rw [hL]
  simp only [bindS, Sum.elim_inr]
  rw [Parse_ok a2 (by omega)]
  simp only [bindS]
  by_cases hz : (porig a2).2 = 0
  · obtain ⟨f1, f2, f3⟩ := fmt_porig hz
    simp only [hz, decide_true, Bool.not_true, cond_false]
    rw [Format_ok]
    have e : fmtO (porig a2).1 = (a2, 0) := by unfold fmtO; simp [f1, f2, f3]
    rw [e]
    simp only [bindS, decide_true, cond_true]
    exact awakeOk
  · simp only [hz, decide_false, Bool.not_false, cond_true]
    exact awakeOk

/-! ### Permits -/
abbrev loc9 : List UInt8 := [108, 111, 99, 97, 108, 104, 111, 115, 116]
def permV (l : List ApiSuffix) (o : ApiOrigin) (rp : List UInt8) : Int :=
  bif !decide (vali o.host = 0) then vali o.host else bif !decide (vali rp = 0) then vali rp else bif (decide (rp = loc9) && decide (o.host = loc9)) || (o.secure && (wthn o.host rp && decide (pub l o.host < ((labs rp).length : Int)))) then 0 else 34
theorem Permits_ok (l : List ApiSuffix) (o : ApiOrigin) (rp : List UInt8) : origin_Permits l o rp = some ((), permV l o rp, ()) := by
  unfold origin_Permits permV
  simp only [Validate_ok, Within_ok, Labels_ok, Public_ok, bindS]
  cases decide (vali o.host = 0)
  · rfl
  · cases decide (vali rp = 0)
    · rfl
    · simp only [Bool.not_true, cond_false]
      generalize decide (rp = loc9) = b1
      generalize decide (o.host = loc9) = b2
      generalize o.secure = b3
      generalize wthn o.host rp = b4
      generalize decide (pub l o.host < ((labs rp).length : Int)) = b5
      cases b1 <;> cases b2 <;> cases b3 <;> cases b4 <;> cases b5 <;> rfl
theorem rPermits_ok (l : List ApiSuffix) (o : ApiOrigin) (rp : List UInt8) (hr : ∀ x ∈ l, x.labels.length ≤ 1000000) : passkeyref23_Permits l o rp = some ((), permV l o rp, ()) := by
  unfold passkeyref23_Permits permV
  simp only [rValidate_ok, rWithin_ok, rLabels_ok, bindS]
  rw [rPublic_ok l o.host hr]
  simp only [bindS]
  cases decide (vali o.host = 0)
  · rfl
  · cases decide (vali rp = 0)
    · rfl
    · simp only [Bool.not_true, cond_false]
      generalize decide (rp = loc9) = b1
      generalize decide (o.host = loc9) = b2
      generalize o.secure = b3
      generalize wthn o.host rp = b4
      generalize decide (pub l o.host < ((labs rp).length : Int)) = b5
      cases b1 <;> cases b2 <;> cases b3 <;> cases b4 <;> cases b5 <;> rfl
theorem OriginPermits_L2_ok (x : List UInt8) (l : List ApiSuffix) (n m k : Int) (o : ApiOrigin) (i : Int) (h0 : 0 ≤ i) (hi : i < l.length) : Ok (passkeylaw24_OriginPermits_L2 (x, l, n, m, k, (o, ()), i, 0, 0, ())) fun z => z = .inl (true, ()) ∨ (z = .inr (x, l, n, m, k, (o, ()), i, ()) ∧ (ati l i).labels.length ≤ 500) := by
  unfold passkeylaw24_OriginPermits_L2
  refine Ok.iter (fun q => q.1 = x ∧ q.2.1 = l ∧ q.2.2.1 = n ∧ q.2.2.2.1 = m ∧ q.2.2.2.2.1 = k ∧ q.2.2.2.2.2.1 = (o, ()) ∧ q.2.2.2.2.2.2.1 = i ∧ 0 ≤ q.2.2.2.2.2.2.2.2.1 ∧ q.2.2.2.2.2.2.2.2.1 ≤ (ati l i).labels.length ∧ q.2.2.2.2.2.2.2.2.1 ≤ q.2.2.2.2.2.2.2.1 ∧ q.2.2.2.2.2.2.2.1 ≤ 500) (fun q => (501 - q.2.2.2.2.2.2.2.1).toNat) ⟨rfl, rfl, rfl, rfl, rfl, rfl, rfl, by simp, by simp, by simp, by simp⟩ (by rw [rounds_eq]; dsimp only; omega) ?_
  rintro ⟨y0, y1, y2, y3, y4, ⟨y5, u5⟩, y6, y7, y8, u⟩ ⟨e1, e2, e3, e4, e5, e6, e7, e8, e9, e10, e11⟩
  dsimp only at *
  simp only [Prod.mk.injEq, and_true] at e6
  subst e1; subst e2; subst e3; subst e4; subst e5; subst e6; subst e7
  simp only [passkeylaw24_OriginPermits_L2b]
  rw [getI_some h0 hi]
  simp only [bindS]
  refine Ok.cond (fun hc => ?_) (fun hc => ?_)
  · simp only [decide_eq_true_eq] at hc
    rw [getI_some e8 hc]
    simp only [bindS]
    obtain ⟨v, hv, hv0, hv1⟩ : ∃ v : Int, (bif decide ((500 : Int) < ((ati (ati y1 y6).labels y8).length : Int)) then (500 : Int) else ((ati (ati y1 y6).labels y8).length : Int)) = v ∧ 0 ≤ v ∧ v ≤ 500 := by
      refine ⟨_, rfl, ?_, ?_⟩
      · by_cases h : (500 : Int) < ((ati (ati y1 y6).labels y8).length : Int) <;> simp [h]
      · by_cases h : (500 : Int) < ((ati (ati y1 y6).labels y8).length : Int)
        · simp [h]
        · simp only [h, decide_false, cond_false]; omega
    rw [hv, wrap_id (n := v + 1) (by omega) (by omega), wrap_id (n := y7 + (v + 1)) (by omega) (by omega), wrap_id (n := y8 + 1) (by omega) (by omega)]
    refine Ok.cond (fun _ => ?_) (fun hq => ?_)
    · rw [awake_ok]
      simp only [bindS]
      refine Ok.some ?_
      dsimp only
      exact .inl rfl
    · simp only [decide_eq_false_iff_not] at hq
      refine Ok.some ?_
      dsimp only
      exact ⟨⟨rfl, rfl, rfl, rfl, rfl, rfl, rfl, by omega, by omega, by omega, by omega⟩, by omega⟩
  · simp only [decide_eq_false_iff_not] at hc
    refine Ok.some ?_
    dsimp only
    exact .inr ⟨rfl, by omega⟩
theorem OriginPermits_plain (a0 : ApiOrigin) (a1 : List UInt8) (a2 : List ApiSuffix) (a3 a4 a5 : Int) (hd : OriginPermits_dom a0 a1 a2 a3 a4 a5) : Ok (passkeylaw24_OriginPermits a0 a1 a2 a3 a4 a5) fun r => r.2.1 = true := by
  unfold passkeylaw24_OriginPermits
  refine Ok.cond (fun _ => awakeOk) (fun h0 => ?_)
  refine Ok.cond (fun _ => awakeOk) (fun h1 => ?_)
  refine Ok.cond (fun _ => awakeOk) (fun h2 => ?_)
  have h2 : a2.length ≤ 70 := by simp at h2; omega
  refine Ok.bind ?_
  unfold passkeylaw24_OriginPermits_L0
  refine Ok.mono (Q := fun z => z = .inl (true, ()) ∨ (z = .inr (a1, a2, a3, a4, a5, (a0, ()), ()) ∧ ∀ s ∈ a2, s.labels.length ≤ 1000000)) (Ok.iter (fun q => q.1 = a1 ∧ q.2.1 = a2 ∧ q.2.2.1 = a3 ∧ q.2.2.2.1 = a4 ∧ q.2.2.2.2.1 = a5 ∧ q.2.2.2.2.2.1 = (a0, ()) ∧ 0 ≤ q.2.2.2.2.2.2.1 ∧ q.2.2.2.2.2.2.1 ≤ a2.length ∧ ∀ j : Int, 0 ≤ j → j < q.2.2.2.2.2.2.1 → (ati a2 j).labels.length ≤ 500) (fun q => a2.length - q.2.2.2.2.2.2.1.toNat) ⟨rfl, rfl, rfl, rfl, rfl, rfl, by simp, by simp, by intro j h1 h2; dsimp only at h2; omega⟩ (by rw [rounds_eq]; dsimp only; omega) ?_) ?_
  · rintro ⟨y0, y1, y2, y3, y4, ⟨y5, u5⟩, i, u⟩ ⟨e1, e2, e3, e4, e5, e6, e7, e8, e9⟩
    dsimp only at *
    simp only [Prod.mk.injEq, and_true] at e6
    subst e1; subst e2; subst e3; subst e4; subst e5; subst e6
    simp only [passkeylaw24_OriginPermits_L0b]
    refine Ok.cond (fun hc => ?_) (fun hc => ?_)
    · simp only [decide_eq_true_eq] at hc
      refine Ok.bind (Ok.mono (OriginPermits_L2_ok y0 y1 y2 y3 y4 y5 i e7 hc) ?_)
      rintro z (rfl | ⟨rfl, hz⟩)
      · simp only [Sum.elim_inl]
        refine Ok.some ?_
        dsimp only
        exact .inl rfl
      · simp only [Sum.elim_inr]
        rw [wrap_id (n := i + 1) (by omega) (by omega)]
        refine Ok.some ?_
        dsimp only
        refine ⟨⟨rfl, rfl, rfl, rfl, rfl, rfl, by omega, by omega, fun j h1 h2 => ?_⟩, by omega⟩
        by_cases hj : j = i
        · subst hj; exact hz
        · exact e9 j h1 (by omega)
    · simp only [decide_eq_false_iff_not] at hc
      refine Ok.some ?_
      dsimp only
      refine .inr ⟨rfl, fun s hs => ?_⟩
      obtain ⟨j, hj, rfl⟩ := List.mem_iff_getElem.1 hs
      have := e9 j (by omega) (by omega)
      simp only [ati, Int.toNat_natCast, List.getD_eq_getElem?_getD, List.getElem?_eq_getElem hj, Option.getD_some] at this
      omega
  · rintro z (rfl | ⟨rfl, hz⟩)
    · exact Ok.some rfl
    · simp only [Sum.elim_inr]
      obtain ⟨r, hr, hrl, hrr⟩ := Rules_ok a3
      have hr2 : ∀ s ∈ r, s.labels.length ≤ 1000000 := fun s hs => by
        obtain ⟨j, hj, _⟩ := hrr s hs
        have := all8_len hj; omega
      obtain ⟨k, hk, ek⟩ := Mod_ok a4 8192 (by omega) (by omega)
      rw [show ((8192 : Nat) : Int) = 8192 from rfl] at ek
      obtain ⟨o, ho, hol⟩ := Origin_ok (k : Int) (by omega) (by omega)
      obtain ⟨x, hx, hxl⟩ := Host_ok a5
      simp only [hr, ek, ho, hx, bindS, Permits_ok]
      rw [rPermits_ok a2 a0 a1 hz, rPermits_ok r o x hr2, rPermits_ok r o o.host hr2, rPermits_ok r a0 a1 hr2]
      simp only [bindS, decide_true, cond_true]
      exact awakeOk

/-! ### OriginSame -/
theorem within_reg {r : List ApiSuffix} {h rp : List UInt8} (hw : wthn h rp = true) (hp : pub r h < ((labs rp).length : Int)) : reg r rp = reg r h ∧ (reg r h).2 = true := by
  unfold wthn at hw
  simp only [Bool.and_eq_true, decide_eq_true_eq] at hw
  obtain ⟨hv, hv2, he⟩ := hw
  rw [labs_of hv2] at hp
  obtain ⟨e1, e2⟩ := endsL_iff.1 he
  have h0 := (pub_le r h).1
  have hN := pub_eq (l := r) hv
  have hs0 := spl_ne 46 h
  have hj : rp = joinD ((spl 46 h).drop ((spl 46 h).length - (spl 46 rp).length)) := by rw [e2, joinD_spl]
  have hreg : reg r h = (joinD ((spl 46 h).drop ((spl 46 h).length - (pub r h).toNat - 1)), true) := by
    unfold reg
    rw [labs_of hv, show decide (((spl 46 h).length : Int) ≤ pub r h) = false by simp; omega]
    rfl
  have hpub : pub r rp = pub r h := by
    rw [pub_eq hv2, hN, ← e2]
    exact pubN_drop (by rw [← hN]; omega) (List.length_pos_iff.2 hs0)
  refine ⟨?_, by rw [hreg]⟩
  rw [hreg]
  unfold reg
  rw [labs_of hv2, hpub, show decide (((spl 46 rp).length : Int) ≤ pub r h) = false by simp; omega]
  simp only [cond_false]
  congr 2
  conv => lhs; rw [← e2]
  rw [List.drop_drop]
  congr 1
  rw [e2]
  omega
theorem perm_zero {l : List ApiSuffix} {o : ApiOrigin} {rp : List UInt8} (h : permV l o rp = 0) (hl : o.host ≠ loc9) : wthn o.host rp = true ∧ pub l o.host < ((labs rp).length : Int) := by
  unfold permV at h
  by_cases h1 : vali o.host = 0
  · by_cases h2 : vali rp = 0
    · rw [show decide (vali o.host = 0) = true by simpa using h1, show decide (vali rp = 0) = true by simpa using h2, show decide (o.host = loc9) = false by simpa using hl] at h
      simp only [Bool.not_true, cond_false, Bool.and_false, Bool.false_or] at h
      cases hq : (o.secure && (wthn o.host rp && decide (pub l o.host < ((labs rp).length : Int))))
      · rw [hq] at h; simp at h
      · simp only [Bool.and_eq_true, decide_eq_true_eq] at hq
        exact hq.2
    · rw [show decide (vali o.host = 0) = true by simpa using h1, show decide (vali rp = 0) = false by simpa using h2] at h
      exact absurd h h2
  · rw [show decide (vali o.host = 0) = false by simpa using h1] at h
    exact absurd h h1
theorem Same_step (y0 : List UInt8) (y1 y2 y3 : Int) (r : List ApiSuffix) (rp q : List UInt8) (y7 : List (List UInt8)) (y8 y9 : Int) (L : List (List UInt8)) (hq : q ≠ loc9) (i : Int) (h0 : 0 ≤ i) (hL : L.length = 3) (hi : i < 3) : passkeylaw24_OriginSame_L2b y0 y1 y2 y3 r rp (⟨true, q, 443⟩, ()) y7 y8 y9 L 3 i = some (.inl (y0, y1, y2, y3, r, rp, (⟨true, q, 443⟩, ()), y7, y8, y9, L, 3, i + 1, ())) := by
  simp only [passkeylaw24_OriginSame_L2b]
  rw [show decide (i < 3) = true by simpa using hi, show (decide ((0 : Int) ≤ i) && decide (i < (L.length : Int))) = true by simp; omega, List.getElem?_eq_getElem (show i.toNat < L.length by omega), wrap_id (n := i + 1) (by omega) (by omega)]
  simp only [cond_true, bindS, Permits_ok, Registrable_ok]
  generalize L[i.toNat]'(by omega) = h
  by_cases hp : permV r ⟨true, h, 443⟩ rp = 0
  · by_cases hl : h = loc9
    · simp [hp, hl]
    · obtain ⟨w1, w2⟩ := perm_zero hp hl
      obtain ⟨g1, g2⟩ := within_reg w1 w2
      dsimp only at w1 w2
      rw [show decide (h = [108, 111, 99, 97, 108, 104, 111, 115, 116]) = false by simpa using hl]
      simp only [hp, decide_true, Bool.not_true, cond_false, g1, g2]
      by_cases hp2 : permV r ⟨true, q, 443⟩ rp = 0
      · obtain ⟨v1, v2⟩ := perm_zero hp2 hq
        obtain ⟨k1, k2⟩ := within_reg v1 v2
        dsimp only at v1 v2 k1 k2
        have : reg r q = reg r h := by rw [← k1, g1]
        rw [this, g2]
        simp [hp2]
      · simp [hp2]
  · simp [hp]
theorem Same_L2_ok (y0 : List UInt8) (y1 y2 y3 : Int) (r : List ApiSuffix) (rp q : List UInt8) (y7 : List (List UInt8)) (y8 y9 : Int) (L : List (List UInt8)) (hq : q ≠ loc9) (hL : L.length = 3) : passkeylaw24_OriginSame_L2 (y0, y1, y2, y3, r, rp, (⟨true, q, 443⟩, ()), y7, y8, y9, L, 3, 0, ()) = some (.inr (y0, y1, y2, y3, r, y7, y8, y9, ())) := by
  unfold passkeylaw24_OriginSame_L2
  rw [rounds_eq]
  rw [show (1180591620717411303424 : Nat) = 1180591620717411303420 + 1 + 1 + 1 + 1 from rfl]
  rw [iter_succ, Same_step _ _ _ _ _ _ _ _ _ _ _ hq 0 (by omega) hL (by omega), bindS, Sum.elim_inl, iter_succ]
  rw [show ((0 : Int) + 1) = 1 from rfl, Same_step _ _ _ _ _ _ _ _ _ _ _ hq 1 (by omega) hL (by omega), bindS, Sum.elim_inl, iter_succ]
  rw [show ((1 : Int) + 1) = 2 from rfl, Same_step _ _ _ _ _ _ _ _ _ _ _ hq 2 (by omega) hL (by omega), bindS, Sum.elim_inl, iter_succ]
  rfl
theorem OriginSame_plain (a0 : Int) (a1 a2 : List UInt8) (a3 a4 a5 : Int) (hd : OriginSame_dom a0 a1 a2 a3 a4 a5) : Ok (passkeylaw24_OriginSame a0 a1 a2 a3 a4 a5) fun r => r.2.1 = true := by
  unfold passkeylaw24_OriginSame
  refine Ok.cond (fun _ => awakeOk) (fun h0 => ?_)
  refine Ok.cond (fun _ => awakeOk) (fun h1 => ?_)
  obtain ⟨r, hr, hrl, hrr⟩ := Rules_ok a0
  obtain ⟨x3, hx3, hl3⟩ := Host_ok a3
  obtain ⟨x4, hx4, hl4⟩ := Host_ok a4
  obtain ⟨x5, hx5, hl5⟩ := Host_ok a5
  simp only [hr, hx5, bindS]
  have step : ∀ (i : Int) (rp : List UInt8), 0 ≤ i → i < 2 → ([a1, x5] : List (List UInt8))[i.toNat]? = some rp → passkeylaw24_OriginSame_L0b a2 a3 a4 a5 r [a1, x5] 2 i = some (.inl (a2, a3, a4, a5, r, [a1, x5], 2, i + 1, ())) := by
    intro i rp hi0 hi2 hg
    simp only [passkeylaw24_OriginSame_L0b]
    rw [show decide (i < 2) = true by simpa using hi2, show (decide ((0 : Int) ≤ i) && decide (i < (([a1, x5] : List (List UInt8)).length : Int))) = true by simp; omega, hg]
    simp only [cond_true, bindS, hx3, hx4, hx5]
    rw [ble_of (show ([113, 46] : List UInt8).length + x3.length ≤ 9223372036854775807 by simp; omega), ble_of (show ([122, 46] : List UInt8).length + x5.length ≤ 9223372036854775807 by simp; omega)]
    simp only [cond_true]
    rw [Same_L2_ok _ _ _ _ _ _ _ _ _ _ _ (by simp) rfl]
    simp only [bindS, Sum.elim_inr]
    rw [wrap_id (n := i + 1) (by omega) (by omega)]
  have hL : passkeylaw24_OriginSame_L0 (a2, a3, a4, a5, r, [a1, x5], 2, 0, ()) = some (.inr ()) := by
    unfold passkeylaw24_OriginSame_L0
    rw [rounds_eq]
    rw [show (1180591620717411303424 : Nat) = 1180591620717411303421 + 1 + 1 + 1 from rfl]
    rw [iter_succ, step 0 a1 (by omega) (by omega) rfl, bindS, Sum.elim_inl, iter_succ]
    rw [show ((0 : Int) + 1) = 1 from rfl, step 1 x5 (by omega) (by omega) rfl, bindS, Sum.elim_inl, iter_succ]
    rfl
  rw [hL]
  simp only [bindS, Sum.elim_inr]
  exact awakeOk
end Go.Proofs.YtcapoikhcbnkjaaDoor

/- The laws HostRulesBack, HostMore and HostBetween, plainly. No condition. -/
import Derived.Test.YtbdpgpnfpjodfaaDoorHostE
set_option linter.unusedVariables false
set_option linter.unusedSimpArgs false
set_option maxRecDepth 100000
namespace Go.Proofs.YtbdpgpnfpjodfaaDoor
open Go Go.Abs

/-! ### cutting and joining -/
theorem joinD_spl (c : List UInt8) : joinD (spl 46 c) = c := by
  induction c with
  | nil => rfl
  | cons x r ih =>
    unfold spl
    have hne := spl_ne 46 r
    split
    · rename_i hx
      subst hx
      cases hs : spl 46 r with
      | nil => exact absurd hs hne
      | cons p ps =>
        rw [joinD_cons, ← hs, ih]; rfl
    · cases hs : spl 46 r with
      | nil => exact absurd hs hne
      | cons p ps =>
        rw [hs] at ih
        dsimp only
        cases ps with
        | nil =>
          rw [joinD_one] at ih ⊢
          rw [ih]
        | cons q qs =>
          rw [joinD_cons] at ih ⊢
          rw [List.cons_append, ih]
theorem spl_joinD : ∀ L : List (List UInt8), L ≠ [] → (∀ x ∈ L, (46 : UInt8) ∉ x) → spl 46 (joinD L) = L
  | [], h, _ => absurd rfl h
  | [x], _, h => by rw [joinD_one]; exact spl_free (h x (by simp))
  | x :: y :: r, _, h => by
    rw [joinD_cons, spl_app _ (h x (by simp)), spl_joinD (y :: r) (by simp) (fun z hz => h z (by simp only [List.mem_cons] at hz ⊢; exact .inr hz))]
theorem lab_free {x : List UInt8} (h : lab x = true) : (46 : UInt8) ∉ x := by
  intro hm
  unfold lab at h
  simp only [Bool.and_eq_true] at h
  have := List.all_eq_true.1 h.2.2 46 hm
  exact absurd this (by decide)
theorem vali_iff {s : List UInt8} : vali s = 0 ↔ s.length ≤ 100 ∧ (∀ x ∈ spl 46 s, lab x = true) ∧ (lastL (spl 46 s)).all isDig = false := by
  unfold vali
  by_cases h : 100 < s.length
  · simp only [h, decide_true, cond_true]
    constructor
    · intro e; omega
    · intro e; omega
  · simp only [h, decide_false, cond_false]
    cases ha : (spl 46 s).all lab
    · simp only [cond_false]
      constructor
      · intro e; omega
      · rintro ⟨_, h2, _⟩
        have : (spl 46 s).all lab = true := List.all_eq_true.2 h2
        rw [ha] at this; cases this
    · cases hd : (lastL (spl 46 s)).all isDig
      · simp only [cond_true, cond_false, true_iff, and_true]
        exact ⟨by omega, List.all_eq_true.1 ha⟩
      · simp only [cond_true]
        constructor
        · intro e; omega
        · rintro ⟨_, _, h3⟩; cases h3
theorem labs_of {s : List UInt8} (h : vali s = 0) : labs s = spl 46 s := by unfold labs; simp [h]
theorem labs_nil {s : List UInt8} (h : labs s ≠ []) : vali s = 0 := by
  unfold labs at h
  by_cases hv : vali s = 0
  · exact hv
  · simp [hv] at h
theorem vali_nil : vali [] ≠ 0 := by decide
theorem fok_iff {s : ApiSuffix} : fok s = true ↔ (∀ x ∈ s.labels, lab x = true) ∧ vali (joinD s.labels) = 0 ∧ (s.wild && s.except) = false ∧ (s.except && decide (s.labels.length < 2)) = false := by
  unfold fok
  simp only [Bool.and_eq_true, List.all_eq_true, decide_eq_true_eq, Bool.not_eq_true']
theorem fok_ne {s : ApiSuffix} (h : fok s = true) : s.labels ≠ [] := by
  intro e
  have := (fok_iff.1 h).2.1
  rw [e, joinD_nil] at this
  exact vali_nil this
theorem fok_labs {s : ApiSuffix} (h : fok s = true) : labs (joinD s.labels) = s.labels := by
  obtain ⟨h1, h2, _⟩ := fok_iff.1 h
  rw [labs_of h2, spl_joinD _ (fok_ne h) fun x hx => lab_free (h1 x hx)]

/-! ### texts of rules and back -/
theorem parse_fmt {s : ApiSuffix} (h : fok s = true) : parse (ftext s) = (s, 0) := by
  obtain ⟨h1, h2, h3, h4⟩ := fok_iff.1 h
  have hne := fok_ne h
  have hl := fok_labs h
  obtain ⟨L, w, e⟩ := s
  dsimp only at *
  unfold ftext
  dsimp only
  cases w
  · cases e
    · simp only [cond_false, List.nil_append]
      have hj : ∃ c r, joinD L = c :: r ∧ inner c = true := by
        cases L with
        | nil => exact absurd rfl hne
        | cons x r =>
          have hx := h1 x (by simp)
          have hxl := (lab_len hx).1
          cases x with
          | nil => simp at hxl
          | cons c x =>
            have hc : inner c = true := by
              unfold lab at hx
              simp only [Bool.and_eq_true, List.all_cons] at hx
              exact hx.2.2.1
            cases r with
            | nil => exact ⟨c, x, by rw [joinD_one], hc⟩
            | cons y r => exact ⟨c, _, by rw [joinD_cons]; rfl, hc⟩
      obtain ⟨c, r, hj, hc⟩ := hj
      rw [hj] at hl ⊢
      have c1 : c ≠ 42 := by rintro rfl; exact absurd hc (by decide)
      have c2 : c ≠ 33 := by rintro rfl; exact absurd hc (by decide)
      unfold parse
      split
      · rename_i q heq
        simp only [List.cons.injEq] at heq
        exact absurd heq.1 c1
      · rename_i q heq
        simp only [List.cons.injEq] at heq
        exact absurd heq.1 c2
      · rw [hl]
        unfold ruleOf
        simp [hne]
    · simp only [cond_false, cond_true]
      rw [show parse ([33] ++ joinD L) = ruleOf (labs (joinD L)) false true from rfl, hl]
      unfold ruleOf
      have : ¬ L.length < 2 := by simpa using h4
      simp [hne, this]
  · have he : e = false := by simpa using h3
    subst he
    simp only [cond_true]
    rw [show parse ([42, 46] ++ joinD L) = ruleOf (labs (joinD L)) true false from rfl, hl]
    unfold ruleOf
    simp [hne]
theorem ruleOf_ok {L : List (List UInt8)} {w e : Bool} (h : (ruleOf L w e).2 = 0) : L ≠ [] ∧ (e = true → 2 ≤ L.length) ∧ ruleOf L w e = (⟨L, w, e⟩, 0) := by
  unfold ruleOf at h ⊢
  cases hq : (decide (L = []) || (e && decide (L.length < 2)))
  · simp only [cond_false]
    simp only [Bool.or_eq_false_iff, decide_eq_false_iff_not, Bool.and_eq_false_iff] at hq
    refine ⟨hq.1, fun he => ?_, trivial⟩
    rcases hq.2 with q | q
    · rw [he] at q; cases q
    · omega
  · rw [hq] at h
    simp at h
theorem fmt_parse {t : List UInt8} (h : (parse t).2 = 0) : fmt (parse t).1 = (t, 0) := by
  have key : ∀ (r : List UInt8) (w e : Bool), (w && e) = false → (ruleOf (labs r) w e).2 = 0 → fmt (ruleOf (labs r) w e).1 = ((bif w then [42, 46] else bif e then [33] else []) ++ r, 0) := fun r w e hwe h => by
    obtain ⟨h1, h2, h3⟩ := ruleOf_ok h
    have hv := labs_nil h1
    have hl := labs_of hv
    rw [h3]
    have hj : joinD (labs r) = r := by rw [hl, joinD_spl]
    have : fok ⟨labs r, w, e⟩ = true := by
      refine fok_iff.2 ⟨?_, ?_, hwe, ?_⟩
      · dsimp only
        rw [hl]
        exact (vali_iff.1 hv).2.1
      · dsimp only
        rw [hj]; exact hv
      · dsimp only
        cases e
        · rfl
        · have := h2 rfl
          simp; omega
    unfold fmt
    rw [this]
    simp only [cond_true, ftext]
    rw [hj]
  unfold parse at h ⊢
  split at h
  · rename_i r
    exact key r true false rfl h
  · rename_i r
    exact key r false true rfl h
  · rename_i h1 h2
    have := key t false false rfl h
    simpa using this
theorem HostRulesBack_plain (a0 a1 : Int) (a2 : List UInt8) (hd : HostRulesBack_dom a0 a1 a2) : Ok (passkeylaw23_HostRulesBack a0 a1 a2) fun r => r.2.1 = true := by
  unfold passkeylaw23_HostRulesBack
  refine Ok.cond (fun _ => awakeOk) (fun h0 => ?_)
  obtain ⟨x, hx, hxl⟩ := Host_ok a0
  simp only [hx, bindS, rLabels_ok, FormatRule_ok]
  generalize hs : (⟨labs x, decide (IntKind.wrap .i64 ((BitVec.ofInt (IntKind.bits .i64) a1 &&& BitVec.ofInt (IntKind.bits .i64) (3 : Int)).toNat : Int) = 1), decide (IntKind.wrap .i64 ((BitVec.ofInt (IntKind.bits .i64) a1 &&& BitVec.ofInt (IntKind.bits .i64) (3 : Int)).toNat : Int) = 2)⟩ : ApiSuffix) = s
  have last : Ok ((host_ParseRule a2).bind fun r10 => bif !decide (r10.2.2.1 = 0) then passkeylaw23_awake.bind fun r11 => some ((), r11.2.1, ()) else (host_FormatRule r10.2.1).bind fun r12 => bif decide (r12.2.2.1 = 0) then bif decide (r12.2.1 = a2) then passkeylaw23_awake.bind fun r13 => some ((), r13.2.1, ()) else some ((), false, ()) else some ((), false, ())) fun r => r.2.1 = true := by
    rw [ParseRule_ok]
    simp only [bindS, FormatRule_ok]
    by_cases hp : (parse a2).2 = 0
    · rw [fmt_parse hp]
      simp only [hp, decide_true, Bool.not_true, cond_false, cond_true]
      exact awakeOk
    · simp only [hp, decide_false, Bool.not_false, cond_true]
      exact awakeOk
  have hsl : s.labels.length < 1000000 := by
    rw [← hs]
    have := (labs_len x).1
    dsimp only
    omega
  rw [fmt_ok]
  simp only [ParseRule_ok, FormatRule_ok, bindS] at last
  cases hf : fok s
  · simp only [cond_false, bindS, Sum.elim_inl, ParseRule_ok]
    exact last
  · have e1 : (fmt s).1 = ftext s := by unfold fmt; rw [hf]; rfl
    rw [e1, ParseRule_ok, parse_fmt hf]
    simp only [cond_true, bindS, decide_true, Bool.not_true, cond_false]
    rw [SameRule_ok _ _ hsl]
    simp only [bindS, decide_true, Bool.not_true, cond_false, Sum.elim_inl, ParseRule_ok]
    exact last

/-! ### public suffixes, told by their properties -/
def wt (s : ApiSuffix) : Int := s.labels.length + (bif s.wild then 1 else 0)
theorem imax_cases (a b : Int) : imax a b = a ∨ imax a b = b := by
  unfold imax
  cases decide (a < b)
  · exact .inl rfl
  · exact .inr rfl
structure Told (L : List (List UInt8)) (l : List ApiSuffix) (p q : Int × Int) : Prop where
  le1 : p.1 ≤ q.1
  le2 : p.2 ≤ q.2
  all1 : ∀ s ∈ l, mat s L = true → s.except = false → wt s ≤ q.1
  all2 : ∀ s ∈ l, mat s L = true → s.except = true → (s.labels.length : Int) ≤ q.2
  one1 : q.1 = p.1 ∨ ∃ s ∈ l, mat s L = true ∧ s.except = false ∧ q.1 = wt s
  one2 : q.2 = p.2 ∨ ∃ s ∈ l, mat s L = true ∧ s.except = true ∧ q.2 = (s.labels.length : Int)
theorem told (L : List (List UInt8)) : ∀ (l : List ApiSuffix) (p : Int × Int), Told L l p (l.foldl (pubStep L) p)
  | [], p => ⟨Int.le_refl _, Int.le_refl _, by simp, by simp, .inl rfl, .inl rfl⟩
  | s :: r, p => by
    have h := told L r (pubStep L p s)
    rw [List.foldl_cons]
    generalize r.foldl (pubStep L) (pubStep L p s) = q at h
    unfold pubStep at h
    cases hm : mat s L
    · rw [hm] at h
      simp only [cond_false] at h
      refine ⟨h.le1, h.le2, ?_, ?_, ?_, ?_⟩
      · intro x hx hmx hex
        rcases List.mem_cons.1 hx with rfl | hx
        · rw [hm] at hmx; cases hmx
        · exact h.all1 x hx hmx hex
      · intro x hx hmx hex
        rcases List.mem_cons.1 hx with rfl | hx
        · rw [hm] at hmx; cases hmx
        · exact h.all2 x hx hmx hex
      · rcases h.one1 with e | ⟨x, hx, e⟩
        · exact .inl e
        · exact .inr ⟨x, List.mem_cons_of_mem _ hx, e⟩
      · rcases h.one2 with e | ⟨x, hx, e⟩
        · exact .inl e
        · exact .inr ⟨x, List.mem_cons_of_mem _ hx, e⟩
    · rw [hm] at h
      simp only [cond_true] at h
      cases he : s.except
      · rw [he] at h
        simp only [cond_false] at h
        have g1 := imax_ge1 p.1 (wt s)
        have g2 := imax_ge2 p.1 (wt s)
        have g3 := imax_cases p.1 (wt s)
        obtain ⟨t1, t2, t3, t4, t5, t6⟩ := h
        change imax p.1 (wt s) ≤ q.1 at t1
        change q.1 = imax p.1 (wt s) ∨ _ at t5
        refine ⟨Int.le_trans g1 t1, t2, ?_, ?_, ?_, ?_⟩
        · intro x hx hmx hex
          rcases List.mem_cons.1 hx with rfl | hx
          · exact Int.le_trans g2 t1
          · exact t3 x hx hmx hex
        · intro x hx hmx hex
          rcases List.mem_cons.1 hx with rfl | hx
          · rw [he] at hex; cases hex
          · exact t4 x hx hmx hex
        · rcases t5 with e | ⟨x, hx, e⟩
          · rcases g3 with g | g
            · exact .inl (by rw [e, g])
            · exact .inr ⟨s, by simp, hm, he, by rw [e, g]⟩
          · exact .inr ⟨x, List.mem_cons_of_mem _ hx, e⟩
        · rcases t6 with e | ⟨x, hx, e⟩
          · exact .inl e
          · exact .inr ⟨x, List.mem_cons_of_mem _ hx, e⟩
      · rw [he] at h
        simp only [cond_true] at h
        have g1 := imax_ge1 p.2 (s.labels.length : Int)
        have g2 := imax_ge2 p.2 (s.labels.length : Int)
        have g3 := imax_cases p.2 (s.labels.length : Int)
        obtain ⟨t1, t2, t3, t4, t5, t6⟩ := h
        change imax p.2 (s.labels.length : Int) ≤ q.2 at t2
        change q.2 = imax p.2 (s.labels.length : Int) ∨ _ at t6
        refine ⟨t1, Int.le_trans g1 t2, ?_, ?_, ?_, ?_⟩
        · intro x hx hmx hex
          rcases List.mem_cons.1 hx with rfl | hx
          · rw [he] at hex; cases hex
          · exact t3 x hx hmx hex
        · intro x hx hmx hex
          rcases List.mem_cons.1 hx with rfl | hx
          · exact Int.le_trans g2 t2
          · exact t4 x hx hmx hex
        · rcases t5 with e | ⟨x, hx, e⟩
          · exact .inl e
          · exact .inr ⟨x, List.mem_cons_of_mem _ hx, e⟩
        · rcases t6 with e | ⟨x, hx, e⟩
          · rcases g3 with g | g
            · exact .inl (by rw [e, g])
            · exact .inr ⟨s, by simp, hm, he, by rw [e, g]⟩
          · exact .inr ⟨x, List.mem_cons_of_mem _ hx, e⟩
theorem told2 (L : List (List UInt8)) (l : List ApiSuffix) : Told L (l.take 64) (1, 0) (pub2 L l) := told L _ _

/-! ### HostMore -/
theorem wrapX (X : BitVec 64) : IntKind.wrap .i64 (X.toNat : Int) = X.toInt := by
  have h := X.isLt
  rw [BitVec.toInt_eq_toNat_cond]
  simp only [IntKind.wrap, IntKind.bits, IntKind.signed]
  simp
  split <;> omega
theorem incl_set (a : Int) (i : Nat) (hi : i < 64) (hb : (BitVec.ofInt 64 144).getLsbD i = true) : incl (IntKind.wrap .i64 ((BitVec.ofInt (IntKind.bits .i64) a ||| BitVec.ofInt (IntKind.bits .i64) (144 : Int)).toNat : Int)) i = false := by
  unfold incl
  change decide (IntKind.wrap .i64 ((BitVec.ofInt 64 (Int.fdiv (IntKind.wrap .i64 ((BitVec.ofInt 64 a ||| BitVec.ofInt 64 144).toNat : Int)) (2 ^ (min (BitVec.ofInt 64 (i : Int)).toNat 64))) &&& BitVec.ofInt 64 1).toNat : Int) = 0) = false
  have e : (BitVec.ofInt 64 (i : Int)).toNat = i := by
    rw [BitVec.ofInt_natCast, BitVec.toNat_ofNat, Nat.mod_eq_of_lt (by omega)]
  rw [wrapX, wrapX, e, show min i 64 = i by omega]
  generalize hX : (BitVec.ofInt 64 a ||| BitVec.ofInt 64 144) = X
  have hXb : X.getLsbD i = true := by rw [← hX, BitVec.getLsbD_or, hb, Bool.or_true]
  have e2 : Int.fdiv X.toInt (2 ^ i) = (X.sshiftRight i).toInt := by
    rw [BitVec.toInt_sshiftRight, Int.shiftRight_eq_div_pow, Int.fdiv_eq_ediv_of_nonneg _ (by exact Int.le_of_lt (Int.pow_pos (by omega)))]
    simp
  rw [e2, BitVec.ofInt_toInt, decide_eq_false_iff_not]
  intro h
  have h2 : X.sshiftRight i &&& BitVec.ofInt 64 1 = 0#64 := by
    apply BitVec.eq_of_toInt_eq
    rw [h]; rfl
  have h3 := congrArg (fun z => z.getLsbD 0) h2
  simp only [BitVec.getLsbD_and, BitVec.getLsbD_sshiftRight] at h3
  simp [hXb] at h3
  omega
theorem pub_more {l m : List ApiSuffix} {s : List UInt8} (hl : l.length ≤ 64) (hm : m.length ≤ 64) (hsub : ∀ x ∈ l, x ∈ m) (h1 : ∀ x ∈ m, x.except = false) : pub l s ≤ pub m s := by
  unfold pub
  by_cases h : labs s = []
  · simp [h]
  · simp only [h, decide_false, cond_false]
    have t1 := told2 (labs s) l
    have t2 := told2 (labs s) m
    rw [List.take_of_length_le hl] at t1
    rw [List.take_of_length_le hm] at t2
    have z1 : (pub2 (labs s) l).2 = 0 := by
      rcases t1.one2 with e | ⟨x, hx, _, e, _⟩
      · exact e
      · rw [h1 x (hsub x hx)] at e; cases e
    have z2 : (pub2 (labs s) m).2 = 0 := by
      rcases t2.one2 with e | ⟨x, hx, _, e, _⟩
      · exact e
      · rw [h1 x hx] at e; cases e
    rw [z1, z2]
    simp only [Int.lt_irrefl, decide_false, cond_false]
    rcases t1.one1 with e | ⟨x, hx, hm1, he1, e⟩
    · rw [e]; exact t2.le1
    · rw [e]; exact t2.all1 x (hsub x hx) hm1 he1
theorem HostMore_L0_ok (m k : Int) (r : List ApiSuffix) (hr : r.length ≤ 8) : passkeylaw23_HostMore_L0 (m, k, r, [], 0, ()) = some (m, k, r, r.reverse, ()) := by
  unfold passkeylaw23_HostMore_L0
  rw [iter_scan (fun i (a : List ApiSuffix) => (m, k, r, a, i, ())) r (fun _ x a => .inl (x :: a)) (fun a => (m, k, r, a, ())) (fun i a => a.length ≤ i) ?_ ?_ [] (by simp) rounds (by rw [rounds_eq]; omega)]
  · rw [scan_fold (fun a x => x :: a)]
    have : ∀ (l a : List ApiSuffix), l.foldl (fun a x => x :: a) a = l.reverse ++ a := by
      intro l
      induction l with
      | nil => intro a; rfl
      | cons x l ih => intro a; rw [List.foldl_cons, ih]; simp
    rw [this, List.append_nil]
  · intro i x a hx ha
    obtain ⟨hi, hx'⟩ := List.getElem?_eq_some_iff.1 hx
    refine ⟨?_, fun a' e => by cases e; simp; omega⟩
    simp only [passkeylaw23_HostMore_L0b]
    rw [show (decide ((0 : Int) ≤ (i : Int)) && decide ((i : Int) < (r.length : Int))) = true by simp; omega, show decide ((i : Int) < (r.length : Int)) = true by simp; omega, Int.toNat_natCast, hx, wrap_id (n := (i : Int) + 1) (by omega) (by omega)]
    simp only [cond_true, bindS]
    rw [small32 (by simp; omega)]
    rfl
  · intro a _
    simp only [passkeylaw23_HostMore_L0b]
    simp
theorem HostMore_plain (a0 a1 a2 : Int) (hd : HostMore_dom a0 a1 a2) : Ok (passkeylaw23_HostMore a0 a1 a2) fun r => r.2.1 = true := by
  unfold passkeylaw23_HostMore
  obtain ⟨r, hr, hrl, hrr⟩ := Rules_ok (IntKind.wrap .i64 ((BitVec.ofInt (IntKind.bits .i64) a0 ||| BitVec.ofInt (IntKind.bits .i64) (144 : Int)).toNat : Int))
  have hne : ∀ s ∈ r, s.except = false := by
    intro s hs
    obtain ⟨j, h1, h2⟩ := hrr s hs
    have hj : j < 8 := (List.getElem?_eq_some_iff.1 h1).1
    by_cases j4 : j = 4
    · subst j4; rw [incl_set a0 4 (by omega) (by decide)] at h2; cases h2
    · by_cases j7 : j = 7
      · subst j7; rw [incl_set a0 7 (by omega) (by decide)] at h2; cases h2
      · have : j = 0 ∨ j = 1 ∨ j = 2 ∨ j = 3 ∨ j = 5 ∨ j = 6 := by omega
        rcases this with rfl | rfl | rfl | rfl | rfl | rfl <;> (simp only [all8] at h1; cases h1; rfl)
  obtain ⟨x, hx, hxl⟩ := Host_ok a1
  obtain ⟨y, hy, hyl⟩ := Host_ok a2
  simp only [hr, bindS]
  rw [HostMore_L0_ok _ _ _ hrl]
  simp only [hx, hy, bindS, rLabels_ok, Public_ok, Labels_ok]
  rw [small32 (by omega), small32 (by simp; omega)]
  simp only [cond_true]
  generalize hs : ({ labels := labs y, wild := decide (IntKind.wrap .i64 ((BitVec.ofInt (IntKind.bits .i64) a2 &&& BitVec.ofInt (IntKind.bits .i64) (64 : Int)).toNat : Int) = 64), except := false } : ApiSuffix) = s
  have hse : s.except = false := by rw [← hs]
  have e1 : pub r x = pub r.reverse x := Int.le_antisymm (pub_more (by omega) (by simp; omega) (by simp) (by simpa using hne)) (pub_more (by simp; omega) (by omega) (by simp) hne)
  have e2 : pub r x ≤ pub (r ++ [s]) x := pub_more (by omega) (by simp; omega) (by intro z hz; simp [hz]) (by
    intro z hz
    rcases List.mem_append.1 hz with h | h
    · exact hne z h
    · simp only [List.mem_singleton] at h; rw [h]; exact hse)
  have e3 := (pub_le (r ++ [s]) x).2
  rw [show decide (pub r x = pub r.reverse x) = true by simpa using e1, show decide (pub r x ≤ pub (r ++ [s]) x) = true by simpa using e2, show decide (pub (r ++ [s]) x ≤ ((labs x).length : Int)) = true by simpa using e3]
  simp only [cond_true]
  exact awakeOk

/-! ### HostBetween -/
theorem endsL_iff {L M : List (List UInt8)} : endsL L M = true ↔ M.length ≤ L.length ∧ L.drop (L.length - M.length) = M := by
  unfold endsL; simp
theorem mat_iff {s : ApiSuffix} {L : List (List UInt8)} : mat s L = true ↔ fok s = true ∧ endsL L s.labels = true ∧ (s.wild = true → s.labels.length < L.length) := by
  unfold mat
  simp only [Bool.and_eq_true, Bool.or_eq_true, Bool.not_eq_true', decide_eq_true_eq]
  constructor
  · rintro ⟨h1, h2, h3⟩
    refine ⟨h1, h2, fun hw => ?_⟩
    rcases h3 with h | h
    · rw [hw] at h; cases h
    · exact h
  · rintro ⟨h1, h2, h3⟩
    refine ⟨h1, h2, ?_⟩
    cases hw : s.wild
    · exact .inl rfl
    · exact .inr (h3 hw)
theorem ends_drop {L M : List (List UInt8)} {k : Nat} (hk : k ≤ L.length) : endsL (L.drop k) M = true ↔ endsL L M = true ∧ M.length ≤ L.length - k := by
  rw [endsL_iff, endsL_iff, List.length_drop, List.drop_drop]
  constructor
  · rintro ⟨h1, h2⟩
    rw [show k + (L.length - k - M.length) = L.length - M.length by omega] at h2
    exact ⟨⟨by omega, h2⟩, h1⟩
  · rintro ⟨⟨h1, h2⟩, h3⟩
    refine ⟨h3, ?_⟩
    rwa [show k + (L.length - k - M.length) = L.length - M.length by omega]
theorem mat_drop {s : ApiSuffix} {L : List (List UInt8)} {k : Nat} (hk : k ≤ L.length) : mat s (L.drop k) = true ↔ mat s L = true ∧ s.labels.length ≤ L.length - k ∧ (s.wild = true → s.labels.length < L.length - k) := by
  rw [mat_iff, mat_iff, ends_drop hk, List.length_drop]
  constructor
  · rintro ⟨h1, ⟨h2, h3⟩, h4⟩
    exact ⟨⟨h1, h2, fun hw => by have := h4 hw; omega⟩, h3, h4⟩
  · rintro ⟨⟨h1, h2, _⟩, h3, h4⟩
    exact ⟨h1, ⟨h2, h3⟩, h4⟩
def pubN (L : List (List UInt8)) (l : List ApiSuffix) : Int := bif decide (0 < (pub2 L l).2) then (pub2 L l).2 - 1 else (pub2 L l).1
theorem pubN_drop {L : List (List UInt8)} {l : List ApiSuffix} {k : Nat} (hk : (k : Int) + pubN L l + 1 ≤ L.length) (hL : 1 ≤ L.length) : pubN (L.drop k) l = pubN L l := by
  have t1 := told2 L l
  have t2 := told2 (L.drop k) l
  have b1 := pub2_le hL l
  unfold pubN at *
  generalize pub2 L l = p at *
  generalize pub2 (L.drop k) l = q at *
  obtain ⟨p1, p2⟩ := p
  obtain ⟨q1, q2⟩ := q
  dsimp only at *
  by_cases h : 0 < p2
  · simp only [h, decide_true, cond_true] at hk ⊢
    have hkl : k ≤ L.length := by omega
    have e1 : p2 ≤ q2 := by
      rcases t1.one2 with e | ⟨s, hs, hm, he, e⟩
      · dsimp only at e; omega
      · dsimp only at e
        have m3 := (mat_len hm).2.2.1
        have hw : s.wild = false := by
          cases hw : s.wild
          · rfl
          · rw [hw, he] at m3; cases m3
        have := t2.all2 s hs ((mat_drop hkl).2 ⟨hm, by omega, fun hq => by rw [hw] at hq; cases hq⟩) he
        dsimp only at this
        omega
    have e2 : q2 ≤ p2 := by
      rcases t2.one2 with e | ⟨s, hs, hm, he, e⟩
      · dsimp only at e; omega
      · have := t1.all2 s hs ((mat_drop hkl).1 hm).1 he
        dsimp only at e this
        omega
    have : q2 = p2 := by omega
    subst this
    simp [h]
  · have hp0 : p2 = 0 := by omega
    subst hp0
    simp only [h, decide_false, cond_false] at hk ⊢
    have hkl : k ≤ L.length := by omega
    have hq0 : q2 = 0 := by
      rcases t2.one2 with e | ⟨s, hs, hm, he, e⟩
      · exact e
      · have m := ((mat_drop hkl).1 hm).1
        have := t1.all2 s hs m he
        have m4 := (mat_len m).2.2.2 he
        dsimp only at this
        omega
    subst hq0
    simp only [Int.lt_irrefl, decide_false, cond_false]
    apply Int.le_antisymm
    · rcases t2.one1 with e | ⟨s, hs, hm, he, e⟩
      · dsimp only at e; rw [e]; exact b1.1
      · dsimp only at e
        rw [e]
        exact t1.all1 s hs ((mat_drop hkl).1 hm).1 he
    · rcases t1.one1 with e | ⟨s, hs, hm, he, e⟩
      · dsimp only at e; rw [e]; exact t2.le1
      · dsimp only at e
        rw [e]
        refine t2.all1 s hs ((mat_drop hkl).2 ⟨hm, ?_, fun hw => ?_⟩) he
        · unfold wt at e
          cases hw : s.wild <;> simp [hw] at e <;> omega
        · unfold wt at e
          simp only [hw, cond_true] at e
          omega
theorem lastL_drop {L : List (List UInt8)} {k : Nat} (hk : k < L.length) : lastL (L.drop k) = lastL L := by
  unfold lastL
  rw [List.length_drop, List.getD_eq_getElem?_getD, List.getD_eq_getElem?_getD, List.getElem?_drop, show k + (L.length - k - 1) = L.length - 1 by omega]
theorem joinD_drop_le : ∀ (L : List (List UInt8)) (k : Nat), (joinD (L.drop k)).length ≤ (joinD L).length
  | L, 0 => by simp
  | [], k + 1 => by simp
  | [x], k + 1 => by simp [joinD_nil]
  | x :: y :: r, k + 1 => by
    rw [List.drop_succ_cons, joinD_cons]
    have := joinD_drop_le (y :: r) k
    simp only [List.length_append, List.length_cons]
    omega
theorem suffix_valid {x : List UInt8} (hv : vali x = 0) {k : Nat} (hk : k < (spl 46 x).length) : vali (joinD ((spl 46 x).drop k)) = 0 ∧ spl 46 (joinD ((spl 46 x).drop k)) = (spl 46 x).drop k := by
  obtain ⟨h1, h2, h3⟩ := vali_iff.1 hv
  have hs : spl 46 (joinD ((spl 46 x).drop k)) = (spl 46 x).drop k := by
    refine spl_joinD _ ?_ fun z hz => lab_free (h2 z (List.mem_of_mem_drop hz))
    intro e
    have := congrArg List.length e
    rw [List.length_drop, List.length_nil] at this
    omega
  refine ⟨vali_iff.2 ⟨?_, ?_, ?_⟩, hs⟩
  · have := joinD_drop_le (spl 46 x) k
    rw [joinD_spl] at this
    omega
  · rw [hs]; exact fun z hz => h2 z (List.mem_of_mem_drop hz)
  · rw [hs, lastL_drop hk]; exact h3
theorem pub_eq {l : List ApiSuffix} {s : List UInt8} (hv : vali s = 0) : pub l s = pubN (spl 46 s) l := by
  unfold pub pubN
  rw [labs_of hv]
  simp [spl_ne]
theorem HostBetween_plain (a0 a1 : Int) (a2 : List Int) (hd : HostBetween_dom a0 a1 a2) : Ok (passkeylaw23_HostBetween a0 a1 a2) fun r => r.2.1 = true := by
  unfold passkeylaw23_HostBetween
  obtain ⟨r, hr, hrl, hrr⟩ := Rules_ok a0
  obtain ⟨x0, hx0, hx0l⟩ := Host_ok a1
  simp only [hr, hx0, bindS]
  refine Ok.bind ?_
  unfold passkeylaw23_HostBetween_L0
  refine Ok.mono (Q := fun z => z.1 = r ∧ z.2.1.length ≤ 1000) (Ok.iter (fun q => q.1 = a2 ∧ q.2.1 = r ∧ 0 ≤ q.2.2.2.1 ∧ q.2.2.2.1 ≤ 4 ∧ (q.2.2.1.length : Int) ≤ 30 + 10 * q.2.2.2.1) (fun q => 4 - q.2.2.2.1.toNat) ⟨rfl, rfl, by simp, by simp, by simp; omega⟩ (by rw [rounds_eq]; dsimp only; omega) ?_) ?_
  · rintro ⟨y0, y1, y2, i, u⟩ ⟨e1, e2, e3, e4, e5⟩
    dsimp only at *
    subst e1; subst e2
    simp only [passkeylaw23_HostBetween_L0b]
    refine Ok.cond (fun hc => ?_) (fun hc => ?_)
    · refine Ok.cond (fun hc4 => ?_) (fun hc4 => ?_)
      · simp only [decide_eq_true_eq] at hc hc4
        rw [getI_some e3 hc]
        simp only [bindS]
        obtain ⟨k, hk, ek⟩ := Mod_ok (ati y0 i) 4 (by omega) (by omega)
        rw [show ((4 : Nat) : Int) = 4 from rfl] at ek
        rw [ek]
        simp only [bindS]
        rw [show (decide ((0 : Int) ≤ (k : Int)) && decide ((k : Int) < 4)) = true by simp; omega]
        simp only [cond_true, Int.toNat_natCast]
        generalize hL : ([[97], [119, 119, 119], [98, 45, 49], [99, 111]] : List (List UInt8)) = L
        have hl : L.length = 4 := by rw [← hL]; rfl
        have hb : ∀ x ∈ L, x.length ≤ 5 := by rw [← hL]; decide
        have hm := hb L[k] (List.getElem_mem (by omega))
        rw [List.getElem?_eq_getElem (by omega)]
        simp only [bindS]
        rw [ble_of (show L[k].length + ([46] : List UInt8).length ≤ 9223372036854775807 by simp; omega), ble_of (show (L[k] ++ ([46] : List UInt8)).length + y2.length ≤ 9223372036854775807 by simp; omega), wrap_id (n := i + 1) (by omega) (by omega)]
        refine Ok.some ?_
        dsimp only
        exact ⟨⟨rfl, rfl, by omega, by omega, by simp; omega⟩, by omega⟩
      · refine Ok.some ?_
        dsimp only
        exact ⟨rfl, by omega⟩
    · refine Ok.some ?_
      dsimp only
      exact ⟨rfl, by omega⟩
  · rintro ⟨z0, x, u⟩ ⟨e1, hxl⟩
    dsimp only at e1 hxl ⊢
    subst e1
    rw [Registrable_ok, Labels_ok]
    simp only [bindS]
    have hp := pub_le z0 x
    have hll := (labs_len x).1
    by_cases hc : ((labs x).length : Int) ≤ pub z0 x
    · have e1 : reg z0 x = ([], false) := by unfold reg; simp [hc]
      rw [e1]
      simp only [Bool.not_false, cond_true, Public_ok, bindS, hc, decide_true]
      exact awakeOk
    · have e1 : reg z0 x = (joinD ((labs x).drop ((labs x).length - (pub z0 x).toNat - 1)), true) := by unfold reg; simp [hc]
      have hne : labs x ≠ [] := by intro h; rw [h] at hc; simp at hc; omega
      have hv := labs_nil hne
      have hlx := labs_of hv
      rw [hlx] at e1 hc hp hll
      have hN := pub_eq (l := z0) hv
      rw [hlx]
      have hs0 := spl_ne 46 x
      have hj0 := joinD_spl x
      -- what is known of the names between
      have key : ∀ k : Nat, (k : Int) + pub z0 x + 1 ≤ (spl 46 x).length → labs (joinD ((spl 46 x).drop k)) = (spl 46 x).drop k ∧ pub z0 (joinD ((spl 46 x).drop k)) = pub z0 x ∧ reg z0 (joinD ((spl 46 x).drop k)) = reg z0 x := by
        intro k hk
        obtain ⟨s1, s2⟩ := suffix_valid hv (k := k) (by omega)
        have e2 : labs (joinD ((spl 46 x).drop k)) = (spl 46 x).drop k := by rw [labs_of s1, s2]
        have e3 : pub z0 (joinD ((spl 46 x).drop k)) = pub z0 x := by
          rw [pub_eq s1, s2, hN]
          exact pubN_drop (by rw [← hN]; omega) (List.length_pos_iff.2 hs0)
        refine ⟨e2, e3, ?_⟩
        rw [e1]
        unfold reg
        rw [e2, e3, List.length_drop, List.drop_drop]
        rw [show decide ((((spl 46 x).length - k : Nat) : Int) ≤ pub z0 x) = false by simp; omega]
        simp only [cond_false]
        rw [show k + ((spl 46 x).length - k - (pub z0 x).toNat - 1) = (spl 46 x).length - (pub z0 x).toNat - 1 by omega]
      have hkd := key ((spl 46 x).length - (pub z0 x).toNat - 1) (by omega)
      obtain ⟨vd, sd⟩ := suffix_valid hv (k := (spl 46 x).length - (pub z0 x).toNat - 1) (by omega)
      rw [e1]
      simp only [Bool.not_true, cond_false]
      rw [Within_ok]
      have hw : wthn x (joinD ((spl 46 x).drop ((spl 46 x).length - (pub z0 x).toNat - 1))) = true := by
        unfold wthn
        rw [hv, vd, sd]
        simp only [decide_true, Bool.true_and]
        rw [endsL_iff, List.length_drop]
        refine ⟨by omega, ?_⟩
        congr 1
        omega
      rw [hw]
      simp only [bindS, Bool.not_true, cond_false]
      rw [len0', show decide (spl 46 x = []) = false by simpa using hs0]
      simp only [cond_false]
      generalize hD : joinD ((spl 46 x).drop ((spl 46 x).length - (pub z0 x).toNat - 1)) = d at *
      refine Ok.bind ?_
      unfold passkeylaw23_HostBetween_L2
      refine Ok.mono (Q := fun z => z = .inr (z0, x, d, ())) (Ok.iter (fun q => q.1 = z0 ∧ q.2.1 = x ∧ q.2.2.1 = d ∧ ∃ k : Nat, (k : Int) + pub z0 x + 1 ≤ (spl 46 x).length ∧ q.2.2.2.1 = joinD ((spl 46 x).drop k)) (fun q => q.2.2.2.1.length) ⟨rfl, rfl, rfl, 0, by omega, by rw [List.drop_zero, hj0]⟩ (by rw [rounds_eq]; dsimp only; omega) ?_) ?_
      · rintro ⟨y0, y1, y2, y3, u⟩ ⟨q1, q2, q3, k, hk, q4⟩
        dsimp only at *
        subst q1; subst q2; subst q3
        simp only [passkeylaw23_HostBetween_L2b]
        refine Ok.cond (fun hc2 => ?_) (fun hc2 => ?_)
        · obtain ⟨k1, k2, k3⟩ := key k hk
          rw [q4] at hc2 ⊢
          rw [Registrable_ok, Labels_ok, k3, k1, e1]
          simp only [bindS, Bool.not_true, cond_false, decide_true]
          have hkne : k ≠ (spl 46 y1).length - (pub y0 y1).toNat - 1 := by
            rintro rfl
            rw [hD] at hc2
            simp at hc2
          rw [show decide ((((spl 46 y1).drop k).length : Int) < 2) = false by rw [List.length_drop]; simp; omega, show decide ((0 : Int) < (((spl 46 y1).drop k).length : Int)) = true by rw [List.length_drop]; simp; omega]
          simp only [cond_false, cond_true]
          have hlt : k < (spl 46 y1).length := by omega
          have hlt2 : k + 1 < (spl 46 y1).length := by omega
          have ed : (spl 46 y1).drop k = (spl 46 y1)[k] :: (spl 46 y1)[k + 1] :: (spl 46 y1).drop (k + 1 + 1) := by
            rw [List.drop_eq_getElem_cons hlt, List.drop_eq_getElem_cons hlt2]
          have ed1 : (spl 46 y1).drop (k + 1) = (spl 46 y1)[k + 1] :: (spl 46 y1).drop (k + 1 + 1) := List.drop_eq_getElem_cons hlt2
          have ej : joinD ((spl 46 y1).drop k) = (spl 46 y1)[k] ++ 46 :: joinD ((spl 46 y1).drop (k + 1)) := by rw [ed, joinD_cons, ed1]
          have e0 : ((spl 46 y1).drop k)[0]? = some (spl 46 y1)[k] := by rw [ed]; rfl
          rw [e0]
          simp only [bindS]
          have hxk := (spl_len 46 y1).2 _ (List.getElem_mem hlt)
          rw [wrap_id (n := ((spl 46 y1)[k].length : Int) + 1) (by omega) (by omega), ej, show (decide ((0 : Int) ≤ ((spl 46 y1)[k].length : Int) + 1) && decide (((spl 46 y1)[k].length : Int) + 1 ≤ (((spl 46 y1)[k] ++ 46 :: joinD ((spl 46 y1).drop (k + 1))).length : Int))) = true by simp; omega, show (((spl 46 y1)[k].length : Int) + 1).toNat = (spl 46 y1)[k].length + 1 by omega]
          simp only [cond_true]
          have edr : List.drop ((spl 46 y1)[k].length + 1) ((spl 46 y1)[k] ++ 46 :: joinD ((spl 46 y1).drop (k + 1))) = joinD ((spl 46 y1).drop (k + 1)) := by simp
          rw [edr]
          refine Ok.some ?_
          dsimp only
          exact ⟨⟨rfl, rfl, rfl, k + 1, by omega, rfl⟩, by simp; omega⟩
        · refine Ok.some ?_
          dsimp only
      · rintro z rfl
        simp only [Sum.elim_inr]
        obtain ⟨k1, k2, k3⟩ := hkd
        rw [Registrable_ok, Labels_ok, Public_ok, k3, k1, e1]
        simp only [bindS, cond_true, decide_true]
        rw [wrap_id (n := pub z0 x + 1) (by omega) (by omega), show decide ((((spl 46 x).drop ((spl 46 x).length - (pub z0 x).toNat - 1)).length : Int) = pub z0 x + 1) = true by rw [List.length_drop]; simp; omega]
        simp only [cond_true]
        exact awakeOk
end Go.Proofs.YtbdpgpnfpjodfaaDoor

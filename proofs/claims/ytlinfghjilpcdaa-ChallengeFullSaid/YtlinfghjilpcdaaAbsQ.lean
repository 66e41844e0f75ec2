/- Statements, branches, loops and whole functions: what holds of the abstract run holds of the call. No condition. -/
import Derived.Test.YtlinfghjilpcdaaAbsP
namespace Go.Abs
open Go
set_option linter.unusedSimpArgs false

inductive Ex where
  | normal
  | exit (id : Nat)
  | ret

def stepK (P : Program) (Sp : Specs) (o : Oper) (σ : S) (K : S → Prop) : Prop :=
  match sem P Sp o.op (ev Sp σ.t) σ.m with
  | some (d, m') => K ({ σ with m := m' }.put o.dst d)
  | none => False

/-- a region, operation by operation. -/
def runK (P : Program) (Sp : Specs) (ops : Array Oper) : List Oper → S → (S → Prop) → Prop
  | [], σ, K => K σ
  | o :: r, σ, K => match gslot ops o with
    | none => stepK P Sp o σ fun σ' => runK P Sp ops r σ' K
    | some (some k, want) => match σ.t k with
      | .bool b => if b = want then stepK P Sp o { σ with t := upd σ.t k (.bool want) } (fun σ' => runK P Sp ops r σ' K)
          else runK P Sp ops r (({ σ with t := upd σ.t k (.bool (!want)) } : S).put o.dst .dead) K
      | _ => False
    | some (none, _) => False

/-- σ' says less than σ. -/
def Weak (Sp : Specs) (σ σ' : S) : Prop := ∀ (O I0 : Nat → Prop) (w0 : World) (n : Nat) (I : Nat → Prop) (loc : Nat → Nat → Loc) (a : Act) (w : World), Rel Sp O I0 w0 n I loc σ a w → ∃ I' loc', Rel Sp O I0 w0 n I' loc' σ' a w

def loopA (Sp : Specs) (B : S → (Ex → S → Prop) → Prop) (Q : Ex → S → Prop) : Nat → S → Prop
  | 0, _ => False
  | n + 1, σ => ∃ σ', Weak Sp σ σ' ∧ B σ' fun e τ => match e with
    | .normal => loopA Sp B Q n τ
    | e => Q e τ

def awp (P : Program) (Sp : Specs) : Code → S → (Ex → S → Prop) → Prop
  | .skip, σ, Q => Q .normal σ
  | .region _ ops _, σ, Q => runK P Sp ops ops.toList σ (Q .normal)
  | .seq a b, σ, Q => awp P Sp a σ fun e τ => match e with
    | .normal => awp P Sp b τ Q
    | e => Q e τ
  | .cond c a b, σ, Q => match ev Sp σ.t c with
    | .bool q => if q then awp P Sp a σ Q else awp P Sp b σ Q
    | _ => False
  | .block id b, σ, Q => awp P Sp b σ fun e τ => match e with
    | .exit j => if j = id then Q .normal τ else Q (.exit j) τ
    | e => Q e τ
  | .loop b, σ, Q => ∃ n, loopA Sp (awp P Sp b) Q n σ
  | .exit id, σ, Q => Q (.exit id) σ
  | .ret, σ, Q => Q .ret σ
  | .label _, σ, Q => Q .normal σ
  | _, _, _ => False

def codeOk (P : Program) (Sp : Specs) (n : Nat) : Code → Bool
  | .region _ ops draw => (ops.all fun o => match o.dst with | some k => decide (k < n) | none => true) && (!draw || pairsOk P Sp ops)
  | .seq a b => codeOk P Sp n a && codeOk P Sp n b
  | .cond _ a b => codeOk P Sp n a && codeOk P Sp n b
  | .block _ b => codeOk P Sp n b
  | .loop b => codeOk P Sp n b
  | _ => true

section
variable {P : Program} {Sp : Specs} {O I0 : Nat → Prop} {w0 : World} {n : Nat}

theorem runK_ok {ops : Array Oper} : ∀ (l : List Oper) (is : List Nat) (σ : S) (K : S → Prop), l.map some = is.map (ops[·]?) → runK P Sp ops l σ K → ∃ σ', runOps P Sp ops is σ = some σ' ∧ K σ'
  | [], is, σ, K, hl, h => by
    have : is = [] := by simpa using hl.symm
    subst this
    exact ⟨σ, rfl, h⟩
  | o :: r, is, σ, K, hl, h => by
    cases is with
    | nil => simp at hl
    | cons i is =>
      simp only [List.map_cons, List.cons.injEq] at hl
      obtain ⟨ho, hl⟩ := hl
      have updSame : ∀ (t : Nat → D) k, upd t k (t k) = t := fun t k => by funext j; simp only [upd]; split <;> simp_all
      have step : ∀ σ, gd ops o σ.t = some true → stepK P Sp o σ (fun σ' => runK P Sp ops r σ' K) → ∃ σ', runOps P Sp ops (i :: is) σ = some σ' ∧ K σ' := by
        intro σ hg h
        unfold stepK at h
        split at h
        · rename_i d m' hs
          obtain ⟨σ', h1, h2⟩ := runK_ok r is _ K hl h
          refine ⟨σ', ?_, h2⟩
          simp only [runOps, ← ho, stepO, hg, hs]
          exact h1
        · exact h.elim
      simp only [runK] at h
      split at h
      · rename_i hg
        exact step σ (by simp [gd, hg]) h
      · rename_i k want hg
        split at h
        · rename_i b hb
          split at h
          · rename_i hbw
            subst hbw
            rw [← hb, updSame] at h
            exact step σ (by simp [gd, hg, hb]) h
          · rename_i hbw
            have hb' : b = !want := by cases b <;> cases want <;> simp_all
            rw [← hb', ← hb, updSame] at h
            obtain ⟨σ', h1, h2⟩ := runK_ok r is _ K hl h
            refine ⟨σ', ?_, h2⟩
            have hgd : gd ops o σ.t = some false := by
              simp only [gd, hg, hb, Option.some.injEq]
              simpa using hbw
            simp only [runOps, ← ho, stepO, hgd]
            exact h1
        · exact h.elim
      · exact h.elim

/-- what the concrete statement owes, out of what the abstract one owes. -/
structure Owes (Sp : Specs) (O I0 : Nat → Prop) (w0 : World) (n : Nat) (Q : Ex → S → Prop) (QC : Exit → Act → World → Prop) : Prop where
  normal : ∀ σ I loc a w, Rel Sp O I0 w0 n I loc σ a w → Q .normal σ → QC .normal a w
  exit : ∀ id σ I loc a w, Rel Sp O I0 w0 n I loc σ a w → Q (.exit id) σ → QC (.exit id) a w
  ret : ∀ σ I loc a w, Rel Sp O I0 w0 n I loc σ a w → Q .ret σ → QC .ret a w

theorem range_map (ops : Array Oper) : ops.toList.map some = (List.range ops.size).map (ops[·]?) := by
  apply List.ext_getElem
  · simp
  · intro i h1 h2
    simp at h1
    simp [h1]

theorem Rel.drew {σ : S} {I : Nat → Prop} {loc : Nat → Nat → Loc} {a : Act} {w : World} (h : Rel Sp O I0 w0 n I loc σ a w) : Rel Sp O I0 w0 n I loc σ a { w with drawn := w.drawn + 1 } := by
  have he : Ext I I w { w with drawn := w.drawn + 1 } := Ext.of_heap rfl
  exact ⟨h.size, h.defers, fun i => V_mono he _ loc loc _ (.refl _) (h.tmp i), MRel.of_heap (w := w) rfl h.mem, Glob_mono h.glob he, h.fr.trans ⟨rfl, rfl, rfl, Nat.le_refl _, fun _ _ _ => rfl⟩, h.imm0, h.imm1⟩

theorem awp_ok (hmix : P.follows .mixedOrders = true) (hSp : SpecsOk P Sp) : ∀ (c : Code) {σ : S} {I : Nat → Prop} {loc : Nat → Nat → Loc} {a : Act} {w : World} {Q : Ex → S → Prop} {QC : Exit → Act → World → Prop},
    codeOk P Sp n c = true → Rel Sp O I0 w0 n I loc σ a w → awp P Sp c σ Q → Owes Sp O I0 w0 n Q QC → c.wp P QC a w
  | .skip, σ, I, loc, a, w, Q, QC, hok, h, hq, hQ => wp_skip (hQ.normal _ _ _ _ _ h hq)
  | .label l, σ, I, loc, a, w, Q, QC, hok, h, hq, hQ => wp_label (hQ.normal _ _ _ _ _ h hq)
  | .exit id, σ, I, loc, a, w, Q, QC, hok, h, hq, hQ => wp_exit (hQ.exit _ _ _ _ _ _ h hq)
  | .ret, σ, I, loc, a, w, Q, QC, hok, h, hq, hQ => wp_ret (hQ.ret _ _ _ _ _ h hq)
  | .region id ops draw, σ, I, loc, a, w, Q, QC, hok, h, hq, hQ => by
    simp only [awp] at hq
    simp only [codeOk, Bool.and_eq_true] at hok
    obtain ⟨hok1, hok2⟩ := hok
    have hd : ∀ (i : Nat) (o : Oper) (k : Nat), ops[i]? = some o → o.dst = some k → k < n := fun i o k hi hk => by
      have := Array.all_eq_true'.1 hok1 o (Array.mem_of_getElem? hi)
      simpa [hk] using this
    obtain ⟨σ', h1, h2⟩ := runK_ok ops.toList (List.range ops.size) σ _ (range_map ops) hq
    cases draw with
    | false => exact wp_region (runOps_ok hSp hd _ h h1 fun a' w' I' loc' h' => hQ.normal _ _ _ _ _ h' h2)
    | true =>
      refine wp_region_draw fun t => ?_
      exact runOps_ok hSp hd _ h.drew (run_schedule hmix (by simpa using hok2) t h1) fun a' w' I' loc' h' => hQ.normal _ _ _ _ _ h' h2
  | .seq x y, σ, I, loc, a, w, Q, QC, hok, h, hq, hQ => by
    simp only [awp] at hq
    simp only [codeOk, Bool.and_eq_true] at hok
    refine wp_seq (awp_ok hmix hSp x hok.1 h hq ⟨fun σ I loc a w hr hq => ?_, fun id σ I loc a w hr hq => ?_, fun σ I loc a w hr hq => ?_⟩)
    · exact awp_ok hmix hSp y hok.2 hr hq hQ
    · exact hQ.exit _ _ _ _ _ _ hr hq
    · exact hQ.ret _ _ _ _ _ hr hq
  | .cond c x y, σ, I, loc, a, w, Q, QC, hok, h, hq, hQ => by
    simp only [awp] at hq
    simp only [codeOk, Bool.and_eq_true] at hok
    have hv := ev_ok h c
    split at hq
    · rename_i q hc
      rw [hc] at hv; simp only [V] at hv
      refine wp_cond hv ?_
      cases q
      · exact awp_ok hmix hSp y hok.2 h (by simpa using hq) hQ
      · exact awp_ok hmix hSp x hok.1 h (by simpa using hq) hQ
    · exact hq.elim
  | .block id b, σ, I, loc, a, w, Q, QC, hok, h, hq, hQ => by
    simp only [awp] at hq
    simp only [codeOk] at hok
    refine wp_block (awp_ok hmix hSp b hok h hq ⟨fun σ I loc a w hr hq => ?_, fun j σ I loc a w hr hq => ?_, fun σ I loc a w hr hq => ?_⟩)
    · exact hQ.normal _ _ _ _ _ hr hq
    · simp only [Exit.inBlock]
      simp only at hq
      split
      · rename_i hj; rw [if_pos hj] at hq; exact hQ.normal _ _ _ _ _ hr hq
      · rename_i hj; rw [if_neg hj] at hq; exact hQ.exit _ _ _ _ _ _ hr hq
    · exact hQ.ret _ _ _ _ _ hr hq
  | .loop b, σ, I, loc, a, w, Q, QC, hok, h, hq, hQ => by
    simp only [awp] at hq
    simp only [codeOk] at hok
    obtain ⟨k, hk⟩ := hq
    refine wp_loop_rounds k ?_
    induction k generalizing σ I loc a w with
    | zero => exact hk.elim
    | succ k ih =>
      obtain ⟨σ', hw, hk⟩ := hk
      obtain ⟨I', loc', h'⟩ := hw _ _ _ _ _ _ _ _ h
      rw [rounds_succ]
      refine awp_ok hmix hSp b hok h' hk ⟨fun σ I loc a w hr hq => ?_, fun id σ I loc a w hr hq => ?_, fun σ I loc a w hr hq => ?_⟩
      · first | exact ih _ _ _ _ _ hr hq | exact ih _ _ _ _ _ hq hr
      · exact hQ.exit _ _ _ _ _ _ hr hq
      · exact hQ.ret _ _ _ _ _ hr hq
  | .rangeFunc _ _ _ _, σ, I, loc, a, w, Q, QC, hok, h, hq, hQ => by simp [awp] at hq
  | .scope _, σ, I, loc, a, w, Q, QC, hok, h, hq, hQ => by simp [awp] at hq
  | .goto _, σ, I, loc, a, w, Q, QC, hok, h, hq, hQ => by simp [awp] at hq
  | .refuse _, σ, I, loc, a, w, Q, QC, hok, h, hq, hQ => by simp [awp] at hq

theorem runK_mono {ops : Array Oper} : ∀ (l : List Oper) (σ : S) (K K' : S → Prop), (∀ τ, K τ → K' τ) → runK P Sp ops l σ K → runK P Sp ops l σ K'
  | [], σ, K, K', hK, h => hK σ h
  | o :: r, σ, K, K', hK, h => by
    have st : ∀ σ, stepK P Sp o σ (fun σ' => runK P Sp ops r σ' K) → stepK P Sp o σ (fun σ' => runK P Sp ops r σ' K') := by
      intro σ h
      unfold stepK at *
      split
      · rename_i d m' hs
        simp only [hs] at h
        exact runK_mono r _ K K' hK h
      · rename_i hs; simp [hs] at h
    simp only [runK] at h ⊢
    split
    · rename_i hg; simp only [hg] at h; exact st σ h
    · rename_i k want hg
      simp only [hg] at h
      split
      · rename_i b hb
        simp only [hb] at h
        split
        · rename_i hbw; rw [if_pos hbw] at h; exact st _ h
        · rename_i hbw; rw [if_neg hbw] at h; exact runK_mono r _ K K' hK h
      · rename_i hb
        exfalso
        cases hd : σ.t k <;> simp only [hd] at h
        exact hb _ hd
    · rename_i hg; simp only [hg] at h

theorem awp_mono : ∀ (c : Code) (σ : S) (Q Q' : Ex → S → Prop), (∀ e τ, Q e τ → Q' e τ) → awp P Sp c σ Q → awp P Sp c σ Q'
  | .skip, σ, Q, Q', hQ, h => hQ _ _ h
  | .label _, σ, Q, Q', hQ, h => hQ _ _ h
  | .exit _, σ, Q, Q', hQ, h => hQ _ _ h
  | .ret, σ, Q, Q', hQ, h => hQ _ _ h
  | .region _ ops _, σ, Q, Q', hQ, h => runK_mono _ _ _ _ (hQ .normal) h
  | .seq a b, σ, Q, Q', hQ, h => by
    simp only [awp] at h ⊢
    refine awp_mono a _ _ _ (fun e τ h => ?_) h
    cases e with
    | normal => exact awp_mono b _ _ _ hQ h
    | exit id => exact hQ _ _ h
    | ret => exact hQ _ _ h
  | .cond c a b, σ, Q, Q', hQ, h => by
    simp only [awp] at h ⊢
    split
    · rename_i q hc
      simp only [hc] at h
      split
      · rename_i hq; rw [if_pos hq] at h; exact awp_mono a _ _ _ hQ h
      · rename_i hq; rw [if_neg hq] at h; exact awp_mono b _ _ _ hQ h
    · rename_i hc
      exfalso
      cases hd : ev Sp σ.t c <;> simp only [hd] at h
      exact hc _ hd
  | .block id b, σ, Q, Q', hQ, h => by
    simp only [awp] at h ⊢
    refine awp_mono b _ _ _ (fun e τ h => ?_) h
    cases e with
    | normal => exact hQ _ _ h
    | exit j =>
      simp only at h ⊢
      split
      · rename_i hj; rw [if_pos hj] at h; exact hQ _ _ h
      · rename_i hj; rw [if_neg hj] at h; exact hQ _ _ h
    | ret => exact hQ _ _ h
  | .loop b, σ, Q, Q', hQ, h => by
    simp only [awp] at h ⊢
    obtain ⟨n, h⟩ := h
    refine ⟨n, ?_⟩
    induction n generalizing σ with
    | zero => exact h
    | succ n ih =>
      obtain ⟨σ', h1, h2⟩ := h
      refine ⟨σ', h1, awp_mono b _ _ _ (fun e τ h => ?_) h2⟩
      cases e with
      | normal => exact ih _ h
      | exit id => exact hQ _ _ h
      | ret => exact hQ _ _ h
  | .rangeFunc _ _ _ _, σ, Q, Q', hQ, h => by simp [awp] at h
  | .scope _, σ, Q, Q', hQ, h => by simp [awp] at h
  | .goto _, σ, Q, Q', hQ, h => by simp [awp] at h
  | .refuse _, σ, Q, Q', hQ, h => by simp [awp] at h

/-- a loop by what holds at its head: 'H x' the state, 'μ x' what falls. -/
theorem awp_loop {α : Type} (H : α → S) (μ : α → Nat) {b : Code} {σ : S} {Q : Ex → S → Prop} (x0 : α) (h0 : Weak Sp σ (H x0))
    (hr : ∀ x, awp P Sp b (H x) fun e τ => match e with
      | .normal => ∃ y, Weak Sp τ (H y) ∧ μ y < μ x
      | e => Q e τ) : awp P Sp (.loop b) σ Q := by
  have key : ∀ k x τ, μ x < k → Weak Sp τ (H x) → loopA Sp (awp P Sp b) Q k τ := by
    intro k
    induction k with
    | zero => intro x τ h; omega
    | succ k ih =>
      intro x τ hk hw
      refine ⟨H x, hw, awp_mono b _ _ _ (fun e τ' h => ?_) (hr x)⟩
      cases e with
      | normal =>
        obtain ⟨y, hy, hlt⟩ := h
        exact ih y τ' (by omega) hy
      | exit id => exact h
      | ret => exact h
  exact ⟨μ x0 + 1, key _ x0 σ (by omega) h0⟩

theorem runK_one {ops : Array Oper} (l : List Oper) (is : List Nat) (hl : l.map some = is.map (ops[·]?)) (σ : S) (K : S → Prop) (h : runK P Sp ops l σ K) : ∃ τ, K τ ∧ ∀ K', K' τ → runK P Sp ops l σ K' := by
  induction l generalizing σ is with
  | nil => exact ⟨σ, h, fun K' h => h⟩
  | cons o r ih =>
    cases is with
    | nil => simp at hl
    | cons i is =>
      simp only [List.map_cons, List.cons.injEq] at hl
      have st : ∀ σ, stepK P Sp o σ (fun σ' => runK P Sp ops r σ' K) → ∃ τ, K τ ∧ ∀ K', K' τ → stepK P Sp o σ (fun σ' => runK P Sp ops r σ' K') := by
        intro σ h
        unfold stepK at h
        split at h
        · rename_i d m' hs
          obtain ⟨τ, h1, h2⟩ := ih is hl.2 _ h
          refine ⟨τ, h1, fun K' hK => ?_⟩
          unfold stepK; simp only [hs]; exact h2 K' hK
        · exact h.elim
      simp only [runK] at h ⊢
      split at h
      · exact st σ h
      · rename_i k want hg
        split at h
        · rename_i b hb
          split at h
          · rename_i hbw
            obtain ⟨τ, h1, h2⟩ := st _ h
            exact ⟨τ, h1, fun K' hK => by simp only [hb, if_pos hbw]; exact h2 K' hK⟩
          · rename_i hbw
            obtain ⟨τ, h1, h2⟩ := ih is hl.2 _ h
            exact ⟨τ, h1, fun K' hK => by simp only [hb, if_neg hbw]; exact h2 K' hK⟩
        · exact h.elim
      · exact h.elim

/-- an abstract run has one outcome. -/
theorem awp_one : ∀ (c : Code) (σ : S) (Q : Ex → S → Prop), awp P Sp c σ Q → ∃ e τ, Q e τ ∧ ∀ Q', Q' e τ → awp P Sp c σ Q'
  | .skip, σ, Q, h => ⟨.normal, σ, h, fun _ h => h⟩
  | .label _, σ, Q, h => ⟨.normal, σ, h, fun _ h => h⟩
  | .exit id, σ, Q, h => ⟨.exit id, σ, h, fun _ h => h⟩
  | .ret, σ, Q, h => ⟨.ret, σ, h, fun _ h => h⟩
  | .region _ ops _, σ, Q, h => by
    simp only [awp] at h ⊢
    obtain ⟨τ, h1, h2⟩ := runK_one ops.toList (List.range ops.size) (range_map ops) σ _ h
    exact ⟨.normal, τ, h1, fun Q' hQ => h2 _ hQ⟩
  | .seq a b, σ, Q, h => by
    simp only [awp] at h ⊢
    obtain ⟨e, τ, h1, h2⟩ := awp_one a σ _ h
    cases e with
    | normal =>
      obtain ⟨e', τ', h3, h4⟩ := awp_one b τ Q h1
      exact ⟨e', τ', h3, fun Q' hQ => h2 _ (h4 Q' hQ)⟩
    | exit id => exact ⟨.exit id, τ, h1, fun Q' hQ => h2 _ hQ⟩
    | ret => exact ⟨.ret, τ, h1, fun Q' hQ => h2 _ hQ⟩
  | .cond c a b, σ, Q, h => by
    simp only [awp] at h ⊢
    split at h
    · rename_i q hc
      split at h
      · rename_i hq
        obtain ⟨e, τ, h1, h2⟩ := awp_one a σ Q h
        exact ⟨e, τ, h1, fun Q' hQ => by rw [if_pos hq]; exact h2 Q' hQ⟩
      · rename_i hq
        obtain ⟨e, τ, h1, h2⟩ := awp_one b σ Q h
        exact ⟨e, τ, h1, fun Q' hQ => by rw [if_neg hq]; exact h2 Q' hQ⟩
    · exact h.elim
  | .block id b, σ, Q, h => by
    simp only [awp] at h ⊢
    obtain ⟨e, τ, h1, h2⟩ := awp_one b σ _ h
    cases e with
    | normal => exact ⟨.normal, τ, h1, fun Q' hQ => h2 _ hQ⟩
    | exit j =>
      simp only at h1
      split at h1
      · rename_i hj; exact ⟨.normal, τ, h1, fun Q' hQ => h2 _ (by simp only [if_pos hj]; exact hQ)⟩
      · rename_i hj; exact ⟨.exit j, τ, h1, fun Q' hQ => h2 _ (by simp only [if_neg hj]; exact hQ)⟩
    | ret => exact ⟨.ret, τ, h1, fun Q' hQ => h2 _ hQ⟩
  | .loop b, σ, Q, h => by
    simp only [awp] at h ⊢
    obtain ⟨n, h⟩ := h
    induction n generalizing σ with
    | zero => exact h.elim
    | succ n ih =>
      obtain ⟨σ', hw, h⟩ := h
      obtain ⟨e, τ, h1, h2⟩ := awp_one b σ' _ h
      cases e with
      | normal =>
        obtain ⟨e', τ', h3, h4⟩ := ih τ h1
        refine ⟨e', τ', h3, fun Q' hQ => ?_⟩
        obtain ⟨k, hk⟩ := h4 Q' hQ
        exact ⟨k + 1, σ', hw, h2 _ hk⟩
      | exit id => exact ⟨.exit id, τ, h1, fun Q' hQ => ⟨1, σ', hw, h2 _ hQ⟩⟩
      | ret => exact ⟨.ret, τ, h1, fun Q' hQ => ⟨1, σ', hw, h2 _ hQ⟩⟩
  | .rangeFunc _ _ _ _, σ, Q, h => by simp [awp] at h
  | .scope _, σ, Q, h => by simp [awp] at h
  | .goto _, σ, Q, h => by simp [awp] at h
  | .refuse _, σ, Q, h => by simp [awp] at h

theorem Weak.refl (σ : S) : Weak Sp σ σ := fun _ _ _ _ I loc _ _ h => ⟨I, loc, h⟩

/-- one round of a loop. -/
theorem awp_unroll {b : Code} {σ : S} {Q : Ex → S → Prop} (h : awp P Sp b σ fun e τ => match e with
    | .normal => awp P Sp (.loop b) τ Q
    | e => Q e τ) : awp P Sp (.loop b) σ Q := by
  obtain ⟨e, τ, h1, h2⟩ := awp_one b σ _ h
  cases e with
  | normal =>
    obtain ⟨n, hn⟩ := h1
    exact ⟨n + 1, σ, .refl _, h2 _ hn⟩
  | exit id => exact ⟨1, σ, .refl _, h2 _ h1⟩
  | ret => exact ⟨1, σ, .refl _, h2 _ h1⟩

/-- the results of a function in a state. -/
def resD (P : Program) (σ : S) : List ResultVar → Option (List D)
  | [] => some []
  | .tmp t :: r => (resD P σ r).map (σ.t t :: ·)
  | .cell a t :: r => match loadR P σ.m t (σ.t a) with
    | some d => (resD P σ r).map (d :: ·)
    | none => none
def resOf (P : Program) (fn : Func) (σ : S) : Option D :=
  match resD P σ fn.results.toList with
  | some [d] => some d
  | some l => some (.tup l)
  | none => none

/-- how one result is read. -/
def rdv (a : Act) : ResultVar → Sem Value
  | .tmp t => pure (a.tmps.getD t undef)
  | .cell x t => do loadVar t (← asAddr (a.tmps.getD x undef))

theorem resD_ok {σ : S} {I : Nat → Prop} {loc : Nat → Nat → Loc} {a : Act} {w : World} (h : Rel Sp O I0 w0 n I loc σ a w) : ∀ (rs : List ResultVar) (ds : List D), resD P σ rs = some ds →
    ∃ vs : List Value, (rs.mapM (rdv a)).run P w = .ok vs w ∧ VL I w ds loc vs
  | [], ds, hr => by
    simp only [resD, Option.some.injEq] at hr; subst hr
    exact ⟨[], rfl, by simp [VL]⟩
  | .tmp t :: r, ds, hr => by
    simp only [resD, Option.map_eq_some_iff] at hr
    obtain ⟨ds', hr, rfl⟩ := hr
    obtain ⟨vs, h1, h2⟩ := resD_ok h r ds' hr
    refine ⟨a.tmps.getD t undef :: vs, ?_, by simp only [VL]; exact ⟨_, _, rfl, h.tmp t, h2⟩⟩
    simp only [List.mapM_cons, Sem.run_bind, Sem.run_pure, Result.andThen_ok, h1, rdv]
  | .cell x t :: r, ds, hr => by
    simp only [resD] at hr
    split at hr
    case h_2 => cases hr
    rename_i d hd
    simp only [Option.map_eq_some_iff] at hr
    obtain ⟨ds', hr, rfl⟩ := hr
    obtain ⟨vs, h1, h2⟩ := resD_ok h r ds' hr
    obtain ⟨z, hz, hv⟩ := run_loadR (P := P) h.mem (h.tmp x) hd
    have hl : (do loadVar t (← asAddr (a.tmps.getD x undef)) : Sem Value).run P w = .ok z w := by
      have : ∃ ad, a.tmps.getD x undef = .pointer (some ad) := by
        have hx := h.tmp x
        unfold loadR at hd
        split at hd
        · rename_i b off hb
          rw [hb] at hx; simp only [V] at hx
          cases hl : loc b 0 <;> simp only [hl] at hx
          · exact hx
          · exact ⟨_, hx⟩
        · rename_i b g s i off hb
          rw [hb] at hx; simp only [V] at hx
          cases hl : loc b g <;> simp only [hl] at hx
          · exact hx
          · exact ⟨_, hx⟩
        · rename_i cs hb
          rw [hb] at hx; simp only [V] at hx
          obtain ⟨b, o, hx, _⟩ := hx
          exact ⟨_, hx⟩
        · cases hd
      obtain ⟨ad, had⟩ := this
      rw [had] at hz ⊢
      simpa [Instr.loadAt, Instr.sureAddr, asAddr] using hz
    refine ⟨z :: vs, ?_, by simp only [VL]; exact ⟨_, _, rfl, hv, h2⟩⟩
    have hl' : (rdv a (.cell x t)).run P w = .ok z w := hl
    simp only [List.mapM_cons, Sem.run_bind, Sem.run_pure, Result.andThen_ok, h1, hl']

theorem resOf_ok {σ : S} {I : Nat → Prop} {loc : Nat → Nat → Loc} {a : Act} {w : World} (h : Rel Sp O I0 w0 n I loc σ a w) {fn : Func} {d : D} (hr : resOf P fn σ = some d) :
    ∃ v, (results fn a.tmps).run P w = .ok v w ∧ V I w d loc v := by
  unfold resOf at hr
  have key : ∀ ds, resD P σ fn.results.toList = some ds → ∃ vs : List Value, (results fn a.tmps).run P w = .ok (if h : vs.toArray.size = 1 then vs.toArray[0] else .tuple vs.toArray) w ∧ VL I w ds loc vs := by
    intro ds hds
    obtain ⟨vs, h1, h2⟩ := resD_ok h _ _ hds
    refine ⟨vs, ?_, h2⟩
    have e : results fn a.tmps = (do
        let vs ← fn.results.mapM (rdv a)
        pure (if h : vs.size = 1 then vs[0] else .tuple vs) : Sem Value) := by
      unfold results
      congr 1
    rw [e, Array.mapM_eq_mapM_toList]
    simp only [Sem.run_bind, Sem.run_map, Sem.run_pure, h1, Result.andThen_ok]
  split at hr
  · rename_i x hds
    simp only [Option.some.injEq] at hr; subst hr
    obtain ⟨vs, h1, h2⟩ := key _ hds
    simp only [VL] at h2
    obtain ⟨v, vr, rfl, h3, rfl⟩ := h2
    exact ⟨v, by simpa using h1, h3⟩
  · rename_i l hne hds
    simp only [Option.some.injEq] at hr; subst hr
    obtain ⟨vs, h1, h2⟩ := key _ hds
    have hlen := VL_length h2
    have : ¬ vs.toArray.size = 1 := by
      simp only [List.size_toArray, hlen]
      intro e
      cases l with
      | nil => simp at e
      | cons x r =>
        cases r with
        | nil => exact hne x rfl
        | cons y r => simp at e
    rw [dif_neg this] at h1
    exact ⟨_, h1, by simp only [V]; exact ⟨vs, rfl, h2⟩⟩
  · cases hr

def t0 (ds : List D) : Nat → D := fun i => ds.getD i .dead
def S0 (ds : List D) : S := ⟨t0 ds, ⟨0, fun _ => .gone⟩⟩

mutual
theorem V_flat {I I' : Nat → Prop} {w w' : World} {loc loc' : Nat → Nat → Loc} : ∀ (d : D) (v : Value), d.flat = true → V I w d loc v → V I' w' d loc' v
  | .bool _, _, _, h => by simpa only [V] using h
  | .int _ _, _, _, h => by simpa only [V] using h
  | .str _, _, _, h => by simpa only [V] using h
  | .lit _, _, _, h => by simpa only [V] using h
  | .nilp, _, _, h => by simpa only [V] using h
  | .nils, _, _, h => by simpa only [V] using h
  | .agg cs, v, hf, h => by
    simp only [V] at h ⊢
    obtain ⟨vs, rfl, h1, h2⟩ := h
    exact ⟨vs, rfl, h1, VL_flat cs vs (by simpa [D.flat] using hf) h2⟩
  | .tup cs, v, hf, h => by
    simp only [V] at h ⊢
    obtain ⟨vs, rfl, h2⟩ := h
    exact ⟨vs, rfl, VL_flat cs vs (by simpa [D.flat] using hf) h2⟩
  | .dead, _, hf, _ => by simp [D.flat] at hf
  | .rp _, _, hf, _ => by simp [D.flat] at hf
  | .rs _ _, _, hf, _ => by simp [D.flat] at hf
  | .bp _ _, _, hf, _ => by simp [D.flat] at hf
  | .ap _ _ _ _ _, _, hf, _ => by simp [D.flat] at hf
  | .bs _ _ _ _ _, _, hf, _ => by simp [D.flat] at hf
  | .fn _ _, _, hf, _ => by simp [D.flat] at hf
theorem VL_flat {I I' : Nat → Prop} {w w' : World} {loc loc' : Nat → Nat → Loc} : ∀ (ds : List D) (vs : List Value), flatL ds = true → VL I w ds loc vs → VL I' w' ds loc' vs
  | [], _, _, h => by simpa only [VL] using h
  | d :: r, vs, hf, h => by
    simp only [VL] at h ⊢
    simp only [flatL, Bool.and_eq_true] at hf
    obtain ⟨v, vr, rfl, h1, h2⟩ := h
    exact ⟨v, vr, rfl, V_flat d v hf.1 h1, VL_flat r vr hf.2 h2⟩
end

theorem rel0 {I : Nat → Prop} {w : World} {args : List Value} {ds : List D} (hI : ∀ k, I k → k < w.heap.size) (hG : Glob Sp.glob I w) (hv : VL I w ds free args) (hn : ds.length ≤ n) :
    Rel Sp (fun k => w.heap.size ≤ k) I w n I free (S0 ds) { tmps := args.toArray ++ Array.replicate (n - args.toArray.size) undef, defers := [] } w := by
  have hlen := VL_length hv
  refine ⟨by simp; omega, rfl, fun i => ?_, ⟨fun b hb => absurd hb (Nat.not_lt_zero _), fun _ _ _ => rfl, fun b _ _ hb => absurd hb (Nat.not_lt_zero _), fun b _ _ _ _ hb => absurd hb (Nat.not_lt_zero _), hI, fun _ h => h⟩, hG, .refl _ _, fun _ h => h, fun _ h => .inl h⟩
  simp only [S0, t0]
  by_cases h : i < ds.length
  · obtain ⟨v, h1, h2⟩ := VL_get (i := i) (d := ds[i]) hv (by simp [h])
    have e1 : ds.getD i .dead = ds[i] := by simp [List.getD, h]
    have e2 : (args.toArray ++ Array.replicate (n - args.toArray.size) undef).getD i undef = v := by
      have hi : i < args.length := by omega
      rw [List.getElem?_eq_getElem hi] at h1
      simp only [Option.some.injEq] at h1
      simp [Array.getD_eq_getD_getElem?, Array.getElem?_append, hi, h1]
    rw [e1, e2]; exact h2
  · have e1 : ds.getD i .dead = .dead := by simp [List.getD, h]
    rw [e1]; trivial

theorem Fr_none {w w' : World} (h : Fr (fun k => w.heap.size ≤ k) w w') : Fr none' w w' := ⟨h.os, h.tape, h.output, h.size, fun b hb _ => h.block b hb (by omega)⟩

/-- A FUNCTION WHOSE ANSWER HOLDS NO MEMORY: its contract, out of its abstract run. -/
theorem sound_flat {f : FuncId} {fn : Func} {c : Code} {F : List D → Option (D × List Box)} (hmix : P.follows .mixedOrders = true) (hSp : SpecsOk P Sp) (hf : P.funcs[f]? = some fn) (hb : fn.body = some c) (hname : (fn.name == "runtime.NumGoroutine") = false)
    (hok : codeOk P Sp fn.ntmps c = true)
    (h : ∀ ds r bx, F ds = some (r, bx) → bx = [] ∧ r.flat = true ∧ ds.length ≤ fn.ntmps ∧ awp P Sp c (S0 ds) fun e σ => match e with
      | .exit _ => False
      | _ => resOf P fn σ = some r) : Sound P Sp.glob f 0 F := by
  refine ⟨⟨fn, hf, by simp [hb], hname⟩, fun I w args ds r bx hI hG hv hF => ?_⟩
  obtain ⟨rfl, hflat, hlen, hawp⟩ := h ds r bx hF
  refine calls_of_wp hf hb (awp_ok hmix hSp c hok (rel0 hI hG hv hlen) hawp ?_)
  have fin : ∀ σ I' loc a w', Rel Sp (fun k => w.heap.size ≤ k) I w fn.ntmps I' loc σ a w' → resOf P fn σ = some r →
      a.defers = [] ∧ ∃ v, (results fn a.tmps).run P w' = .ok v w' ∧ ∃ v' I'' loc', Ending.returned v = .returned v' ∧ Fr none' w w' ∧ (if 0 ≤ 1 then I'' = none' else (∀ k, I k → I'' k) ∧ ∀ k, I'' k → I k ∨ w.heap.size ≤ k) ∧ V I'' w' r loc' v' ∧ MRel (fun k => w.heap.size ≤ k) I'' loc' ⟨([] : List Box).length, bxOf []⟩ w' := by
    intro σ I' loc a w' hr hres
    obtain ⟨v, h1, h2⟩ := resOf_ok hr hres
    refine ⟨hr.defers, v, h1, v, none', free, rfl, Fr_none hr.fr, by simp, V_flat r v hflat h2, ?_⟩
    exact ⟨fun b hb => absurd hb (Nat.not_lt_zero _), fun _ _ _ => rfl, fun b _ _ hb => absurd hb (Nat.not_lt_zero _), fun b _ _ _ _ hb => absurd hb (Nat.not_lt_zero _), fun _ h => h.elim, fun k hk => Nat.le_trans hr.fr.size hk⟩
  exact ⟨fun σ I' loc a w' hr hq => fin σ I' loc a w' hr hq, fun id σ I' loc a w' hr hq => hq.elim, fun σ I' loc a w' hr hq => fin σ I' loc a w' hr hq⟩
end
end Go.Abs

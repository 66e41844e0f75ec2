/- Statements, branches, joins and loops: what the typed run comes to holds of the code. No condition. -/
import Derived.Test.YtlinfghjilpcdaaTyYd
namespace Go.Abs
open Go
set_option linter.unusedSimpArgs false

section
variable {T : Nat → Type} {P : Program} {E : Env T} {O I0 I : Nat → Prop} {w0 w : World} {n : Nat} {kp : List (Nat × Value)} {loc : Nat → Nat → Loc} {L : Nat → Nat → Nat} {a : Act} {R : Type}

def Ex.con : Ex → Exit
  | .normal => .normal
  | .exit id => .exit id
  | .ret => .ret

theorem exB_eq {e e' : Ex} (h : exB e e' = true) : e = e' := by
  cases e <;> cases e' <;> simp only [exB] at h <;> first | rfl | (cases h; done) | (rw [Nat.eq_of_beq_eq_true h])

/-! ### how a loop is left -/
def atX (C : Cd T) : (xs : List (Ex × Shape)) → tyX T xs → Ex × ST T
  | [] => fun x => nomatch x
  | [(e, s)] => fun x => (e, lay C s x)
  | (e, s) :: p :: r => Sum.elim (fun x => (e, lay C s x)) (atX C (p :: r))
theorem outX_at (C : Cd T) : ∀ (xs : List (Ex × Shape)) (K : Ex → ST T → Option R) (y : tyX T xs), outX C xs K y = K (atX C xs y).1 (atX C xs y).2
  | [], K, y => nomatch y
  | [(e, s)], K, y => rfl
  | (e, s) :: p :: r, K, y => by
    cases y with
    | inl x => rfl
    | inr x => exact outX_at C (p :: r) K x
theorem inX_ok (hC : CdOk E.C) {σ : ST T} (h : RelT E O I0 w0 n kp I loc L σ.f a w) : ∀ (xs : List (Ex × Shape)) {e : Ex} {K : tyX T xs → Option R} {r : R}, inX E.C xs e σ K = some r →
    ∃ y I' loc' L', (atX E.C xs y).1 = e ∧ RelT E O I0 w0 n kp I' loc' L' (atX E.C xs y).2.f a w ∧ K y = some r
  | [], e, K, r, hk => by simp [inX] at hk
  | [(e', s)], e, K, r, hk => by
    simp only [inX] at hk
    split at hk
    · rename_i he
      obtain ⟨x, I', loc', L', h1, h2⟩ := takeK_ok hC h hk
      exact ⟨x, I', loc', L', exB_eq he, h1, h2⟩
    · cases hk
  | (e', s) :: p :: xs, e, K, r, hk => by
    simp only [inX] at hk
    split at hk
    · rename_i he
      obtain ⟨x, I', loc', L', h1, h2⟩ := takeK_ok hC h hk
      exact ⟨.inl x, I', loc', L', exB_eq he, h1, h2⟩
    · obtain ⟨y, I', loc', L', h1, h2, h3⟩ := inX_ok hC h (p :: xs) hk
      exact ⟨.inr y, I', loc', L', h1, h2, h3⟩

/-- A LOOP'S CONTRACT. -/
def LoopOk (P : Program) (E : Env T) (n : Nat) (kq : List Nat) (b : Code) (S : LSpec T) : Prop :=
  ∀ (O I0 : Nat → Prop) (w0 : World) (kp : List (Nat × Value)) (I : Nat → Prop) (loc : Nat → Nat → Loc) (L : Nat → Nat → Nat) (a : Act) (w : World) (x : tySs T S.head.slots) (y : tyX T S.outs) (QC : Exit → Act → World → Prop),
    (∀ p ∈ kp, p.1 ∈ kq) → RelT E O I0 w0 n kp I loc L (layC E.C S.head S.cp x).f a w → S.go x = some y →
    (∀ I' loc' L' a' w', RelT E O I0 w0 n kp I' loc' L' (atX E.C S.outs y).2.f a' w' → QC (atX E.C S.outs y).1.con a' w') → (Code.loop b).wp P QC a w

/-! ### what is asked of the code -/
def dstOk (n : Nat) (kq : List Nat) (ops : Array Oper) : Bool :=
  ops.toList.all fun o => match o.dst with
    | some k => Nat.blt k n && kq.all fun q => !Nat.beq q k
    | none => true
def codeOkT (E : Env T) (A : Loc2 T) (n : Nat) (kq done : List Nat) : Code → Bool
  | .region id ops draw => dstOk n kq ops && (A.gr id || (!draw || pairsOkT E ops))
  | .seq a b => codeOkT E A n kq done a && codeOkT E A n kq done b
  | .cond _ a b => codeOkT E A n kq done a && codeOkT E A n kq done b
  | .block id b => match A.lp id with
    | some _ => done.any (Nat.beq id)
    | none => codeOkT E A n kq done b
  | _ => true
/-- the same code, if its loops are where they are looked for. -/
def strip (A : Loc2 T) (c0 : Code) : Code → Code
  | .seq a b => .seq (strip A c0 a) (strip A c0 b)
  | .cond c a b => .cond c (strip A c0 a) (strip A c0 b)
  | .block id b => match A.lp id with
    | some _ => .block id (.loop (loopAt id c0))
    | none => .block id (strip A c0 b)
  | c => c

theorem dstOk_spec {ops : Array Oper} {kq : List Nat} (h : dstOk n kq ops = true) (hq : ∀ p ∈ kp, p.1 ∈ kq) (i : Nat) (o : Oper) (k : Nat) (hi : ops[i]? = some o) (hk : o.dst = some k) : k < n ∧ ∀ p ∈ kp, p.1 ≠ k := by
  unfold dstOk at h
  have := List.all_eq_true.1 h o (by rw [Array.mem_toList_iff]; exact Array.mem_of_getElem? hi)
  simp only [hk, Bool.and_eq_true] at this
  refine ⟨by have h3 := this.1; simp [Nat.blt] at h3; omega, fun p hp e => ?_⟩
  have h2 := List.all_eq_true.1 this.2 p.1 (hq p hp)
  rw [e] at h2
  simp at h2

variable {A : Loc2 T} {kq done : List Nat} {c0 : Code}

theorem run_ok (hmix : P.follows .mixedOrders = true) (hE : EnvOk P E) (hq : ∀ p ∈ kp, p.1 ∈ kq) (hlp : ∀ id ∈ done, ∀ S, A.lp id = some S → LoopOk P E n kq (loopAt id c0) S) :
    ∀ (c : Code) {R : Type} {σ : ST T} {I : Nat → Prop} {loc : Nat → Nat → Loc} {L : Nat → Nat → Nat} {a : Act} {w : World} {K : Ex → ST T → Option R} {r : R} {QC : Exit → Act → World → Prop},
    codeOkT E A n kq done c = true → strip A c0 c = c → RelT E O I0 w0 n kp I loc L σ.f a w → run E A c σ K = some r →
    (∀ e τ I' loc' L' a' w', RelT E O I0 w0 n kp I' loc' L' τ.f a' w' → K e τ = some r → QC e.con a' w') → c.wp P QC a w
  | .skip, R, σ, I, loc, L, a, w, K, r, QC, hok, hs, h, hr, hQ => wp_skip (hQ .normal _ _ _ _ _ _ h hr)
  | .label l, R, σ, I, loc, L, a, w, K, r, QC, hok, hs, h, hr, hQ => wp_label (hQ .normal _ _ _ _ _ _ h hr)
  | .exit id, R, σ, I, loc, L, a, w, K, r, QC, hok, hs, h, hr, hQ => wp_exit (hQ (.exit id) _ _ _ _ _ _ h hr)
  | .ret, R, σ, I, loc, L, a, w, K, r, QC, hok, hs, h, hr, hQ => wp_ret (hQ .ret _ _ _ _ _ _ h hr)
  | .region id ops draw, R, σ, I, loc, L, a, w, K, r, QC, hok, hs, h, hr, hQ => by
    simp only [run] at hr
    simp only [codeOkT, Bool.and_eq_true] at hok
    obtain ⟨hok1, hok2⟩ := hok
    have hd := dstOk_spec hok1 hq
    split at hr
    · exact regionG_ok hmix hE hd h hr fun τ a' w' I' loc' L' h' hk => hQ .normal _ _ _ _ _ _ h' hk
    rename_i hgr
    rw [hgr, Bool.false_or] at hok2
    obtain ⟨σ', h1, h2⟩ := runT_ok ops.toList (List.range ops.size) σ _ r (range_map ops) hr
    cases draw with
    | false => exact wp_region (runOpsT_ok hE hd _ h h1 fun a' w' I' loc' L' h' => hQ .normal _ _ _ _ _ _ h' h2)
    | true =>
      refine wp_region_draw fun t => ?_
      exact runOpsT_ok hE hd _ h.drew (run_scheduleT hmix (by simpa using hok2) t h1) fun a' w' I' loc' L' h' => hQ .normal _ _ _ _ _ _ h' h2
  | .seq x y, R, σ, I, loc, L, a, w, K, r, QC, hok, hs, h, hr, hQ => by
    simp only [codeOkT, Bool.and_eq_true] at hok
    simp only [strip, Code.seq.injEq] at hs
    simp only [run] at hr
    split at hr
    · refine wp_seq (run_ok hmix hE hq hlp x hok.1 hs.1 h hr fun e τ I' loc' L' a' w' h' hk => ?_)
      cases e with
      | normal => exact run_ok hmix hE hq hlp y hok.2 hs.2 h' hk hQ
      | exit id => exact hQ (.exit id) _ _ _ _ _ _ h' hk
      | ret => exact hQ .ret _ _ _ _ _ _ h' hk
    · rename_i s hj
      rw [Option.bind_eq_some_iff] at hr
      obtain ⟨u, hu, hr⟩ := hr
      refine wp_seq (run_ok hmix hE hq hlp x hok.1 hs.1 h hu fun e τ I' loc' L' a' w' h' hk => ?_)
      cases e with
      | normal =>
        obtain ⟨x, I2, loc2, L2, g1, g2⟩ := takeK_ok hE.cd h' hk
        simp only [Option.some.injEq] at g2
        subst g2
        exact run_ok hmix hE hq hlp y hok.2 hs.2 g1 hr hQ
      | exit id =>
        rw [Option.bind_eq_some_iff] at hk
        obtain ⟨z, hz, hk⟩ := hk
        simp only [Option.some.injEq] at hk
        subst hk
        simp only [Sum.elim_inr, Option.some.injEq] at hr
        subst hr
        exact hQ (.exit id) _ _ _ _ _ _ h' hz
      | ret =>
        rw [Option.bind_eq_some_iff] at hk
        obtain ⟨z, hz, hk⟩ := hk
        simp only [Option.some.injEq] at hk
        subst hk
        simp only [Sum.elim_inr, Option.some.injEq] at hr
        subst hr
        exact hQ .ret _ _ _ _ _ _ h' hz
    · rename_i s hj
      rw [Option.bind_eq_some_iff] at hr
      obtain ⟨u, hu, hr⟩ := hr
      refine wp_seq (run_ok hmix hE hq hlp x hok.1 hs.1 h hu fun e τ I' loc' L' a' w' h' hk => ?_)
      cases e with
      | normal =>
        obtain ⟨x, I2, loc2, L2, g1, g2⟩ := takeK_ok hE.cd h' hk
        simp only [Option.some.injEq] at g2
        subst g2
        exact run_ok hmix hE hq hlp y hok.2 hs.2 g1 hr hQ
      | exit id => cases hk
      | ret => cases hk
  | .cond c x y, R, σ, I, loc, L, a, w, K, r, QC, hok, hs, h, hr, hQ => by
    simp only [codeOkT, Bool.and_eq_true] at hok
    simp only [strip, Code.cond.injEq, true_and] at hs
    simp only [run] at hr
    have hv := (evT_ok h c).1
    split at hr
    · rename_i q hc
      have hc' : evT E.G σ.f.t c = .bool q := hc
      rw [hc'] at hv; simp only [den, V] at hv
      refine wp_cond hv ?_
      cases q
      · exact run_ok hmix hE hq hlp y hok.2 hs.2 h (by simpa using hr) hQ
      · exact run_ok hmix hE hq hlp x hok.1 hs.1 h (by simpa using hr) hQ
    · cases hr
  | .block id b, R, σ, I, loc, L, a, w, K, r, QC, hok, hs, h, hr, hQ => by
    have out : ∀ (e : Ex) (τ : ST T) (I' : Nat → Prop) (loc' : Nat → Nat → Loc) (L' : Nat → Nat → Nat) (a' : Act) (w' : World), RelT E O I0 w0 n kp I' loc' L' τ.f a' w' → (match e with
        | .exit j => match Nat.beq j id with
          | true => K .normal τ
          | false => K (.exit j) τ
        | e => K e τ) = some r → Exit.inBlock id QC e.con a' w' := by
      intro e τ I' loc' L' a' w' h' hk
      cases e with
      | normal => exact hQ .normal _ _ _ _ _ _ h' hk
      | ret => exact hQ .ret _ _ _ _ _ _ h' hk
      | exit j =>
        simp only [Ex.con, Exit.inBlock]
        simp only at hk
        split at hk
        · rename_i hj
          rw [if_pos (Nat.eq_of_beq_eq_true hj)]
          exact hQ .normal _ _ _ _ _ _ h' hk
        · rename_i hj
          rw [if_neg (fun e => by subst e; simp at hj)]
          exact hQ (.exit j) _ _ _ _ _ _ h' hk
    simp only [codeOkT] at hok
    simp only [strip] at hs
    simp only [run] at hr
    split at hr
    · rename_i S hS
      rw [hS] at hok hs
      simp only at hok hs
      obtain ⟨j, hj1, hj2⟩ := List.any_eq_true.1 hok
      have hj := Nat.eq_of_beq_eq_true hj2
      subst hj
      simp only [Code.block.injEq, true_and] at hs
      subst hs
      obtain ⟨x, I1, loc1, L1, g1, g2⟩ := takeC_ok hE.cd h hr
      rw [Option.bind_eq_some_iff] at g2
      obtain ⟨y, g3, g4⟩ := g2
      rw [outX_at] at g4
      exact wp_block (hlp _ hj1 S hS O I0 w0 kp I1 loc1 L1 a w x y _ hq g1 g3 fun I' loc' L' a' w' h' => out _ _ _ _ _ _ _ h' g4)
    · rename_i hS
      rw [hS] at hok hs
      simp only at hok hs
      simp only [Code.block.injEq, true_and] at hs
      exact wp_block (run_ok hmix hE hq hlp b hok hs h hr out)
  | .loop b, R, σ, I, loc, L, a, w, K, r, QC, hok, hs, h, hr, hQ => by simp [run] at hr
  | .rangeFunc _ _ _ _, R, σ, I, loc, L, a, w, K, r, QC, hok, hs, h, hr, hQ => by simp [run] at hr
  | .scope _, R, σ, I, loc, L, a, w, K, r, QC, hok, hs, h, hr, hQ => by simp [run] at hr
  | .goto _, R, σ, I, loc, L, a, w, K, r, QC, hok, hs, h, hr, hQ => by simp [run] at hr
  | .refuse _, R, σ, I, loc, L, a, w, K, r, QC, hok, hs, h, hr, hQ => by simp [run] at hr

/-- A LOOP, out of its rounds. -/
theorem loop_ok (hmix : P.follows .mixedOrders = true) (hE : EnvOk P E) (hlp : ∀ id ∈ done, ∀ S, A.lp id = some S → LoopOk P E n kq (loopAt id c0) S) {b : Code} {hd : Shape} {cp : List Cp} {outs : List (Ex × Shape)} {f : tySs T hd.slots → Option (tySs T hd.slots ⊕ tyX T outs)} {go : tySs T hd.slots → Option (tyX T outs)} (k : Nat)
    (hok : codeOkT E A n kq done b = true) (hs : strip A c0 b = b) (hf : ∀ x, run E A b (layC E.C hd cp x) (roundK E.C hd cp outs) = f x) (hgo : ∀ x, go x = iter f k x) : LoopOk P E n kq b ⟨hd, outs, go, cp⟩ := by
  intro O I0 w0 kp I loc L a w x y QC hq h hx hQ
  simp only at x y h hx hQ
  rw [hgo] at hx
  refine wp_loop_rounds k ?_
  clear hgo
  induction k generalizing x I loc L a w with
  | zero => simp [iter] at hx
  | succ k ih =>
    rw [rounds_succ]
    simp only [iter] at hx
    rw [Option.bind_eq_some_iff] at hx
    obtain ⟨u, hu, hx⟩ := hx
    rw [← hf] at hu
    refine run_ok hmix hE hq hlp b hok hs h hu fun e τ I' loc' L' a' w' h' hk => ?_
    have leave : ∀ e, e ≠ Ex.normal → inX E.C outs e τ (fun x => some (Sum.inr x)) = some u → QC e.con a' w' := by
      intro e _ hk
      obtain ⟨y', I2, loc2, L2, g1, g2, g3⟩ := inX_ok hE.cd h' outs hk
      simp only [Option.some.injEq] at g3
      subst g3
      simp only [Sum.elim_inr, Option.some.injEq] at hx
      subst hx
      rw [← g1]
      exact hQ _ _ _ _ _ g2
    cases e with
    | normal =>
      simp only [roundK] at hk
      obtain ⟨x', I2, loc2, L2, g1, g2⟩ := takeC_ok hE.cd h' hk
      simp only [Option.some.injEq] at g2
      subst g2
      exact ih _ _ _ _ _ x' g1 hx
    | exit id => exact leave (.exit id) (fun h => by cases h) hk
    | ret => exact leave .ret (fun h => by cases h) hk
end
end Go.Abs

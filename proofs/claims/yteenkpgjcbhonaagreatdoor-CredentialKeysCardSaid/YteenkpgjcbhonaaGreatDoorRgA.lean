/- Pieces of a function's code beside a range over a function; operations in a fence that bars nothing. -/
import Derived.Test.YteenkpgjcbhonaaGreatDoorLib8
import Derived.RangeFuncMany
import Derived.RangeFuncLeaves
namespace Go.Abs
open Go
set_option linter.unusedVariables false
set_option linter.unusedSimpArgs false
section
variable {P : Program}
theorem rows_wide {n : Nat} {row : String} {args : Array Value} {w : World} {R : Value → World → Prop} (h : Rows P row args w R) : RowsIn Fence.wide n P row args w R :=
  fun c cs _ => let ⟨v, w', r, s⟩ := h c cs; ⟨v, w', r, stepsIn_wide.2 s⟩
theorem upon_in {o : Oper} {a : Act} {next : Act → World → Prop} {Q : Exit → Act → World → Prop} {r : Result Next} {n : Nat} (h : o.upon P a next Q r) : o.uponIn Fence.wide n P a next Q r := by
  have hd : Fence.wide.depth.isSome = true → 1 ≤ n := fun h => by cases h
  cases r with
  | ok x w' =>
    cases x <;> first | exact h | exact ⟨hd, callsIn_wide.2 h⟩ | exact ⟨hd, rows_wide h⟩ | exact h.elim
  | halt x w' => cases x <;> first | exact h | exact h.elim
end
section
variable {T : Nat → Type} {P : Program} {E : Env T} {O I0 I : Nat → Prop} {w0 w : World} {n : Nat} {kp : List (Nat × Value)} {loc : Nat → Nat → Loc} {L : Nat → Nat → Nat} {σ : SF T} {a : Act} {ops : Array Oper} {q : Nat} {Q : Exit → Act → World → Prop}
theorem stepIn_ok (hE : EnvOk P E) (h : RelT E O I0 w0 n kp I loc L σ a w) {i : Nat} {o : Oper} (hi : ops[i]? = some o) (hd : ∀ k, o.dst = some k → k < n ∧ ∀ p ∈ kp, p.1 ≠ k) {σ' : SF T} (hs : stepOT E ops o σ = some σ') {rest : List Nat}
    (hK : ∀ a' w' I' loc' L', RelT E O I0 w0 n kp I' loc' L' σ' a' w' → wpOpsIn Fence.wide q P ops Q rest a' w') : wpOpsIn Fence.wide q P ops Q (i :: rest) a w := by
  unfold stepOT at hs
  simp only [wpOpsIn, hi]
  split at hs
  · cases hs
  · rename_i hg
    rw [gdT_ok h hg]
    simp only [Option.some.injEq] at hs; subst hs
    simp only [Bool.false_eq_true, if_false]
    refine ⟨fun _ _ => trivial, hK _ _ I loc L ?_⟩
    exact h.put (d := .tup []) (v := undef) o.dst hd h.mem h.wfm h.glob (by simp only [den, denL, V, VL]; exact ⟨[], rfl, rfl⟩) trivial (.refl _ _) (fun _ h => .inl h) (.refl _) (.refl _ _) (.refl _ _)
  · rename_i hg
    rw [gdT_ok h hg]
    simp only [if_true]
    split at hs
    case h_2 => cases hs
    rename_i d m' hsem
    simp only [Option.some.injEq] at hs; subst hs
    unfold semT at hsem
    obtain ⟨d1, m1, h1, h2⟩ := opK_ok hE h hsem
    simp only [Option.some.injEq, Prod.mk.injEq] at h2
    obtain ⟨rfl, rfl⟩ := h2
    refine ⟨fun _ _ => trivial, ?_⟩
    rw [show o.semAt Fence.wide.round a.eval = execOp a.eval o from Oper.semAt_none _ _]
    refine upon_in (h1 a _ Q fun v w' I' loc' L' z1 z2 z3 z4 z5 z6 z7 z8 z9 z10 => ?_)
    exact hK _ _ I' loc' L' (h.put o.dst hd z1 z2 z3 z4 z5 z6 z7 z8 z9 z10)
theorem runIn_ok (hE : EnvOk P E) {rest : List Nat} : ∀ (l : List Nat) {σ σ' : SF T} {I : Nat → Prop} {loc : Nat → Nat → Loc} {L : Nat → Nat → Nat} {a : Act} {w : World}, (∀ i ∈ l, ∀ (o : Oper) (k : Nat), ops[i]? = some o → o.dst = some k → k < n ∧ ∀ p ∈ kp, p.1 ≠ k) →
    RelT E O I0 w0 n kp I loc L σ a w → runOpsT E ops l σ = some σ' → (∀ a' w' I' loc' L', RelT E O I0 w0 n kp I' loc' L' σ' a' w' → wpOpsIn Fence.wide q P ops Q rest a' w') → wpOpsIn Fence.wide q P ops Q (l ++ rest) a w
  | [], σ, σ', I, loc, L, a, w, hd, h, hr, hQ => by
    simp only [runOpsT, Option.some.injEq] at hr; subst hr
    exact hQ _ _ _ _ _ h
  | i :: r, σ, σ', I, loc, L, a, w, hd, h, hr, hQ => by
    simp only [runOpsT] at hr
    split at hr
    case h_2 => cases hr
    rename_i o ho
    split at hr
    case h_2 => cases hr
    rename_i σ1 hs
    exact stepIn_ok hE h ho (fun k hk => hd i (by simp) o k ho hk) hs fun a' w' I' loc' L' h' => runIn_ok hE r (fun i hi => hd i (by simp [hi])) h' hr hQ
/-- another world that holds the same. -/
theorem RelT.world (h : RelT E O I0 w0 n kp I loc L σ a w) {W : World} (hs : ∀ j, O j ∨ I j → W.heap[j]? = w.heap[j]?) (hz : W.heap.size = w.heap.size) (hr : ∀ b, rowSize w b ≤ rowSize W b) : RelT E O I W n kp I loc L σ a W := by
  have he : Ext I I w W := ⟨fun _ h => h, fun b hb => hs b (.inr hb), hr⟩
  refine ⟨h.size, h.defers, fun i => V_mono he _ loc loc _ (.refl _) (h.tmp i), h.wf, ?_, h.wfm, Glob_mono h.glob he, .refl _ _, fun _ => Nat.le_refl _, fun _ h => h, fun _ h => .inl h, h.kept⟩
  refine ⟨fun b hb => RelB_mono he (.refl _) (fun _ => rfl) (fun ho g k hk => hs k (.inl (h.mem.own b g k hb ho hk).1)) (h.mem.box b hb), h.mem.free, fun b g k hb ho hk => ?_, h.mem.inj, fun k hk => ?_, fun k hk => h.mem.up k (by omega)⟩
  · obtain ⟨h1, h2, h3⟩ := h.mem.own b g k hb ho hk
    exact ⟨h1, h2, by omega⟩
  · have := h.mem.imm k hk; omega
/-- a piece of code that ends in the usual way. -/
def pk (C : Cd T) (s : Shape) (e : Ex) (σ : ST T) : Option (tySs T s.slots) :=
  match e with
  | .normal => takeK C s σ some
  | _ => none
theorem piece_ok (hmix : P.follows .mixedOrders = true) (hE : EnvOk P E) {A : Loc2 T} {kq done : List Nat} {c0 : Code} (hq : ∀ p ∈ kp, p.1 ∈ kq) (hlp : ∀ id ∈ done, ∀ S, A.lp id = some S → LoopOk P E n kq (loopAt id c0) S) {c : Code} {s1 s2 : Shape} {F : tySs T s1.slots → Option (tySs T s2.slots)}
    (hok : codeOkT E A n kq done c = true) (hs : strip A c0 c = c) (hf : ∀ x, run E A c (lay E.C s1 x) (pk E.C s2) = F x) {x : tySs T s1.slots} {y : tySs T s2.slots} (h : RelT E O I0 w0 n kp I loc L (lay E.C s1 x).f a w) (hx : F x = some y)
    (hQ : ∀ I' loc' L' a' w', RelT E O I0 w0 n kp I' loc' L' (lay E.C s2 y).f a' w' → Q .normal a' w') : c.wp P Q a w := by
  rw [← hf] at hx
  refine run_ok hmix hE hq hlp c hok hs h hx fun e τ I' loc' L' a' w' h' hk => ?_
  cases e with
  | normal =>
    simp only [pk] at hk
    obtain ⟨x', I2, loc2, L2, g1, g2⟩ := takeK_ok hE.cd h' hk
    simp only [Option.some.injEq] at g2
    subst g2
    exact hQ _ _ _ _ _ g1
  | exit id => simp only [pk] at hk; cases hk
  | ret => simp only [pk] at hk; cases hk
/-- what a loop keeps. -/
theorem iter_inv {α β : Type} {f : α → Option (α ⊕ β)} (Inv : α → Prop) (Q : β → Prop) (h1 : ∀ s t, Inv s → f s = some (.inl t) → Inv t) (h2 : ∀ s b, Inv s → f s = some (.inr b) → Q b) : ∀ (n : Nat) (s : α) (b : β), Inv s → iter f n s = some b → Q b
  | 0, s, b, _, h => by simp [iter] at h
  | n + 1, s, b, hs, h => by
    unfold iter at h
    rw [Option.bind_eq_some_iff] at h
    obtain ⟨u, hu, h⟩ := h
    cases u with
    | inl t => exact iter_inv Inv Q h1 h2 n t b (h1 s t hs hu) h
    | inr c =>
      have e : c = b := Option.some.inj h
      subst e
      exact h2 s c hs hu
end
end Go.Abs

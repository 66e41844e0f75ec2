/- A state and what it says; operations and regions of operations. No condition. -/
import Derived.Test.YtlinfghjilpcdaaTyS
namespace Go.Abs
open Go
set_option linter.unusedSimpArgs false

section
variable {T : Nat → Type}

structure RelT (E : Env T) (O I0 : Nat → Prop) (w0 : World) (n : Nat) (kp : List (Nat × Value)) (I : Nat → Prop) (loc : Nat → Nat → Loc) (L : Nat → Nat → Nat) (σ : SF T) (a : Act) (w : World) : Prop where
  size : a.tmps.size = n
  defers : a.defers = []
  tmp : ∀ i, V I w (den E.C (σ.t i)) loc (a.tmps.getD i undef)
  wf : ∀ i, WfD L (σ.t i)
  mem : MRel O I loc (denM E.C σ.m) w
  wfm : WfM L σ.m
  glob : Glob (GD E) I w
  fr : Fr O w0 w
  rows : ∀ b, rowSize w0 b ≤ rowSize w b
  imm0 : ∀ k, I0 k → I k
  imm1 : ∀ k, I k → I0 k ∨ O k
  kept : ∀ p ∈ kp, a.tmps.getD p.1 undef = p.2

variable {P : Program} {E : Env T} {O I0 I : Nat → Prop} {w0 w : World} {n : Nat} {kp : List (Nat × Value)} {loc : Nat → Nat → Loc} {L : Nat → Nat → Nat} {σ : SF T} {a : Act} {R : Type} {C : Cd T}

theorem mkInt_den {k : IntKind} {n : Int} (h : inK k n = true) : den C (mkInt k n : DT T) = .int k n := by
  simp only [inK, Bool.and_eq_true, decide_eq_true_eq] at h
  obtain ⟨h1, h2⟩ := h
  cases k <;> simp only [mkInt, den] <;> simp only [IntKind.bits] at h2 <;> congr 1
  · have : (UInt8.ofBitVec (BitVec.ofInt 8 n)).toNat = (BitVec.ofInt 8 n).toNat := rfl
    rw [this, BitVec.toNat_ofInt]; omega
  · rw [BitVec.toNat_ofInt]; omega
  · rw [BitVec.toNat_ofInt]; omega
  · rw [BitVec.toNat_ofInt]; omega
theorem mkInt_wf {k : IntKind} {n : Int} : WfD L (mkInt k n : DT T) := by cases k <;> trivial

mutual
theorem ofVT_V : ∀ v : Value, V I w (den C (ofVT v : DT T)) loc v ∧ WfD L (ofVT v : DT T)
  | .bool b => by simp [ofVT, den, V, WfD]
  | .int k n => by
    simp only [ofVT]
    split
    · exact ⟨by simp [den, V], trivial⟩
    · split
      · rename_i h
        rw [mkInt_den h]
        exact ⟨by simp [V], mkInt_wf⟩
      · exact ⟨trivial, trivial⟩
  | .string s => by simp [ofVT, den, V, WfD]
  | .pointer none => by simp [ofVT, den, V, WfD]
  | .pointer (some a) => by simp [ofVT, den, V, WfD]
  | .slice none 0 0 => by simp [ofVT, den, V, WfD]
  | .slice none 0 (n + 1) => by simp [ofVT, den, V, WfD]
  | .slice none (n + 1) _ => by simp [ofVT, den, V, WfD]
  | .slice (some _) _ _ => by simp [ofVT, den, V, WfD]
  | .agg ⟨cs⟩ => by
    simp only [ofVT]
    split
    · rename_i h
      simp only [den, V, WfD]
      exact ⟨⟨cs, rfl, fun x hx => by simpa using List.all_eq_true.1 h x hx, (ofVTs_VL cs).1⟩, (ofVTs_VL cs).2⟩
    · exact ⟨trivial, trivial⟩
  | .nilFunc => by simp [ofVT, den, V, WfD]
  | .nilIface => by simp [ofVT, den, V, WfD]
  | .map none => by simp [ofVT, den, V, WfD]
  | .map (some _) => by simp [ofVT, den, V, WfD]
  | .float _ _ => by simp [ofVT, den, V, WfD]
  | .complex _ _ _ => by simp [ofVT, den, V, WfD]
  | .chan _ => by simp [ofVT, den, V, WfD]
  | .func _ _ _ => by simp [ofVT, den, V, WfD]
  | .iface _ _ => by simp [ofVT, den, V, WfD]
  | .tuple _ => by simp [ofVT, den, V, WfD]
theorem ofVTs_VL : ∀ vs : List Value, VL I w (denL C (ofVTs vs : List (DT T))) loc vs ∧ WfL L (ofVTs vs : List (DT T))
  | [] => by simp [ofVTs, denL, VL, WfL]
  | v :: r => by
    simp only [ofVTs, denL, VL, WfL]
    exact ⟨⟨v, r, rfl, (ofVT_V v).1, (ofVTs_VL r).1⟩, (ofVT_V v).2, (ofVTs_VL r).2⟩
end

theorem evT_ok (h : RelT E O I0 w0 n kp I loc L σ a w) (x : Operand) : V I w (den E.C (evT E.G σ.t x)) loc (a.eval x) ∧ WfD L (evT E.G σ.t x) := by
  cases x with
  | tmp t => exact ⟨h.tmp t, h.wf t⟩
  | const v => exact ofVT_V v
  | global g =>
    simp only [evT, Act.eval]
    cases hg : E.G g with
    | none => exact ⟨trivial, trivial⟩
    | some cs =>
      simp only [den, V, WfD, and_true]
      exact ⟨g, 0, rfl, h.glob g _ (by simp [GD, hg])⟩
  | func f => exact ⟨by simp only [evT, Act.eval, den, denL, V]; exact ⟨[], rfl, by simp [VL]⟩, trivial⟩

theorem RelT.put (h : RelT E O I0 w0 n kp I loc L σ a w) {m' : MT T} {w' : World} {I' : Nat → Prop} {loc' : Nat → Nat → Loc} {L' : Nat → Nat → Nat} {d : DT T} {v : Value} (dst : Option Nat) (hd : ∀ k, dst = some k → k < n ∧ ∀ p ∈ kp, p.1 ≠ k)
    (hm : MRel O I' loc' (denM E.C m') w') (hwm : WfM L' m') (hG : Glob (GD E) I' w') (hv : V I' w' (den E.C d) loc' v) (hwd : WfD L' d) (he : Ext I I' w w') (hI : ∀ k, I' k → I k ∨ O k) (hl : LocExt loc loc') (hL : LExt loc L L') (hf : Fr O w w') :
    RelT E O I0 w0 n kp I' loc' L' ({ σ with m := m' }.put dst d) (a.put dst v) w' := by
  have hold : ∀ i, V I' w' (den E.C (σ.t i)) loc' (a.tmps.getD i undef) := fun i => V_mono he _ loc loc' _ hl (h.tmp i)
  have holw : ∀ i, WfD L' (σ.t i) := fun i => WfD_ext hL _ _ (h.tmp i) (h.wf i)
  have hi1 : ∀ k, I' k → I0 k ∨ O k := fun k hk => (hI k hk).elim (h.imm1 k) .inr
  have hrows : ∀ b, rowSize w0 b ≤ rowSize w' b := fun b => Nat.le_trans (h.rows b) (he.rows b)
  cases dst with
  | none => exact ⟨h.size, h.defers, hold, holw, hm, hwm, hG, h.fr.trans hf, hrows, fun k hk => he.imm k (h.imm0 k hk), hi1, h.kept⟩
  | some k =>
    obtain ⟨hk, hkp⟩ := hd k rfl
    have get1 : (a.tmps.setIfInBounds k v).getD k undef = v := by
      simp [Array.getD_eq_getD_getElem?, Array.getElem?_setIfInBounds, h.size, hk]
    have get2 : ∀ i, i ≠ k → (a.tmps.setIfInBounds k v).getD i undef = a.tmps.getD i undef := fun i e => by
      simp [Array.getD_eq_getD_getElem?, Array.getElem?_setIfInBounds, Ne.symm e]
    refine ⟨by simp [Act.put, h.size], h.defers, fun i => ?_, fun i => ?_, hm, hwm, hG, h.fr.trans hf, hrows, fun k hk => he.imm k (h.imm0 k hk), hi1, fun p hp => ?_⟩
    · simp only [SF.put, Act.put, upd]
      by_cases e : i = k
      · subst e
        rw [if_pos rfl, get1]; exact hv
      · rw [if_neg e, get2 i e]; exact hold i
    · simp only [SF.put, upd]
      by_cases e : i = k
      · rw [if_pos e]; exact hwd
      · rw [if_neg e]; exact holw i
    · simp only [Act.put]
      rw [get2 p.1 (hkp p hp)]
      exact h.kept p hp

/-- AN OPERATION IS FOLLOWED. -/
theorem opK_ok (hE : EnvOk P E) (h : RelT E O I0 w0 n kp I loc L σ a w) {o : Oper} {K : DT T → MT T → Option R} {r : R} (hk : opK E o.op (evT E.G σ.t) σ.m K = some r) :
    ∃ d m', FollowsT P E O I loc L w o ((execOp a.eval o).run P w) d m' ∧ K d m' = some r := by
  have he := fun x => (evT_ok h x).1
  have hwe := fun x => (evT_ok h x).2
  obtain ⟨dst, op, type, pos, after, guard⟩ := o
  simp only at hk
  unfold opK at hk
  split at hk
  · obtain ⟨d, h1, h2, h3⟩ := nK_ok (L := L) hE.tys hE.cd hwe hk
    exact ⟨d, σ.m, .of_D h.mem h.wfm h2 (Follows.of_res h.glob (Res.of_same h.mem (semN_ok (o := ⟨dst, op, type, pos, after, guard⟩) he h1))), h3⟩
  · split at hk
    · rename_i f args at' _
      obtain ⟨d, h1, h2⟩ := call_look hE h.mem h.wfm h.glob he hwe (f := f) rfl hk
      exact ⟨d, σ.m, h1, h2⟩
    · obtain ⟨d, h1, h2, h3⟩ := rK_ok (P := P) (o := ⟨dst, op, type, pos, after, guard⟩) hE.cd hE.tys h.mem h.wfm h.glob he hwe hk
      exact ⟨d, σ.m, .of_D h.mem h.wfm h2 h1, h3⟩
  · split at hk
    · split at hk
      case h_2 => cases hk
      rename_i f args at' _ k cap hf
      exact call_write hE h.mem h.wfm h.glob he hwe hf hk
    · obtain ⟨d, m', h1, h2⟩ := wK_ok (P := P) (o := ⟨dst, op, type, pos, after, guard⟩) hE.cd hE.tys h.mem h.wfm he hwe hk
      exact ⟨d, m', .of_res h.glob h1, h2⟩

theorem gdT_ok (h : RelT E O I0 w0 n kp I loc L σ a w) {ops : Array Oper} {o : Oper} {b : Bool} (hg : gdT ops o σ.t = some b) : Region.wanted o (yielded ops a.tmps) = b := by
  unfold gdT gslot at hg
  unfold Region.wanted
  cases hgd : o.guard with
  | none => simp only [hgd, Option.some.injEq] at hg; subst hg; rfl
  | some p =>
    obtain ⟨j, want⟩ := p
    simp only [hgd] at hg
    cases hk : (ops[j]?).bind (·.dst) with
    | none => simp [hk] at hg
    | some k =>
      simp only [hk] at hg
      split at hg
      · rename_i q hd
        have hv := h.tmp k
        rw [hd] at hv; simp only [den, V] at hv
        have hy : a.tmps[k]? = some (.bool q) := by
          rw [Array.getD_eq_getD_getElem?] at hv
          cases hz : a.tmps[k]? with
          | none => rw [hz] at hv; simp [undef] at hv
          | some x => rw [hz] at hv; simp at hv; rw [hv]
        simp only [yielded, hk, Option.bind_some, hy]
        simp only [Option.some.injEq] at hg; subst hg
        cases q <;> cases want <;> rfl
      · rename_i hd
        have hv := h.tmp k
        rw [hd] at hv; simp only [den, denL, V, VL] at hv
        obtain ⟨vs, hv, rfl⟩ := hv
        simp only [Option.some.injEq] at hg; subst hg
        simp only [yielded, hk, Option.bind_some]
        rw [Array.getD_eq_getD_getElem?] at hv
        cases hz : a.tmps[k]? with
        | none => simp
        | some x =>
          rw [hz] at hv; simp at hv; subst hv
          simp
      · cases hg

theorem stepOT_ok (hE : EnvOk P E) (h : RelT E O I0 w0 n kp I loc L σ a w) {ops : Array Oper} {i : Nat} {o : Oper} (hi : ops[i]? = some o) (hd : ∀ k, o.dst = some k → k < n ∧ ∀ p ∈ kp, p.1 ≠ k) {σ' : SF T} (hs : stepOT E ops o σ = some σ')
    {K : Act → World → Prop} {Q : Exit → Act → World → Prop} (hK : ∀ a' w' I' loc' L', RelT E O I0 w0 n kp I' loc' L' σ' a' w' → K a' w') : wpOp P ops Q i K a w := by
  unfold stepOT at hs
  unfold wpOp
  simp only [hi]
  split at hs
  · cases hs
  · rename_i hg
    rw [gdT_ok h hg]
    simp only [Option.some.injEq] at hs; subst hs
    simp only [Bool.false_eq_true, if_false]
    refine hK _ _ I loc L ?_
    exact h.put (d := .tup []) (v := undef) o.dst hd h.mem h.wfm h.glob (by simp only [den, denL, V, VL]; exact ⟨[], rfl, rfl⟩) trivial (.refl _ _) (fun _ h => .inl h) (.refl _) (.refl _ _) (.refl _ _)
  · rename_i hg
    rw [gdT_ok h hg]
    simp only [if_true]
    split at hs
    case h_2 => cases hs
    rename_i d m' hsem
    simp only [Option.some.injEq] at hs; subst hs
    left
    unfold semT at hsem
    obtain ⟨d1, m1, h1, h2⟩ := opK_ok hE h hsem
    simp only [Option.some.injEq, Prod.mk.injEq] at h2
    obtain ⟨rfl, rfl⟩ := h2
    refine h1 a K Q fun v w' I' loc' L' z1 z2 z3 z4 z5 z6 z7 z8 z9 z10 => ?_
    exact hK _ _ I' loc' L' (h.put o.dst hd z1 z2 z3 z4 z5 z6 z7 z8 z9 z10)

theorem runOpsT_ok (hE : EnvOk P E) {ops : Array Oper} (hd : ∀ (i : Nat) (o : Oper) (k : Nat), ops[i]? = some o → o.dst = some k → k < n ∧ ∀ p ∈ kp, p.1 ≠ k) {Q : Exit → Act → World → Prop} : ∀ (l : List Nat) {σ σ' : SF T} {I : Nat → Prop} {loc : Nat → Nat → Loc} {L : Nat → Nat → Nat} {a : Act} {w : World},
    RelT E O I0 w0 n kp I loc L σ a w → runOpsT E ops l σ = some σ' → (∀ a' w' I' loc' L', RelT E O I0 w0 n kp I' loc' L' σ' a' w' → Q .normal a' w') → wpOps P ops Q l a w
  | [], σ, σ', I, loc, L, a, w, h, hr, hQ => by
    simp only [runOpsT, Option.some.injEq] at hr; subst hr
    exact hQ _ _ _ _ _ h
  | i :: r, σ, σ', I, loc, L, a, w, h, hr, hQ => by
    simp only [runOpsT] at hr
    split at hr
    case h_2 => cases hr
    rename_i o ho
    split at hr
    case h_2 => cases hr
    rename_i σ1 hs
    rw [wpOps_cons]
    exact stepOT_ok hE h ho (fun k hk => hd i o k ho hk) hs fun a' w' I' loc' L' h' => runOpsT_ok hE hd r h' hr hQ

theorem RelT.drew (h : RelT E O I0 w0 n kp I loc L σ a w) : RelT E O I0 w0 n kp I loc L σ a { w with drawn := w.drawn + 1 } := by
  have he : Ext I I w { w with drawn := w.drawn + 1 } := Ext.of_heap rfl
  exact ⟨h.size, h.defers, fun i => V_mono he _ loc loc _ (.refl _) (h.tmp i), h.wf, MRel.of_heap (w := w) rfl h.mem, h.wfm, Glob_mono h.glob he, h.fr.trans ⟨rfl, rfl, rfl, Nat.le_refl _, fun _ _ _ => rfl⟩, fun b => Nat.le_trans (h.rows b) (he.rows b), h.imm0, h.imm1, h.kept⟩
end
end Go.Abs

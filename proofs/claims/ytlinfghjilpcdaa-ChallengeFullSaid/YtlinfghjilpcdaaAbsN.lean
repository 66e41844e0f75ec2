/- What a contract of a function says in abstract values, and that a call follows it. No condition. -/
import Derived.Test.YtlinfghjilpcdaaAbsM
namespace Go.Abs
open Go
set_option linter.unusedSimpArgs false

/-- what the package-level variables hold that are only read. -/
def Glob (G : Nat → Option (List D)) (I : Nat → Prop) (w : World) : Prop := ∀ g cs, G g = some cs → I g ∧ VC I w cs g 0

def none' : Nat → Prop := fun _ => False

/-- A CONTRACT: called with arguments that read as 'ds' the function returns what reads as F's answer; what was there stays; what it made is the answer's own. Kind 0, 1: the answer leads into no elder memory. -/
def Sound (P : Program) (G : Nat → Option (List D)) (f : FuncId) (kind : Nat) (F : List D → Option (D × List Box)) : Prop :=
  (∃ fn, P.funcs[f]? = some fn ∧ fn.body.isSome = true ∧ (fn.name == "runtime.NumGoroutine") = false) ∧
  ∀ (I : Nat → Prop) (w : World) (args : List Value) (ds : List D) (r : D) (bx : List Box),
    (∀ k, I k → k < w.heap.size) → Glob G I w → VL I w ds free args → F ds = some (r, bx) →
    Calls P f args.toArray w fun e w' => ∃ v I' loc', e = .returned v ∧ Fr none' w w' ∧ (if kind ≤ 1 then I' = none' else (∀ k, I k → I' k) ∧ ∀ k, I' k → I k ∨ w.heap.size ≤ k) ∧
      V I' w' r loc' v ∧ MRel (fun k => w.heap.size ≤ k) I' loc' ⟨bx.length, bxOf bx⟩ w'

section
variable {P : Program} {O I : Nat → Prop} {w : World} {loc : Nat → Nat → Loc} {m : Mem}

theorem imm_all {J : Nat → Prop} (hI : ∀ k, I k → J k) : Ext I J w w := ⟨hI, fun _ _ => rfl, fun _ => Nat.le_refl _⟩

theorem snap_both {J : Nat → Prop} (hm : MRel O I loc m w) (hI : ∀ k, I k → J k) (hJ : ∀ k, k < w.heap.size → J k) : ∀ n,
    (∀ d d' v, snap m n d = some d' → V I w d loc v → V J w d' free v) ∧ (∀ ds ds' vs, snapL m n ds = some ds' → VL I w ds loc vs → VL J w ds' free vs)
  | 0 => by
    refine ⟨fun d d' v h => by simp [snap] at h, fun ds ds' vs h hv => ?_⟩
    cases ds with
    | nil => simp only [snapL, Option.some.injEq] at h; subst h; simpa only [VL] using hv
    | cons d r => simp [snapL] at h
  | n + 1 => by
    have ih := snap_both hm hI hJ n
    have hone : ∀ d d' v, snap m (n + 1) d = some d' → V I w d loc v → V J w d' free v := by
      intro d d' v h hv
      have he : Ext I J w w := imm_all hI
      cases d <;> simp only [snap] at h
      case bs b g s i k =>
        rw [Option.map_eq_some_iff] at h
        obtain ⟨rows, hr, rfl⟩ := h
        obtain ⟨all, ha, hle, rfl⟩ := cut_some hr
        simp only [V] at hv ⊢
        have hlt : b < m.nb := lt_nb (g := g) hm (by intro e; simp [e] at hv)
        rcases rows_at hm hlt ha with ⟨hl, rfl⟩ | ⟨c, hl, hvr⟩
        · simp only [hl] at hv
          obtain ⟨rfl, rfl, rfl⟩ := hv
          left; exact ⟨by simp, _, _, rfl⟩
        · simp only [hl] at hv
          obtain ⟨o, cap, rfl, hn, ho, hrs⟩ := hv
          right
          have hlen : ((all.drop i).take k).length = k := by simp; omega
          rw [hlen]
          have hc : c < w.heap.size := by
            rcases Nat.lt_or_ge c w.heap.size with h | h
            · exact h
            · have hz : w.heap[c]? = none := Array.getElem?_eq_none h
              rcases rows_some ha with e | e
              · have hx := hm.box b hlt
                rw [e] at hx; simp only [RelB] at hx
                rcases hx.2 with ⟨h1, _⟩ | ⟨c', _, _, _, h1, h2, _⟩
                · rw [hl] at h1; cases h1
                · rw [hl] at h1; cases h1; rw [hz] at h2; cases h2
              · have hx := hm.box b hlt
                rw [e] at hx; simp only [RelB] at hx
                rcases hx.2 with ⟨h1, _⟩ | ⟨c', h1, h2, _⟩
                · rw [hl] at h1; cases h1
                · rw [hl] at h1; cases h1; exact hm.imm c h2
          refine ⟨c, o, cap, rfl, hn, hJ c hc, ?_⟩
          rcases ho with ho | ho
          · have : k = 0 := by omega
            subst this
            simp [VR]
          · subst ho
            have := VR_mono he s _ c _ rfl (VR_take k (VR_drop i hvr))
            simpa using this
      case bp b off =>
        split at h
        case h_2 => cases h
        rename_i cs hb
        rw [Option.map_eq_some_iff] at h
        obtain ⟨cs', hc, rfl⟩ := h
        simp only [V] at hv ⊢
        have hlt : b < m.nb := lt_nb (g := 0) hm (by intro e; simp [e] at hv)
        have hbx := hm.box b hlt
        rw [hb] at hbx; simp only [RelB] at hbx
        obtain ⟨_, k, c, el, fz, hl, hw, _, h1, hvl⟩ := hbx
        simp only [hl] at hv; subst hv
        have hk : k < w.heap.size := by
          rcases Nat.lt_or_ge k w.heap.size with h | h
          · exact h
          · rw [Array.getElem?_eq_none h] at hw; cases hw
        refine ⟨k, off, rfl, hJ k hk, list_VC (ih.2 _ _ _ hc (VL_drop off hvl)) (fun x hx => h1 x (List.mem_of_mem_drop hx)) fun j x hj => ?_⟩
        rw [List.getElem?_drop] at hj
        simp [World.cell?, hw]
        simpa using hj
      case ap b g s i off =>
        split at h
        case h_2 => cases h
        rename_i rows hr
        rw [Option.map_eq_some_iff] at h
        obtain ⟨row, hrow, rfl⟩ := h
        simp only [V] at hv ⊢
        have hlt : b < m.nb := lt_nb (g := g) hm (by intro e; simp [e] at hv)
        rcases rows_at hm hlt hr with ⟨_, rfl⟩ | ⟨k, hl, hvr⟩
        · simp at hrow
        simp only [hl] at hv; subst hv
        have hc := (VR_get hvr hrow).2
        have hk : k < w.heap.size := by
          rcases Nat.lt_or_ge k w.heap.size with h | h
          · exact h
          · have hz : w.heap[k]? = none := Array.getElem?_eq_none h
            rcases rows_some hr with e | e
            · have hx := hm.box b hlt
              rw [e] at hx; simp only [RelB] at hx
              rcases hx.2 with ⟨h1, _⟩ | ⟨c', _, _, _, h1, h2, _⟩
              · rw [hl] at h1; cases h1
              · rw [hl] at h1; cases h1; rw [hz] at h2; cases h2
            · have hx := hm.box b hlt
              rw [e] at hx; simp only [RelB] at hx
              rcases hx.2 with ⟨h1, _⟩ | ⟨c', h1, h2, _⟩
              · rw [hl] at h1; cases h1
              · rw [hl] at h1; cases h1; exact hm.imm k h2
        have h2 := VC_mono he _ k _ rfl (VC_drop off hc)
        simp only [Nat.zero_add] at h2
        exact ⟨k, _, rfl, hJ k hk, h2⟩
      case agg cs =>
        rw [Option.map_eq_some_iff] at h
        obtain ⟨cs', hc, rfl⟩ := h
        simp only [V] at hv ⊢
        obtain ⟨vs, rfl, h1, hl⟩ := hv
        exact ⟨vs, rfl, h1, ih.2 _ _ _ hc hl⟩
      case tup cs =>
        rw [Option.map_eq_some_iff] at h
        obtain ⟨cs', hc, rfl⟩ := h
        simp only [V] at hv ⊢
        obtain ⟨vs, rfl, hl⟩ := hv
        exact ⟨vs, rfl, ih.2 _ _ _ hc hl⟩
      case fn f cs =>
        rw [Option.map_eq_some_iff] at h
        obtain ⟨cs', hc, rfl⟩ := h
        simp only [V] at hv ⊢
        obtain ⟨vs, rfl, hl⟩ := hv
        exact ⟨vs, rfl, ih.2 _ _ _ hc hl⟩
      all_goals
        simp only [Option.some.injEq] at h; subst h
        first
          | trivial
          | (simpa only [V] using hv)
          | (exact V_mono he _ free free _ (.refl _) (by simpa only [V] using hv))
    refine ⟨hone, fun ds => ?_⟩
    induction ds with
    | nil => intro ds' vs h hv; simp only [snapL, Option.some.injEq] at h; subst h; simpa only [VL] using hv
    | cons d r ihr =>
      intro ds' vs h hv
      simp only [snapL] at h
      split at h
      case h_2 => cases h
      rename_i x y hx hy
      simp only [Option.some.injEq] at h; subst h
      simp only [VL] at hv ⊢
      obtain ⟨v, vr, rfl, h1, h2⟩ := hv
      exact ⟨v, vr, rfl, ih.1 _ _ _ hx h1, ihr _ _ hy h2⟩
end
end Go.Abs

/- Drawn regions: an operation on its own part of the memory. No condition. -/
import Derived.Test.YtlinfghjilpcdaaTyU
namespace Go.Abs
open Go
set_option linter.unusedSimpArgs false
set_option linter.unusedVariables false

section
variable {T : Nat → Type} {P : Program} {E : Env T} {O I0 I I' : Nat → Prop} {w0 w w' : World} {n : Nat} {kp : List (Nat × Value)} {loc loc' : Nat → Nat → Loc} {L L' : Nat → Nat → Nat} {a : Act} {R : Type} {C : Cd T} {m : MT T} {ρ : Nat → Nat}

theorem has_iff {Φ : List Nat} {k : Nat} : has Φ k = true ↔ k ∈ Φ := by
  unfold has
  rw [List.any_eq_true]
  constructor
  · rintro ⟨x, h1, h2⟩; rw [Nat.eq_of_beq_eq_true h2]; exact h1
  · intro h; exact ⟨k, h, by simp⟩

mutual
theorem V_ren : ∀ (d : DT T) (v : Value), (∀ b ∈ d.ids, ∀ g, loc' (ρ b) g = loc b g) → V I w (den C d) loc v → V I w (den C (d.ren ρ)) loc' v
  | .dead, _, _, h => h
  | .bool _, _, _, h => h
  | .int _ _, _, _, h => h
  | .u8 _, _, _, h => h
  | .u16 _, _, _, h => h
  | .u32 _, _, _, h => h
  | .u64 _, _, _, h => h
  | .str _, _, _, h => h
  | .lit _, _, _, h => h
  | .nilp, _, _, h => h
  | .nils, _, _, h => h
  | .rp _, _, _, h => by simpa only [DT.ren, den, V] using h
  | .rs _ _, _, _, h => by simpa only [DT.ren, den, V] using h
  | .bp b o, v, hb, h => by
    simp only [DT.ren, den, V] at h ⊢
    rw [hb b (by simp [DT.ids]) 0]; exact h
  | .ap b g c i o, v, hb, h => by
    simp only [DT.ren, den, V] at h ⊢
    rw [hb b (by simp [DT.ids]) g]; exact h
  | .bs b g c i n, v, hb, h => by
    simp only [DT.ren, den, V] at h ⊢
    rw [hb b (by simp [DT.ids]) g]; exact h
  | .bw b g c n, v, hb, h => by
    simp only [DT.ren, den, V] at h ⊢
    rw [hb b (by simp [DT.ids]) g]; exact h
  | .agg cs, v, hb, h => by
    simp only [DT.ren, den, V] at h ⊢
    obtain ⟨vs, h1, h2, h3⟩ := h
    exact ⟨vs, h1, h2, VL_ren cs vs hb h3⟩
  | .tup cs, v, hb, h => by
    simp only [DT.ren, den, V] at h ⊢
    obtain ⟨vs, h1, h3⟩ := h
    exact ⟨vs, h1, VL_ren cs vs hb h3⟩
  | .fn f cs, v, hb, h => by
    simp only [DT.ren, den, V] at h ⊢
    obtain ⟨vs, h1, h3⟩ := h
    exact ⟨vs, h1, VL_ren cs vs hb h3⟩
theorem VL_ren : ∀ (ds : List (DT T)) (vs : List Value), (∀ b ∈ idsL ds, ∀ g, loc' (ρ b) g = loc b g) → VL I w (denL C ds) loc vs → VL I w (denL C (renL ρ ds)) loc' vs
  | [], vs, _, h => by simpa only [renL, denL, VL] using h
  | d :: r, vs, hb, h => by
    simp only [renL, denL, VL] at h ⊢
    obtain ⟨v, vr, h1, h2, h3⟩ := h
    exact ⟨v, vr, h1, V_ren d v (fun b hd => hb b (by simp [idsL, hd])) h2, VL_ren r vr (fun b hd => hb b (by simp [idsL, hd])) h3⟩
end
mutual
theorem WfD_ren : ∀ (d : DT T), (∀ b ∈ d.ids, ∀ g, L' (ρ b) g = L b g) → WfD L d → WfD L' (d.ren ρ)
  | .dead, _, h => h
  | .bool _, _, h => h
  | .int _ _, _, h => h
  | .u8 _, _, h => h
  | .u16 _, _, h => h
  | .u32 _, _, h => h
  | .u64 _, _, h => h
  | .str _, _, h => h
  | .lit _, _, h => h
  | .nilp, _, h => h
  | .nils, _, h => h
  | .rp _, _, h => h
  | .rs _ _, _, h => h
  | .bp b o, _, h => h
  | .ap b g c i o, _, h => h
  | .bs b g c i n, _, h => h
  | .bw b g c n, hb, h => by
    simp only [DT.ren, WfD] at h ⊢
    rw [hb b (by simp [DT.ids]) g]; exact h
  | .agg cs, hb, h => WfL_ren cs hb h
  | .tup cs, hb, h => WfL_ren cs hb h
  | .fn f cs, hb, h => WfL_ren cs hb h
theorem WfL_ren : ∀ (ds : List (DT T)), (∀ b ∈ idsL ds, ∀ g, L' (ρ b) g = L b g) → WfL L ds → WfL L' (renL ρ ds)
  | [], _, h => h
  | d :: r, hb, h => ⟨WfD_ren d (fun b hd => hb b (by simp [idsL, hd])) h.1, WfL_ren r (fun b hd => hb b (by simp [idsL, hd])) h.2⟩
end
mutual
theorem ren_id : ∀ (d : DT T), (∀ b ∈ d.ids, ρ b = b) → d.ren ρ = d
  | .dead, _ => rfl
  | .bool _, _ => rfl
  | .int _ _, _ => rfl
  | .u8 _, _ => rfl
  | .u16 _, _ => rfl
  | .u32 _, _ => rfl
  | .u64 _, _ => rfl
  | .str _, _ => rfl
  | .lit _, _ => rfl
  | .nilp, _ => rfl
  | .nils, _ => rfl
  | .rp _, _ => rfl
  | .rs _ _, _ => rfl
  | .bp b o, hb => by simp only [DT.ren]; rw [hb b (by simp [DT.ids])]
  | .ap b g c i o, hb => by simp only [DT.ren]; rw [hb b (by simp [DT.ids])]
  | .bs b g c i n, hb => by simp only [DT.ren]; rw [hb b (by simp [DT.ids])]
  | .bw b g c n, hb => by simp only [DT.ren]; rw [hb b (by simp [DT.ids])]
  | .agg cs, hb => by simp only [DT.ren]; rw [renL_id cs hb]
  | .tup cs, hb => by simp only [DT.ren]; rw [renL_id cs hb]
  | .fn f cs, hb => by simp only [DT.ren]; rw [renL_id cs hb]
theorem renL_id : ∀ (ds : List (DT T)), (∀ b ∈ idsL ds, ρ b = b) → renL ρ ds = ds
  | [], _ => rfl
  | d :: r, hb => by simp only [renL]; rw [ren_id d (fun b hd => hb b (by simp [idsL, hd])), renL_id r (fun b hd => hb b (by simp [idsL, hd]))]
end
theorem box_ren_id {x : BoxT T} (h : ∀ b ∈ x.ids, ρ b = b) : x.ren ρ = x := by
  cases x <;> simp only [BoxT.ren]
  rw [renL_id _ h]

theorem RelB_ren {b1 b2 : Nat} {x : BoxT T} (hb : ∀ g, loc' b2 g = loc b1 g) (hi : ∀ b ∈ x.ids, ∀ g, loc' (ρ b) g = loc b g) (h : RelB I w loc b1 (denB C x)) : RelB I w loc' b2 (denB C (x.ren ρ)) := by
  cases x with
  | var cs =>
    simp only [BoxT.ren, denB, RelB] at h ⊢
    obtain ⟨h0, k, c, el, fz, h1, h2, h3, h4, h5⟩ := h
    exact ⟨fun g hg => by rw [hb]; exact h0 g hg, k, c, el, fz, by rw [hb]; exact h1, h2, h3, h4, VL_ren cs _ hi h5⟩
  | _ => simp only [BoxT.ren, denB, RelB, hb] at h ⊢; try exact h
theorem WfB_ren {b1 b2 : Nat} {x : BoxT T} (hb : ∀ g, L' b2 g = L b1 g) (hi : ∀ b ∈ x.ids, ∀ g, L' (ρ b) g = L b g) (h : WfB L b1 x) : WfB L' b2 (x.ren ρ) := by
  cases x with
  | var cs => exact WfL_ren cs hi h
  | _ => simp only [BoxT.ren, WfB, hb] at h ⊢; try exact h
theorem owned_ren {x : BoxT T} : (denB C (x.ren ρ)).owned = (denB C x).owned := by cases x <;> rfl

theorem keep_len (Φ : List Nat) : ∀ (k : Nat) (m : MT T), (keepM Φ k m).length = m.length
  | _, [] => rfl
  | k, x :: r => by simp [keepM, keep_len Φ (k + 1) r]
theorem get_cons_zero (x : BoxT T) (r : MT T) : MT.get (x :: r) 0 = x := rfl
theorem get_cons_succ (x : BoxT T) (r : MT T) (b : Nat) : MT.get (x :: r) (b + 1) = MT.get r b := rfl
theorem keep_get (Φ : List Nat) : ∀ (k : Nat) (m : MT T) (b : Nat), b < m.length → (keepM Φ k m).get b = if has Φ (k + b) = true then m.get b else .lent
  | _, [], b, h => by simp at h
  | k, x :: r, 0, h => by
    simp only [keepM, get_cons_zero, Nat.add_zero]
    cases has Φ k <;> rfl
  | k, x :: r, b + 1, h => by
    simp only [keepM, get_cons_succ]
    rw [keep_get Φ (k + 1) r b (by simpa using h)]
    rw [show k + 1 + b = k + (b + 1) by omega]
theorem merge_len (Φ : List Nat) (N base wd : Nat) (m' : MT T) : ∀ (k : Nat) (m : MT T), (mergeM Φ N base wd m' k m).length = m.length
  | _, [] => rfl
  | k, x :: r => by simp [mergeM, merge_len Φ N base wd m' (k + 1) r]
theorem merge_get (Φ : List Nat) (N base wd : Nat) (m' : MT T) : ∀ (k : Nat) (m : MT T) (b : Nat), b < m.length → (mergeM Φ N base wd m' k m).get b =
    if inGap base wd (k + b) = true then (m'.get (N + (k + b - base))).ren (renG N base) else if has Φ (k + b) = true then (m'.get (k + b)).ren (renG N base) else m.get b
  | _, [], b, h => by simp at h
  | k, x :: r, 0, h => by
    simp only [mergeM, get_cons_zero, Nat.add_zero]
    cases inGap base wd k <;> cases has Φ k <;> rfl
  | k, x :: r, b + 1, h => by
    simp only [mergeM, get_cons_succ]
    rw [merge_get Φ N base wd m' (k + 1) r b (by simpa using h)]
    rw [show k + 1 + b = k + (b + 1) by omega]
theorem get_ge {b : Nat} (h : m.length ≤ b) : m.get b = .gone := by
  unfold MT.get
  rw [List.getD_eq_getElem?_getD, List.getElem?_eq_none h]; rfl
theorem isLent_iff {x : BoxT T} : x.isLent = true ↔ x = .lent := by cases x <;> simp [BoxT.isLent]
end
end Go.Abs

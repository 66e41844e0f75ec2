/- Loads, new variables and stores are followed by the abstract memory. No condition. -/
import Derived.Test.YtlinfghjilpcdaaAbsH
import Derived.Laws.CopyRow
namespace Go.Abs
open Go

section
variable {P : Program} {O I : Nat → Prop} {w : World} {loc : Nat → Nat → Loc} {m : Mem}

theorem Ext.refl (I : Nat → Prop) (w : World) : Ext I I w w := ⟨fun _ h => h, fun _ _ => rfl, fun _ => Nat.le_refl _⟩
theorem Ext.trans {I1 I2 I3 : Nat → Prop} {w1 w2 w3 : World} (a : Ext I1 I2 w1 w2) (b : Ext I2 I3 w2 w3) : Ext I1 I3 w1 w3 :=
  ⟨fun k h => b.imm k (a.imm k h), fun k h => (b.same k (a.imm k h)).trans (a.same k h), fun k => Nat.le_trans (a.rows k) (b.rows k)⟩
theorem LocExt.trans {l1 l2 l3 : Nat → Nat → Loc} (a : LocExt l1 l2) (b : LocExt l2 l3) : LocExt l1 l3 := fun x g => by
  rcases a x g with h | h | h
  · exact .inl h
  · rcases b x g with k | k | k
    · rw [h] at k; cases k
    · exact .inr (.inl k)
    · exact .inr (.inl (k.trans h))
  · rcases b x g with k | k | k
    · exact .inl (h ▸ k)
    · exact .inr (.inl k)
    · exact .inr (.inr (k.trans h))
theorem Fr.refl (O : Nat → Prop) (w : World) : Fr O w w := ⟨rfl, rfl, rfl, Nat.le_refl _, fun _ _ _ => rfl⟩
theorem Fr.trans {w1 w2 w3 : World} (a : Fr O w1 w2) (b : Fr O w2 w3) : Fr O w1 w3 :=
  ⟨b.os.trans a.os, b.tape.trans a.tape, b.output.trans a.output, Nat.le_trans a.size b.size,
    fun k h ho => (b.block k (Nat.lt_of_lt_of_le h a.size) ho).trans (a.block k h ho)⟩

theorem V_free {d : D} {v : Value} (h : V I w d free v) : V I w d loc v := V_mono (Ext.refl I w) d free loc v (.free _) h

theorem VC_list : ∀ {cs : List D} {b o : Nat}, VC I w cs b o → ∃ vs : List Value, VL I w cs free vs ∧ (∀ x ∈ vs, x.oneCell' = true) ∧ ∀ j x, vs[j]? = some x → w.cell? ⟨b, o + j, none⟩ = some x
  | [], b, o, h => ⟨[], by simp [VL], by simp, by simp⟩
  | d :: r, b, o, h => by
    simp only [VC] at h
    obtain ⟨⟨c, hc, h1, hv⟩, hr⟩ := h
    obtain ⟨vs, h2, h3, h4⟩ := VC_list hr
    refine ⟨c :: vs, by simp only [VL]; exact ⟨c, vs, rfl, hv, h2⟩, ?_, ?_⟩
    · intro x hx
      simp only [List.mem_cons] at hx
      rcases hx with rfl | hx
      · exact h1
      · exact h3 x hx
    · intro j x hj
      cases j with
      | zero => simp at hj; subst hj; simpa using hc
      | succ j =>
        simp at hj
        have := h4 j x hj
        rw [← this]; congr 2; omega

theorem list_VC : ∀ {cs : List D} {vs : List Value} {b o : Nat}, VL I w cs free vs → (∀ x ∈ vs, x.oneCell' = true) → (∀ j x, vs[j]? = some x → w.cell? ⟨b, o + j, none⟩ = some x) → VC I w cs b o
  | [], vs, b, o, h, h1, h2 => by simp [VC]
  | d :: r, vs, b, o, h, h1, h2 => by
    simp only [VL] at h
    obtain ⟨v, vr, rfl, hv, hr⟩ := h
    simp only [VC]
    refine ⟨⟨v, by simpa using h2 0 v (by simp), h1 v (by simp), hv⟩, list_VC hr (fun x hx => h1 x (by simp [hx])) fun j x hj => ?_⟩
    have := h2 (j + 1) x (by simpa using hj)
    rw [← this]; congr 2; omega

theorem VL_free {cs : List D} {vs : List Value} (h : VL I w cs free vs) : VL I w cs loc vs := VL_mono (Ext.refl I w) cs free loc vs (.free _) h

theorem run_loadVarD {t : TypeId} {cs : List D} {vs : List Value} {b o : Nat} {d : D} (hv : VL I w cs loc vs) (h1 : ∀ x ∈ vs, x.oneCell' = true)
    (hc : ∀ j x, vs[j]? = some x → w.cell? ⟨b, o + j, none⟩ = some x) (h : loadD P t cs = some d) :
    ∃ z, (Instr.loadAt t (.pointer (some ⟨b, o, none⟩))).run P w = .ok z w ∧ V I w d loc z := by
  have hlen := VL_length hv
  unfold loadD at h
  split at h
  · rename_i ha
    split at h
    · rename_i k hk
      split at h
      · rename_i hle
        simp only [Option.some.injEq] at h; subst h
        have e : (vs.take k).length = k := by simp; omega
        have hl := run_loadCells_list (P := P) w ⟨b, o, none⟩ (vs.take k) (fun j x hj => by
          rw [addr_add]
          refine hc j x ?_
          rw [List.getElem?_take] at hj
          split at hj
          · exact hj
          · cases hj)
        rw [e] at hl
        refine ⟨.agg (vs.take k).toArray, ?_, ?_⟩
        · simp [Instr.loadAt, Instr.sureAddr, loadVar, run_isAgg' ha, run_sizeOf' hk, hl]
        · simp only [V]
          exact ⟨_, rfl, fun x hx => h1 x (List.mem_of_mem_take hx), VL_take k hv⟩
      · cases h
    · cases h
  · rename_i ha
    split at h
    · rename_i c r
      simp only [Option.some.injEq] at h; subst h
      simp only [VL] at hv
      obtain ⟨v, vr, rfl, hv', _⟩ := hv
      have h0 := hc 0 v (by simp)
      simp only [Nat.add_zero] at h0
      exact ⟨v, by simp [Instr.loadAt, Instr.sureAddr, loadVar, run_isAgg' ha, h0], hv'⟩
    · cases h
  · cases h

theorem rows_some {b g s : Nat} {rows : List (List D)} (h : m.rows b g s = some rows) : m.bx b = .arr g s rows ∨ m.bx b = .frz g s rows := by
  unfold Mem.rows at h
  split at h
  · split at h
    · rename_i hc; obtain ⟨rfl, rfl⟩ := hc; simp only [Option.some.injEq] at h; subst h; left; assumption
    · cases h
  · split at h
    · rename_i hc; obtain ⟨rfl, rfl⟩ := hc; simp only [Option.some.injEq] at h; subst h; right; assumption
    · cases h
  · cases h

theorem lt_nb (h : MRel O I loc m w) {b g : Nat} (hl : loc b g ≠ .free) : b < m.nb := by
  rcases Nat.lt_or_ge b m.nb with hb | hb
  · exact hb
  · exact absurd (h.free b g hb) hl

/-- the rows of a box that is an array, and where they lie. -/
theorem rows_at (h : MRel O I loc m w) {b g s : Nat} {rows : List (List D)} (hb : b < m.nb) (hr : m.rows b g s = some rows) :
    (loc b g = .nil ∧ rows = []) ∨ ∃ k, loc b g = .blk k ∧ VR I w s rows k 0 := by
  have hx := h.box b hb
  rcases rows_some hr with e | e <;> rw [e] at hx <;> simp only [RelB] at hx
  · rcases hx.2 with h1 | ⟨k, c, el, fz, h1, h2, h3, h4, h5⟩
    · exact .inl h1
    · exact .inr ⟨k, h1, h5⟩
  · rcases hx.2 with h1 | ⟨k, h1, h2, h3⟩
    · exact .inl h1
    · exact .inr ⟨k, h1, h3⟩

theorem run_loadR {t : TypeId} {x d : D} {u : Value} (hm : MRel O I loc m w) (hx : V I w x loc u) (h : loadR P m t x = some d) :
    ∃ z, (Instr.loadAt t u).run P w = .ok z w ∧ V I w d loc z := by
  unfold loadR at h
  split at h
  · rename_i b off
    split at h
    case h_2 => cases h
    rename_i cs hb
    simp only [V] at hx
    have hlt : b < m.nb := lt_nb (g := 0) hm (by intro e; simp [e] at hx)
    have hbx := hm.box b hlt
    rw [hb] at hbx; simp only [RelB] at hbx
    obtain ⟨_, k, c, el, fz, hl, hw, _, hone, hv⟩ := hbx
    simp only [hl] at hx; subst hx
    refine run_loadVarD (VL_drop off hv) (fun x hx => hone x (List.mem_of_mem_drop hx)) (fun j x hj => ?_) h
    simp only [List.getElem?_drop] at hj
    simp [World.cell?, hw]
    simpa using hj
  · rename_i b g s i off
    split at h
    case h_2 => cases h
    rename_i rows hr
    split at h
    case h_2 => cases h
    rename_i row hrow
    simp only [V] at hx
    have hlt : b < m.nb := lt_nb (g := g) hm (by intro e; simp [e] at hx)
    rcases rows_at hm hlt hr with ⟨_, rfl⟩ | ⟨k, hl, hv⟩
    · simp at hrow
    simp only [hl] at hx; subst hx
    have hc := (VR_get hv hrow).2
    obtain ⟨vs, h1, h2, h3⟩ := VC_list (VC_drop off hc)
    refine run_loadVarD (VL_free h1) h2 (fun j x hj => ?_) h
    have := h3 j x hj
    rw [← this]; congr 2; omega
  · rename_i cs
    simp only [V] at hx
    obtain ⟨b, o, rfl, hI, hc⟩ := hx
    obtain ⟨vs, h1, h2, h3⟩ := VC_list hc
    exact run_loadVarD (VL_free h1) h2 h3 h
  · cases h

/-- a box that an operation does not touch stays. -/
theorem RelB_mono {I' : Nat → Prop} {w' : World} {loc' : Nat → Nat → Loc} {b : Nat} {x : Box} (h : Ext I I' w w') (hl : LocExt loc loc') (hb : ∀ g, loc' b g = loc b g)
    (hs : x.owned = true → ∀ g k, loc b g = .blk k → w'.heap[k]? = w.heap[k]?) (hx : RelB I w loc b x) : RelB I' w' loc' b x := by
  cases x with
  | gone => simp only [RelB] at hx ⊢; intro g; rw [hb]; exact hx g
  | lent => trivial
  | var cs =>
    simp only [RelB] at hx ⊢
    obtain ⟨h0, k, c, el, fz, h1, h2, h3, h4, h5⟩ := hx
    exact ⟨fun g hg => by rw [hb]; exact h0 g hg, k, c, el, fz, by rw [hb]; exact h1, (hs rfl 0 k h1).trans h2, h3, h4, VL_mono h cs loc loc' _ hl h5⟩
  | arr g s rows =>
    simp only [RelB] at hx ⊢
    obtain ⟨h0, hx⟩ := hx
    refine ⟨⟨fun g' hg => by rw [hb]; exact h0.1 g' hg, fun g' hg => by rw [hb]; exact h0.2 g' hg⟩, ?_⟩
    rcases hx with ⟨h1, h2⟩ | ⟨k, c, el, fz, h1, h2, h3, h4, h5⟩
    · exact .inl ⟨by rw [hb]; exact h1, h2⟩
    · exact .inr ⟨k, c, el, fz, by rw [hb]; exact h1, (hs rfl g k h1).trans h2, h3, h4, VR_mono h s rows k 0 (hs rfl g k h1) h5⟩
  | frz g s rows =>
    simp only [RelB] at hx ⊢
    obtain ⟨h0, hx⟩ := hx
    refine ⟨⟨fun g' hg => by rw [hb]; exact h0.1 g' hg, fun g' hg => by rw [hb]; exact h0.2 g' hg⟩, ?_⟩
    rcases hx with ⟨h1, h2⟩ | ⟨k, h1, h2, h3⟩
    · exact .inl ⟨by rw [hb]; exact h1, h2⟩
    · exact .inr ⟨k, by rw [hb]; exact h1, h.imm k h2, VR_mono h s rows k 0 (h.same k h2) h3⟩
  | iter l pos =>
    simp only [RelB] at hx ⊢
    obtain ⟨h0, k, h1, h2⟩ := hx
    exact ⟨fun g hg => by rw [hb]; exact h0 g hg, k, by rw [hb]; exact h1, (hs rfl 0 k h1).trans h2⟩

/-- where a new box lies. -/
def locNew (loc : Nat → Nat → Loc) (b : Nat) (l : Loc) : Nat → Nat → Loc := fun b' g => if b' = b then (if g = 0 then l else .free) else loc b' g

theorem locNew_ext (hm : MRel O I loc m w) (l : Loc) : LocExt loc (locNew loc m.nb l) := fun b g => by
  unfold locNew
  by_cases hb : b = m.nb
  · subst hb; exact .inl (hm.free _ _ (Nat.le_refl _))
  · simp [hb]

theorem Ext_alloc (hi : ∀ k, I k → k < w.heap.size) (o : Obj) : Ext I I w (w.alloc o) := by
  refine ⟨fun _ h => h, fun k hk => RowKit.Below.heap_alloc w o k (hi k hk), fun k => ?_⟩
  rcases Nat.lt_or_ge k w.heap.size with hk | hk
  · simp only [rowSize, RowKit.Below.heap_alloc w o k hk]; exact Nat.le_refl _
  · have : w.heap[k]? = none := Array.getElem?_eq_none hk
    simp [rowSize, this]

theorem Fr_alloc (w : World) (o : Obj) : Fr O w (w.alloc o) := ⟨rfl, rfl, rfl, by simp, fun k hk _ => RowKit.Below.heap_alloc w o k hk⟩

/-- a new block for a new box. -/
theorem MRel.alloc (hm : MRel O I loc m w) (o : Obj) (x : Box) (hx : RelB I (w.alloc o) (locNew loc m.nb (.blk w.heap.size)) m.nb x) :
    MRel O I (locNew loc m.nb (.blk w.heap.size)) (m.add x) (w.alloc o) := by
  have he := Ext_alloc hm.imm o
  have hl := locNew_ext hm (.blk w.heap.size)
  have ne : ∀ b, b < m.nb → b ≠ m.nb := fun b hb => Nat.ne_of_lt hb
  have hnb : (m.add x).nb = m.nb + 1 := rfl
  have hbx : ∀ b, (m.add x).bx b = if b = m.nb then x else m.bx b := fun b => rfl
  refine ⟨fun b hb => ?_, fun b g hb => ?_, fun b g k hb ho hk => ?_, fun b b' g g' k hb hb' ho ho' hk hk' => ?_, fun k hk => ?_, fun k hk => ?_⟩
  · rw [hbx]
    by_cases e : b = m.nb
    · subst e; rw [if_pos rfl]; exact hx
    · rw [if_neg e]
      have hlt : b < m.nb := by omega
      refine RelB_mono he hl (fun g => by simp [locNew, e]) (fun ho g k hk => ?_) (hm.box b hlt)
      exact RowKit.Below.heap_alloc w o k (hm.own b g k hlt ho hk).2.2
  · have : b ≠ m.nb := by omega
    simp only [locNew, this, if_false]
    exact hm.free b g (by omega)
  · rw [hbx] at ho
    by_cases e : b = m.nb
    · subst e
      simp only [locNew, if_true] at hk
      split at hk
      · cases hk
        exact ⟨hm.up _ (Nat.le_refl _), fun hI => absurd (hm.imm _ hI) (Nat.lt_irrefl _), by simp⟩
      · cases hk
    · rw [if_neg e] at ho
      simp only [locNew, e, if_false] at hk
      have := hm.own b g k (by omega) ho hk
      exact ⟨this.1, this.2.1, by simp; omega⟩
  · rw [hbx] at ho ho'
    by_cases e : b = m.nb
    · by_cases e' : b' = m.nb
      · rw [e, e']
      · subst e
        simp only [locNew, if_true] at hk
        simp only [locNew, e', if_false] at hk'
        rw [if_neg e'] at ho'
        split at hk
        · cases hk
          have := (hm.own b' g' _ (by omega) ho' hk').2.2
          omega
        · cases hk
    · by_cases e' : b' = m.nb
      · subst e'
        simp only [locNew, if_true] at hk'
        simp only [locNew, e, if_false] at hk
        rw [if_neg e] at ho
        split at hk'
        · cases hk'
          have := (hm.own b g _ (by omega) ho hk).2.2
          omega
        · cases hk'
      · rw [if_neg e] at ho
        rw [if_neg e'] at ho'
        simp only [locNew, e, if_false] at hk
        simp only [locNew, e', if_false] at hk'
        exact hm.inj b b' g g' k (by omega) (by omega) ho ho' hk hk'
  · have := hm.imm k hk; simp; omega
  · exact hm.up k (by simp at hk; omega)
end
end Go.Abs

/- Stores into arrays of the call's own, literals of slices. No condition. -/
import Derived.Test.YtlinfghjilpcdaaAbsJ
namespace Go.Abs
open Go

section
variable {P : Program} {O I : Nat → Prop} {w : World} {loc : Nat → Nat → Loc} {m : Mem}

mutual
theorem V_pure : ∀ {d : D} {v : Value}, d.pure = true → V I w d loc v → V I w d free v
  | .dead, _, _, _ => trivial
  | .bool _, _, _, h => by simpa only [V] using h
  | .int _ _, _, _, h => by simpa only [V] using h
  | .str _, _, _, h => by simpa only [V] using h
  | .lit _, _, _, h => by simpa only [V] using h
  | .nilp, _, _, h => by simpa only [V] using h
  | .nils, _, _, h => by simpa only [V] using h
  | .rs _ _, _, _, h => by simpa only [V] using h
  | .rp _, _, _, h => by simpa only [V] using h
  | .agg cs, v, hp, h => by
    simp only [V] at h ⊢
    simp only [D.pure] at hp
    obtain ⟨vs, rfl, h1, h2⟩ := h
    exact ⟨vs, rfl, h1, VL_pure hp h2⟩
  | .bp _ _, _, hp, _ => by simp [D.pure] at hp
  | .ap _ _ _ _ _, _, hp, _ => by simp [D.pure] at hp
  | .bs _ _ _ _ _, _, hp, _ => by simp [D.pure] at hp
  | .tup _, _, hp, _ => by simp [D.pure] at hp
  | .fn _ _, _, hp, _ => by simp [D.pure] at hp
theorem VL_pure : ∀ {ds : List D} {vs : List Value}, pureL ds = true → VL I w ds loc vs → VL I w ds free vs
  | [], _, _, h => by simpa only [VL] using h
  | d :: r, vs, hp, h => by
    simp only [VL] at h ⊢
    simp only [pureL, Bool.and_eq_true] at hp
    obtain ⟨v, vr, rfl, h1, h2⟩ := h
    exact ⟨v, vr, rfl, V_pure hp.1 h1, VL_pure hp.2 h2⟩
end

theorem pure_cells {d : D} (hp : d.pure = true) : pureL d.cells = true := by
  cases d <;> simp_all [D.cells, D.pure, pureL]

theorem VC_congr {I' : Nat → Prop} {w' : World} (h : Ext I I' w w') : ∀ {cs : List D} {b o : Nat}, (∀ j, j < cs.length → w'.cell? ⟨b, o + j, none⟩ = w.cell? ⟨b, o + j, none⟩) → VC I w cs b o → VC I' w' cs b o
  | [], _, _, _, _ => trivial
  | d :: r, b, o, hc, hv => by
    simp only [VC] at hv ⊢
    obtain ⟨⟨c, h1, h2, h3⟩, hr⟩ := hv
    refine ⟨⟨c, by rw [← h1]; simpa using hc 0 (by simp), h2, V_mono h d _ _ c (.refl _) h3⟩, VC_congr h (fun j hj => ?_) hr⟩
    have := hc (j + 1) (by simpa using hj)
    have e : o + 1 + j = o + (j + 1) := by omega
    rw [e]; exact this

theorem VR_iff {s : Nat} : ∀ {rows : List (List D)} {b o : Nat}, VR I w s rows b o ↔ ∀ (i : Nat) (row : List D), rows[i]? = some row → row.length = s ∧ VC I w row b (o + i * s)
  | [], b, o => by simp [VR]
  | row :: r, b, o => by
    simp only [VR]
    rw [VR_iff (rows := r)]
    constructor
    · rintro ⟨h1, h2, h3⟩ i x hi
      cases i with
      | zero => simp at hi; subst hi; exact ⟨h1, by simpa using h2⟩
      | succ i =>
        have := h3 i x (by simpa using hi)
        have e : o + s + i * s = o + (i + 1) * s := by rw [Nat.add_mul]; omega
        rw [e] at this
        exact this
    · intro h
      refine ⟨(h 0 row (by simp)).1, by simpa using (h 0 row (by simp)).2, fun i x hi => ?_⟩
      have := h (i + 1) x (by simpa using hi)
      have e : o + s + i * s = o + (i + 1) * s := by rw [Nat.add_mul]; omega
      rw [e]
      exact this

theorem seg_get (l ws : List Value) (p j : Nat) (hp : p + ws.length ≤ l.length) : (l.take p ++ ws ++ l.drop (p + ws.length))[j]? = if j < p then l[j]? else if j < p + ws.length then ws[j - p]? else l[j]? := by
  have hlp : (l.take p).length = p := by simp; omega
  rw [List.append_assoc, List.getElem?_append, hlp]
  split
  · simp [*]
  · rw [List.getElem?_append]
    split
    · rw [if_pos (by omega)]
    · rw [if_neg (by omega), List.getElem?_drop]
      congr 1; omega

theorem run_store_arr (hm : MRel O I loc m w) {t : TypeId} {b g s i off sz : Nat} {rows : List (List D)} {row : List D} {y : D} {u v : Value} (hx : V I w (.ap b g s i off) loc u) (hy : V I w y loc v) (hf : y.fit = true) (hp : y.pure = true)
    (hsz : tsz P t = some sz) (hlen : y.cells.length = sz) (hbx : m.bx b = .arr g s rows) (hrow : rows[i]? = some row) (hoff : off + sz ≤ row.length) :
    ∃ w', (Instr.storeAt t u v).run P w = .ok () w' ∧ MRel O I loc (m.set b (.arr g s (rows.set i (setCells row off y.cells)))) w' ∧ Ext I I w w' ∧ Fr O w w' := by
  simp only [V] at hx
  have hlt : b < m.nb := lt_nb (g := g) hm (by intro e; simp [e] at hx)
  have hb := hm.box b hlt
  rw [hbx] at hb; simp only [RelB] at hb
  obtain ⟨h0, hb⟩ := hb
  rcases hb with ⟨_, rfl⟩ | ⟨k, c, el, fz, hl, hw, hu, hrc, hv⟩
  · simp at hrow
  simp only [hl] at hx; subst hx
  have hil : i < rows.length := by
    rcases Nat.lt_or_ge i rows.length with h | h
    · exact h
    · rw [List.getElem?_eq_none h] at hrow; cases hrow
  have hrl := VR_get hv hrow
  obtain ⟨hc1, hc2⟩ := V_cells hy hf
  have hc1 := VL_pure (pure_cells hp) hc1
  have hcl := VL_length hc1
  have hvs : v.cells.size = sz := by simpa [hlen] using hcl
  have hbig : (i + 1) * s ≤ rows.length * s := Nat.mul_le_mul_right s hil
  rw [Nat.add_mul, Nat.one_mul] at hbig
  have hfit : i * s + off + v.cells.toList.length ≤ c.size := by simp; omega
  have hrun := run_storeCells_any (P := P) k (i * s + off) el fz v.cells.toList 0 c w hw hu (by simpa using hfit) hc2
  simp only [Nat.add_zero] at hrun
  let l' := c.toList.take (i * s + off) ++ v.cells.toList ++ c.toList.drop (i * s + off + v.cells.toList.length)
  have hl' : l'.length = c.size := by simp [l'] at hfit ⊢; omega
  have he := Ext_setRow (hm.own b g k hlt (by rw [hbx]; rfl) hl).2.1 hw (c' := l'.toArray) (by simp [hl'])
  have hcell : ∀ j, (w.setRow k l'.toArray).cell? ⟨k, j, none⟩ = if j < i * s + off then c[j]? else if j < i * s + off + v.cells.toList.length then v.cells.toList[j - (i * s + off)]? else c[j]? := by
    intro j
    rw [cell_setRow_same w k j c l'.toArray el fz hw]
    have := seg_get c.toList v.cells.toList (i * s + off) j (by simpa using hfit)
    simpa [l'] using this
  have hold : ∀ j, w.cell? ⟨k, j, none⟩ = c[j]? := fun j => by simp [World.cell?, hw]
  have hst := hm.store (x := .arr g s (rows.set i (setCells row off y.cells))) (c' := l'.toArray) hlt (by rw [hbx]; rfl) hl hw (by simp [hl']) (by
    simp only [RelB]
    refine ⟨h0, .inr ⟨k, l'.toArray, el, fz, hl, setRow_heap w k c _ el fz hw, by simpa [hl'] using hu, by simpa [hl'] using hrc, ?_⟩⟩
    rw [VR_iff]
    intro j x hj
    rw [List.getElem?_set] at hj
    split at hj
    · rename_i hij
      subst hij
      simp only [Option.some.injEq] at hj; subst hj
      refine ⟨by rw [setCells_length _ _ _ (by omega)]; exact hrl.1, ?_⟩
      obtain ⟨us, q1, q2, q3⟩ := VC_list hrl.2
      have hus := VL_length q1
      refine list_VC (VL_mono he _ free free _ (.refl _) (VL_set row us off y.cells v.cells.toList q1 hc1 (by omega))) ?_ ?_
      · intro z hz
        simp only [List.mem_append] at hz
        rcases hz with (hz | hz) | hz
        · exact q2 z (List.mem_of_mem_take hz)
        · exact hc2 z hz
        · exact q2 z (List.mem_of_mem_drop hz)
      · intro q z hz
        rw [hcell]
        have hsg := seg_get us v.cells.toList off q (by simp; omega)
        rw [hsg] at hz
        have hql : q < us.length := by
          rcases Nat.lt_or_ge q us.length with h | h
          · exact h
          · split at hz
            · omega
            · split at hz
              · simp at hfit; simp at *; omega
              · rw [List.getElem?_eq_none h] at hz; cases hz
        have q4 : ∀ z, us[q]? = some z → c[0 + i * s + q]? = some z := fun z hz => by rw [← hold]; exact q3 q z hz
        split at hz
        · rw [if_pos (by omega)]; exact q4 z hz
        · split at hz
          · rw [if_neg (by omega), if_pos (by omega)]
            rw [← hz]; congr 1; omega
          · rw [if_neg (by omega), if_neg (by omega)]; exact q4 z hz
    · rename_i hij
      have hx := VR_get hv hj
      refine ⟨hx.1, VC_congr he (fun q hq => ?_) hx.2⟩
      rw [hcell, hold]
      have hjl : j < rows.length := by
        rcases Nat.lt_or_ge j rows.length with h | h
        · exact h
        · rw [List.getElem?_eq_none h] at hj; cases hj
      have hsep : j * s + s ≤ i * s ∨ i * s + s ≤ j * s := by
        rcases Nat.lt_or_ge j i with h | h
        · left
          have : (j + 1) * s ≤ i * s := Nat.mul_le_mul_right s h
          rw [Nat.add_mul] at this; omega
        · right
          have : (i + 1) * s ≤ j * s := Nat.mul_le_mul_right s (by omega)
          rw [Nat.add_mul] at this; omega
      have hvl : v.cells.toList.length = sz := by simpa using hvs
      rw [hvl]
      split
      · rfl
      · split
        · omega
        · rfl)
  refine ⟨w.setRow k l'.toArray, ?_, hst.1, hst.2.1, hst.2.2⟩
  simp only [Instr.storeAt, Instr.sureAddr, storeVar, Sem.run_bind, Sem.run_pure, Result.andThen_ok, run_sizeOf' hsz]
  simp [hvs]
  exact hrun

/-- cells in a row, cut into rows. -/
theorem VR_of_list {s : Nat} : ∀ {rows : List (List D)} {vs : List Value} {b o : Nat}, (∀ row ∈ rows, row.length = s) → VL I w rows.flatten free vs → (∀ x ∈ vs, x.oneCell' = true) →
    (∀ j x, vs[j]? = some x → w.cell? ⟨b, o + j, none⟩ = some x) → VR I w s rows b o
  | [], vs, b, o, _, _, _, _ => by simp [VR]
  | row :: r, vs, b, o, hs, hv, h1, hc => by
    simp only [List.flatten_cons] at hv
    have hrow : row.length = s := hs row (by simp)
    have ht := VL_take row.length hv
    have hd := VL_drop row.length hv
    rw [List.take_left] at ht
    rw [List.drop_left] at hd
    simp only [VR]
    refine ⟨hrow, list_VC ht (fun x hx => h1 x (List.mem_of_mem_take hx)) (fun j x hj => ?_), VR_of_list (fun x hx => hs x (by simp [hx])) hd (fun x hx => h1 x (List.mem_of_mem_drop hx)) (fun j x hj => ?_)⟩
    · rw [List.getElem?_take] at hj
      split at hj
      · exact hc j x hj
      · cases hj
    · rw [List.getElem?_drop] at hj
      have := hc _ x hj
      rw [hrow] at this
      rw [← this]; congr 2; omega

theorem list_of_VR {s : Nat} : ∀ {rows : List (List D)} {b o : Nat}, VR I w s rows b o → ∃ vs : List Value, VL I w rows.flatten free vs ∧ (∀ x ∈ vs, x.oneCell' = true) ∧ vs.length = rows.length * s ∧ ∀ j x, vs[j]? = some x → w.cell? ⟨b, o + j, none⟩ = some x
  | [], b, o, _ => ⟨[], by simp [VL], by simp, by simp, by simp⟩
  | row :: r, b, o, h => by
    simp only [VR] at h
    obtain ⟨hs, hc, hr⟩ := h
    obtain ⟨us, u1, u2, u3⟩ := VC_list hc
    obtain ⟨vs, v1, v2, v4, v3⟩ := list_of_VR hr
    have hul := VL_length u1
    refine ⟨us ++ vs, by rw [List.flatten_cons]; exact VL_append u1 v1, ?_, ?_, fun j x hj => ?_⟩
    · intro x hx
      simp only [List.mem_append] at hx
      rcases hx with hx | hx
      · exact u2 x hx
      · exact v2 x hx
    · simp only [List.length_append, List.length_cons, v4, hul, hs]; rw [Nat.add_mul]; omega
    · rw [List.getElem?_append] at hj
      split at hj
      · exact u3 j x hj
      · have := v3 _ x hj
        rw [← this]; congr 2; omega
end
end Go.Abs

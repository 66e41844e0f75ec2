/- New variables, stores and literals of slices: the abstract memory follows them. No condition. -/
import Derived.Test.YtlinfghjilpcdaaAbsI
namespace Go.Abs
open Go

section
variable {P : Program} {O I : Nat → Prop} {w : World} {loc : Nat → Nat → Loc} {m : Mem}

/-- an operation has answered 'd' and left the memory 'm''. -/
def Res (O I : Nat → Prop) (loc : Nat → Nat → Loc) (w : World) (r : Result Next) (d : D) (m' : Mem) : Prop :=
  ∃ v w' loc', (r = .ok (.value v) w' ∨ (r = .ok .skip w' ∧ v = undef)) ∧ MRel O I loc' m' w' ∧ V I w' d loc' v ∧ Ext I I w w' ∧ LocExt loc loc' ∧ Fr O w w'

theorem Res.of_same {r : Result Next} {d : D} (hm : MRel O I loc m w) (h : ∃ v, r = .ok (.value v) w ∧ V I w d loc v) : Res O I loc w r d m := by
  obtain ⟨v, h1, h2⟩ := h
  exact ⟨v, w, loc, .inl h1, hm, h2, .refl _ _, .refl _, .refl _ _⟩

theorem heap_new (w : World) (o : Obj) : (w.alloc o).heap[w.heap.size]? = some o := by
  show (w.heap.push o)[w.heap.size]? = some o
  simp

theorem V_new (b : Nat) (l : Nat) : V I w (.bp b 0) (locNew loc b (.blk l)) (.pointer (some ⟨l, 0, none⟩)) := by
  simp [V, locNew]

theorem var_new (hm : MRel O I loc m w) {d : D} {u : Value} (el : TypeId) (hu : ∀ I w loc, V I w d loc u) (hf : d.fit = true) :
    Res O I loc w (.ok (.value (.pointer (some ⟨w.heap.size, 0, none⟩))) (w.alloc (.cells u.cells el))) (.bp m.nb 0) (m.add (.var d.cells)) := by
  refine ⟨_, _, locNew loc m.nb (.blk w.heap.size), .inl rfl, hm.alloc _ _ ?_, V_new _ _, Ext_alloc hm.imm _, locNew_ext hm _, Fr_alloc _ _⟩
  obtain ⟨h1, h2⟩ := V_cells (hu I (w.alloc (.cells u.cells el)) (locNew loc m.nb (.blk w.heap.size))) hf
  simp only [RelB]
  refine ⟨fun g hg => by simp [locNew, hg], w.heap.size, u.cells, el, (0, 0), by simp [locNew], heap_new _ _, fun o _ => by simp, h2, h1⟩

theorem run_alloc (hm : MRel O I loc m w) {t : TypeId} {z : D} (hz : tzero P t = some z) (hf : z.fit = true) (ρ : Operand → Value) (dst : Option Tmp) (ty : TypeId) (pos : String) (af : Array Edge) (gd : Option (Nat × Bool)) :
    Res O I loc w ((execOp ρ ⟨dst, .alloc t, ty, pos, af, gd⟩).run P w) (.bp m.nb 0) (m.add (.var z.cells)) := by
  obtain ⟨v, hv, rfl⟩ := run_zero' hz w
  have : (execOp ρ ⟨dst, .alloc t, ty, pos, af, gd⟩).run P w = .ok (.value (.pointer (some ⟨w.heap.size, 0, none⟩))) (w.alloc (.cells v.cells t)) := by
    simp [execOp, Instr.alloc, hv, newVar, newRow]
  rw [this]
  exact var_new hm t (fun _ _ _ => ofV_V v) hf

theorem run_box (hm : MRel O I loc m w) {t : TypeId} {x : Operand} {d : D} (ρ : Operand → Value) (hv : V I w d loc (ρ x)) (hf : d.fit = true) (dst : Option Tmp) (ty : TypeId) (pos : String) (af : Array Edge) (gd : Option (Nat × Bool)) :
    Res O I loc w ((execOp ρ ⟨dst, .box t x, ty, pos, af, gd⟩).run P w) (.bp m.nb 0) (m.add (.var d.cells)) := by
  have : (execOp ρ ⟨dst, .box t x, ty, pos, af, gd⟩).run P w = .ok (.value (.pointer (some ⟨w.heap.size, 0, none⟩))) (w.alloc (.cells (ρ x).cells t)) := by
    simp [execOp, Instr.box, newVar, newRow]
  rw [this]
  refine ⟨_, _, locNew loc m.nb (.blk w.heap.size), .inl rfl, hm.alloc _ _ ?_, V_new _ _, Ext_alloc hm.imm _, locNew_ext hm _, Fr_alloc _ _⟩
  obtain ⟨h1, h2⟩ := V_cells (V_mono (Ext_alloc hm.imm (.cells (ρ x).cells t)) d loc (locNew loc m.nb (.blk w.heap.size)) (ρ x) (locNew_ext hm _) hv) hf
  simp only [RelB]
  exact ⟨fun g hg => by simp [locNew, hg], w.heap.size, (ρ x).cells, t, (0, 0), by simp [locNew], heap_new _ _, fun o _ => by simp, h2, h1⟩

/-- one box and its block have changed. -/
theorem MRel.change (hm : MRel O I loc m w) {b : Nat} {loc' : Nat → Nat → Loc} {w' : World} {x : Box} (hb : b < m.nb) (hown : (m.bx b).owned = true)
    (hl : ∀ b', b' ≠ b → ∀ g, loc' b' g = loc b' g) (he : Ext I I w w') (hle : LocExt loc loc') (hx : RelB I w' loc' b x)
    (hself : ∀ g k, loc' b g = .blk k → O k ∧ ¬ I k ∧ k < w'.heap.size ∧ ∀ b', b' ≠ b → b' < m.nb → (m.bx b').owned = true → ∀ g', loc b' g' ≠ .blk k)
    (hsame : ∀ k, k < w.heap.size → (∀ g, loc b g ≠ .blk k) → w'.heap[k]? = w.heap[k]?) (hsize : w.heap.size ≤ w'.heap.size) :
    MRel O I loc' (m.set b x) w' := by
  have hbx : ∀ b', (m.set b x).bx b' = if b' = b then x else m.bx b' := fun b' => rfl
  have hnb : (m.set b x).nb = m.nb := rfl
  refine ⟨fun b' hb' => ?_, fun b' g hb' => ?_, fun b' g k hb' ho hk => ?_, fun b1 b2 g g' k h1 h2 ho ho' hk hk' => ?_, fun k hk => ?_, fun k hk => hm.up k (by omega)⟩
  · rw [hbx]
    by_cases e : b' = b
    · subst e; rw [if_pos rfl]; exact hx
    · rw [if_neg e]
      refine RelB_mono he hle (hl b' e) (fun ho g k hk => ?_) (hm.box b' hb')
      refine hsame k (hm.own b' g k hb' ho hk).2.2 fun g' hg' => ?_
      exact e (hm.inj b' b g g' k hb' hb ho hown hk hg')
  · have e : b' ≠ b := by rw [hnb] at hb'; omega
    rw [hl b' e]; exact hm.free b' g hb'
  · rw [hbx] at ho
    by_cases e : b' = b
    · subst e
      have := hself g k hk
      exact ⟨this.1, this.2.1, this.2.2.1⟩
    · rw [if_neg e] at ho
      rw [hl b' e] at hk
      have := hm.own b' g k hb' ho hk
      exact ⟨this.1, this.2.1, by omega⟩
  · rw [hbx] at ho ho'
    by_cases e1 : b1 = b
    · by_cases e2 : b2 = b
      · rw [e1, e2]
      · subst e1
        rw [if_neg e2] at ho'
        rw [hl b2 e2] at hk'
        exact absurd hk' ((hself g k hk).2.2.2 b2 e2 h2 ho' g')
    · by_cases e2 : b2 = b
      · subst e2
        rw [if_neg e1] at ho
        rw [hl b1 e1] at hk
        exact absurd hk ((hself g' k hk').2.2.2 b1 e1 h1 ho g)
      · rw [if_neg e1] at ho
        rw [if_neg e2] at ho'
        rw [hl b1 e1] at hk
        rw [hl b2 e2] at hk'
        exact hm.inj b1 b2 g g' k h1 h2 ho ho' hk hk'
  · have := hm.imm k hk; omega

theorem run_storeCells_any (g o : Nat) (t : TypeId) (fz : Nat × Nat) : ∀ (vs : List Value) (i : Nat) (cur : Array Value) (w : World), w.heap[g]? = some (.cells cur t fz) → Unfz fz cur.size → o + i + vs.length ≤ cur.size → (∀ v ∈ vs, v.oneCell' = true) →
    (storeCells ⟨g, o, none⟩ vs i).run P w = .ok () (w.setRow g (cur.toList.take (o + i) ++ vs ++ cur.toList.drop (o + i + vs.length)).toArray)
  | [], i, cur, w, hg, _, _, _ => by
    simp only [storeCells, List.append_nil, List.length_nil, Nat.add_zero, List.take_append_drop, Array.toArray_toList]
    rw [setRow_self w g cur t fz hg]
    rfl
  | v :: rest, i, cur, w, hg, hf, hl, h1 => by
    have hi : o + i < cur.size := by simp at hl; omega
    have hadd : (⟨g, o, none⟩ : Addr).add i = ⟨g, o + i, none⟩ := addr_add g o i
    have hcell : w.cell? ⟨g, o + i, none⟩ = some cur[o + i] := by simp [World.cell?, hg, hi]
    have hfro : w.frozen? ⟨g, o + i, none⟩ = false := by
      have := hf (o + i) hi
      simp only [World.frozen?, hg]
      simpa using this
    have hst : (store ((⟨g, o, none⟩ : Addr).add i) v).run P w = .ok () (w.setRow g (cur.setIfInBounds (o + i) v)) := by
      rw [hadd, run_store P w _ v _ (h1 v (by simp)), hcell]
      simp [hfro, setCell_eq_setRow w g (o + i) cur t fz v hg]
    have ih := run_storeCells_any g o t fz rest (i + 1) (cur.setIfInBounds (o + i) v) (w.setRow g (cur.setIfInBounds (o + i) v)) (setRow_heap w g cur _ t _ hg) (by simpa using hf) (by simp at hl ⊢; omega) (fun x hx => h1 x (by simp [hx]))
    simp only [storeCells, Sem.run_bind, hst, Result.andThen_ok, ih, setRow_setRow]
    congr 3
    have := list_seg_step cur.toList (o + i) v rest (by simp at hl ⊢; omega)
    simp only [Array.toList_setIfInBounds, List.length_cons]
    rw [← this]
    congr 2

theorem Ext_setRow {k : Nat} (hI : ¬ I k) {c c' : Array Value} {el : TypeId} {fz : Nat × Nat} (hk : w.heap[k]? = some (.cells c el fz)) (hs : c'.size = c.size) : Ext I I w (w.setRow k c') := by
  refine ⟨fun _ h => h, fun b hb => setRow_other w k b c' (fun e => hI (e ▸ hb)), fun b => ?_⟩
  by_cases e : b = k
  · subst e; simp [rowSize, hk, setRow_heap w b c c' el fz hk, hs]
  · simp [rowSize, setRow_other w k b c' e]

theorem Fr_setRow {k : Nat} (hO : O k) (c' : Array Value) : Fr O w (w.setRow k c') :=
  ⟨rfl, rfl, rfl, by simp, fun b _ hb => setRow_other w k b c' (fun e => hb (e ▸ hO))⟩

/-- a store into a block of a box's own. -/
theorem MRel.store (hm : MRel O I loc m w) {b g k : Nat} {x : Box} {c c' : Array Value} {el : TypeId} {fz : Nat × Nat} (hb : b < m.nb) (hown : (m.bx b).owned = true) (hl : loc b g = .blk k)
    (hk : w.heap[k]? = some (.cells c el fz)) (hs : c'.size = c.size) (hx : RelB I (w.setRow k c') loc b x) : MRel O I loc (m.set b x) (w.setRow k c') ∧ Ext I I w (w.setRow k c') ∧ Fr O w (w.setRow k c') := by
  have ho := hm.own b g k hb hown hl
  have he := Ext_setRow ho.2.1 hk hs
  refine ⟨hm.change hb hown (fun _ _ _ => rfl) he (.refl _) hx (fun g' k' hk' => ?_) (fun k' _ hk' => setRow_other w k k' c' (fun e => hk' g (e ▸ hl))) (by simp), he, Fr_setRow ho.1 c'⟩
  · have := hm.own b g' k' hb hown hk'
    refine ⟨this.1, this.2.1, by simpa using this.2.2, fun b' hb' h1 h2 g2 hg2 => hb' (hm.inj b' b g2 g' k' h1 hb h2 hown hg2 hk')⟩

theorem run_store_var (hm : MRel O I loc m w) {t : TypeId} {b off sz : Nat} {cs : List D} {y : D} {u v : Value} (hx : V I w (.bp b off) loc u) (hy : V I w y loc v) (hf : y.fit = true)
    (hsz : tsz P t = some sz) (hlen : y.cells.length = sz) (hbx : m.bx b = .var cs) (hoff : off + sz ≤ cs.length) :
    ∃ w', (Instr.storeAt t u v).run P w = .ok () w' ∧ MRel O I loc (m.set b (.var (setCells cs off y.cells))) w' ∧ Ext I I w w' ∧ Fr O w w' := by
  simp only [V] at hx
  have hlt : b < m.nb := lt_nb (g := 0) hm (by intro e; simp [e] at hx)
  have hb := hm.box b hlt
  rw [hbx] at hb; simp only [RelB] at hb
  obtain ⟨h0, k, c, el, fz, hl, hw, hu, hone, hv⟩ := hb
  simp only [hl] at hx; subst hx
  obtain ⟨hc1, hc2⟩ := V_cells hy hf
  have hcl := VL_length hc1
  have hcs := VL_length hv
  have hvs : v.cells.size = sz := by simpa [hlen] using hcl
  have hcz : c.size = cs.length := by simpa using hcs
  have hrun := run_storeCells_any (P := P) k off el fz v.cells.toList 0 c w hw hu (by simp; omega) hc2
  simp only [Nat.add_zero] at hrun
  let l' := c.toList.take off ++ v.cells.toList ++ c.toList.drop (off + v.cells.toList.length)
  have hl' : l'.length = c.size := by simp [l']; omega
  have hst := hm.store (x := .var (setCells cs off y.cells)) (c' := l'.toArray) hlt (by rw [hbx]; rfl) hl hw (by simp [hl']) (by
    simp only [RelB]
    refine ⟨h0, k, l'.toArray, el, fz, hl, setRow_heap w k c _ el fz hw, by simpa [hl'] using hu, ?_, ?_⟩
    · intro x hx
      simp only [l', List.mem_append] at hx
      rcases hx with (hx | hx) | hx
      · exact hone x (List.mem_of_mem_take hx)
      · exact hc2 x hx
      · exact hone x (List.mem_of_mem_drop hx)
    · have he := Ext_setRow (hm.own b 0 k hlt (by rw [hbx]; rfl) hl).2.1 hw (c' := l'.toArray) (by simp [hl'])
      exact VL_mono he _ loc loc _ (.refl _) (VL_set cs c.toList off y.cells v.cells.toList hv hc1 (by omega)))
  refine ⟨w.setRow k l'.toArray, ?_, hst.1, hst.2.1, hst.2.2⟩
  simp only [Instr.storeAt, Instr.sureAddr, storeVar, Sem.run_bind, Sem.run_pure, Result.andThen_ok, run_sizeOf' hsz]
  simp [hvs]
  exact hrun
end
end Go.Abs

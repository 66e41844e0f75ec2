/- The library of abstract values, part 3: see the remarks ahead of each part. No condition. -/
import Derived.Test.YteenkpgjcbhonaaGreatDoorLib2
import Derived.Laws.BytesString
import Derived.Laws.BytesArg
set_option linter.unusedVariables false
set_option linter.unusedSimpArgs false
/- What a contract of a function says in abstract values, and that a call follows it. No condition. -/
namespace Go.Abs
open Go
set_option linter.unusedSimpArgs false

/-- what the package-level variables hold that are only read. -/
def Glob (G : Nat → Option (List D)) (I : Nat → Prop) (w : World) : Prop := ∀ g cs, G g = some cs → I g ∧ VC I w cs g 0 ∧ rowSize w g = cs.length

def none' : Nat → Prop := fun _ => False

/-- A CONTRACT: called with arguments that read as 'ds' the function returns what reads as F's answer; what was there stays; what it made is the answer's own. Kind 0, 1: the answer leads into no elder memory. -/
def Sound (P : Program) (G : Nat → Option (List D)) (f : FuncId) (kind : Nat) (F : List D → Option (D × List Box)) : Prop :=
  (∃ fn, P.funcs[f]? = some fn ∧ fn.body.isSome = true ∧ (fn.name == "runtime.NumGoroutine") = false) ∧
  ∀ (I : Nat → Prop) (w : World) (args : List Value) (ds : List D) (r : D) (bx : List Box),
    (∀ k, I k → k < w.heap.size) → Glob G I w → VL I w ds free args → F ds = some (r, bx) →
    Calls P f args.toArray w fun e w' => ∃ v I' loc', e = .returned v ∧ Fr none' w w' ∧ (if kind ≤ 1 then I' = none' else (∀ k, I k → I' k) ∧ ∀ k, I' k → I k ∨ w.heap.size ≤ k) ∧
      V I' w' r loc' v ∧ MRel (fun k => w.heap.size ≤ k) I' loc' ⟨bx.length, bxOf bx⟩ w'

section
variable {P : Program} {O I : Nat → Prop} {w : World} {loc : Nat → Nat → Loc} {m : Mem}

theorem imm_all {J : Nat → Prop} (hI : ∀ k, I k → J k) : Ext I J w w := ⟨hI, fun _ _ => rfl, fun _ => Nat.le_refl _⟩

theorem snap_both {J : Nat → Prop} (hm : MRel O I loc m w) (hI : ∀ k, I k → J k) (hJ : ∀ k, k < w.heap.size → J k) : ∀ n,
    (∀ d d' v, snap m n d = some d' → V I w d loc v → V J w d' free v) ∧ (∀ ds ds' vs, snapL m n ds = some ds' → VL I w ds loc vs → VL J w ds' free vs)
  | 0 => by
    refine ⟨fun d d' v h => by simp [snap] at h, fun ds ds' vs h hv => ?_⟩
    cases ds with
    | nil => simp only [snapL, Option.some.injEq] at h; subst h; simpa only [VL] using hv
    | cons d r => simp [snapL] at h
  | n + 1 => by
    have ih := snap_both hm hI hJ n
    have hone : ∀ d d' v, snap m (n + 1) d = some d' → V I w d loc v → V J w d' free v := by
      intro d d' v h hv
      have he : Ext I J w w := imm_all hI
      cases d <;> simp only [snap] at h
      case bs b g s i k =>
        rw [Option.map_eq_some_iff] at h
        obtain ⟨rows, hr, rfl⟩ := h
        obtain ⟨all, ha, hle, rfl⟩ := cut_some hr
        simp only [V] at hv ⊢
        have hlt : b < m.nb := lt_nb (g := g) hm (by intro e; simp [e] at hv)
        rcases rows_at hm hlt ha with ⟨hl, rfl⟩ | ⟨c, hl, hvr⟩
        · simp only [hl] at hv
          obtain ⟨rfl, rfl, rfl⟩ := hv
          left; exact ⟨by simp, _, _, rfl⟩
        · simp only [hl] at hv
          obtain ⟨o, cap, rfl, hn, ho, hrs⟩ := hv
          right
          have hlen : ((all.drop i).take k).length = k := by simp; omega
          rw [hlen]
          have hc : c < w.heap.size := by
            rcases Nat.lt_or_ge c w.heap.size with h | h
            · exact h
            · have hz : w.heap[c]? = none := Array.getElem?_eq_none h
              rcases rows_some ha with e | e
              · have hx := hm.box b hlt
                rw [e] at hx; simp only [RelB] at hx
                rcases hx.2 with ⟨h1, _⟩ | ⟨c', _, _, _, h1, h2, _⟩
                · rw [hl] at h1; cases h1
                · rw [hl] at h1; cases h1; rw [hz] at h2; cases h2
              · have hx := hm.box b hlt
                rw [e] at hx; simp only [RelB] at hx
                rcases hx.2 with ⟨h1, _⟩ | ⟨c', h1, h2, _⟩
                · rw [hl] at h1; cases h1
                · rw [hl] at h1; cases h1; exact hm.imm c h2
          refine ⟨c, o, cap, rfl, hn, hJ c hc, ?_⟩
          rcases ho with ho | ho
          · have : k = 0 := by omega
            subst this
            simp [VR]
          · subst ho
            have := VR_mono he s _ c _ rfl (VR_take k (VR_drop i hvr))
            simpa using this
      case bp b off =>
        split at h
        case h_2 => cases h
        rename_i cs hb
        rw [Option.map_eq_some_iff] at h
        obtain ⟨cs', hc, rfl⟩ := h
        simp only [V] at hv ⊢
        have hlt : b < m.nb := lt_nb (g := 0) hm (by intro e; simp [e] at hv)
        have hbx := hm.box b hlt
        rw [hb] at hbx; simp only [RelB] at hbx
        obtain ⟨_, k, c, el, fz, hl, hw, _, h1, hvl⟩ := hbx
        simp only [hl] at hv; subst hv
        have hk : k < w.heap.size := by
          rcases Nat.lt_or_ge k w.heap.size with h | h
          · exact h
          · rw [Array.getElem?_eq_none h] at hw; cases hw
        refine ⟨k, off, rfl, hJ k hk, list_VC (ih.2 _ _ _ hc (VL_drop off hvl)) (fun x hx => h1 x (List.mem_of_mem_drop hx)) fun j x hj => ?_⟩
        rw [List.getElem?_drop] at hj
        simp [World.cell?, hw]
        simpa using hj
      case ap b g s i off =>
        split at h
        case h_2 => cases h
        rename_i rows hr
        rw [Option.map_eq_some_iff] at h
        obtain ⟨row, hrow, rfl⟩ := h
        simp only [V] at hv ⊢
        have hlt : b < m.nb := lt_nb (g := g) hm (by intro e; simp [e] at hv)
        rcases rows_at hm hlt hr with ⟨_, rfl⟩ | ⟨k, hl, hvr⟩
        · simp at hrow
        simp only [hl] at hv; subst hv
        have hc := (VR_get hvr hrow).2
        have hk : k < w.heap.size := by
          rcases Nat.lt_or_ge k w.heap.size with h | h
          · exact h
          · have hz : w.heap[k]? = none := Array.getElem?_eq_none h
            rcases rows_some hr with e | e
            · have hx := hm.box b hlt
              rw [e] at hx; simp only [RelB] at hx
              rcases hx.2 with ⟨h1, _⟩ | ⟨c', _, _, _, h1, h2, _⟩
              · rw [hl] at h1; cases h1
              · rw [hl] at h1; cases h1; rw [hz] at h2; cases h2
            · have hx := hm.box b hlt
              rw [e] at hx; simp only [RelB] at hx
              rcases hx.2 with ⟨h1, _⟩ | ⟨c', h1, h2, _⟩
              · rw [hl] at h1; cases h1
              · rw [hl] at h1; cases h1; exact hm.imm k h2
        have h2 := VC_mono he _ k _ rfl (VC_drop off hc)
        simp only [Nat.zero_add] at h2
        exact ⟨k, _, rfl, hJ k hk, h2⟩
      case agg cs =>
        rw [Option.map_eq_some_iff] at h
        obtain ⟨cs', hc, rfl⟩ := h
        simp only [V] at hv ⊢
        obtain ⟨vs, rfl, h1, hl⟩ := hv
        exact ⟨vs, rfl, h1, ih.2 _ _ _ hc hl⟩
      case tup cs =>
        rw [Option.map_eq_some_iff] at h
        obtain ⟨cs', hc, rfl⟩ := h
        simp only [V] at hv ⊢
        obtain ⟨vs, rfl, hl⟩ := hv
        exact ⟨vs, rfl, ih.2 _ _ _ hc hl⟩
      case fn f cs =>
        rw [Option.map_eq_some_iff] at h
        obtain ⟨cs', hc, rfl⟩ := h
        simp only [V] at hv ⊢
        obtain ⟨vs, rfl, hl⟩ := hv
        exact ⟨vs, rfl, ih.2 _ _ _ hc hl⟩
      case mp b => cases h
      all_goals
        simp only [Option.some.injEq] at h; subst h
        first
          | trivial
          | (simpa only [V] using hv)
          | (exact V_mono he _ free free _ (.refl _) (by simpa only [V] using hv))
    refine ⟨hone, fun ds => ?_⟩
    induction ds with
    | nil => intro ds' vs h hv; simp only [snapL, Option.some.injEq] at h; subst h; simpa only [VL] using hv
    | cons d r ihr =>
      intro ds' vs h hv
      simp only [snapL] at h
      split at h
      case h_2 => cases h
      rename_i x y hx hy
      simp only [Option.some.injEq] at h; subst h
      simp only [VL] at hv ⊢
      obtain ⟨v, vr, rfl, h1, h2⟩ := hv
      exact ⟨v, vr, rfl, ih.1 _ _ _ hx h1, ihr _ _ hy h2⟩
end
end Go.Abs

/- Every operation is followed by its abstract one, calls by their contracts. No condition. -/
namespace Go.Abs
open Go
set_option linter.unusedSimpArgs false

section
variable {P : Program} {O I : Nat → Prop} {w : World} {loc : Nat → Nat → Loc} {m : Mem}

def locJoin (loc : Nat → Nat → Loc) (n : Nat) (loc' : Nat → Nat → Loc) : Nat → Nat → Loc := fun b g => if b < n then loc b g else loc' (b - n) g

mutual
theorem V_shift {J K : Nat → Prop} (hJ : ∀ k, J k → K k) {loc' : Nat → Nat → Loc} (n : Nat) : ∀ (d : D) (v : Value), V J w d loc' v → V K w (d.shift n) (locJoin loc n loc') v
  | .dead, _, _ => trivial
  | .bool _, _, h => by simpa only [V, D.shift] using h
  | .int _ _, _, h => by simpa only [V, D.shift] using h
  | .str _, _, h => by simpa only [V, D.shift] using h
  | .lit _, _, h => by simpa only [V, D.shift] using h
  | .nilp, _, h => by simpa only [V, D.shift] using h
  | .nils, _, h => by simpa only [V, D.shift] using h
  | .rs s rows, v, h => V_mono (imm_all hJ) (.rs s rows) free _ v (.free _) (by simpa only [V] using h)
  | .rp cs, v, h => V_mono (imm_all hJ) (.rp cs) free _ v (.free _) (by simpa only [V] using h)
  | .bp b off, v, h => by
    simp only [V, D.shift, locJoin] at h ⊢
    rw [if_neg (by omega), Nat.add_sub_cancel]; exact h
  | .mp b, v, h => by
    simp only [V, D.shift, locJoin] at h ⊢
    rw [if_neg (by omega), Nat.add_sub_cancel]; exact h
  | .ap b g s i off, v, h => by
    simp only [V, D.shift, locJoin] at h ⊢
    rw [if_neg (by omega), Nat.add_sub_cancel]; exact h
  | .bs b g s i k, v, h => by
    simp only [V, D.shift, locJoin] at h ⊢
    rw [if_neg (by omega), Nat.add_sub_cancel]; exact h
  | .agg cs, v, h => by
    simp only [V, D.shift] at h ⊢
    obtain ⟨vs, rfl, h1, h2⟩ := h
    exact ⟨vs, rfl, h1, VL_shift hJ n cs vs h2⟩
  | .tup cs, v, h => by
    simp only [V, D.shift] at h ⊢
    obtain ⟨vs, rfl, h2⟩ := h
    exact ⟨vs, rfl, VL_shift hJ n cs vs h2⟩
  | .fn f cs, v, h => by
    simp only [V, D.shift] at h ⊢
    obtain ⟨vs, rfl, h2⟩ := h
    exact ⟨vs, rfl, VL_shift hJ n cs vs h2⟩
theorem VL_shift {J K : Nat → Prop} (hJ : ∀ k, J k → K k) {loc' : Nat → Nat → Loc} (n : Nat) : ∀ (ds : List D) (vs : List Value), VL J w ds loc' vs → VL K w (shiftL n ds) (locJoin loc n loc') vs
  | [], _, h => by simpa only [VL, shiftL] using h
  | d :: r, vs, h => by
    simp only [VL, shiftL] at h ⊢
    obtain ⟨v, vr, rfl, h1, h2⟩ := h
    exact ⟨v, vr, rfl, V_shift hJ n d v h1, VL_shift hJ n r vr h2⟩
end

theorem Ext_of_Fr {w' : World} {K : Nat → Prop} (hf : Fr none' w w') (hi : ∀ k, I k → k < w.heap.size) (hK : ∀ k, I k → K k) : Ext I K w w' := by
  refine ⟨hK, fun k hk => hf.block k (hi k hk) (fun h => h), fun k => ?_⟩
  rcases Nat.lt_or_ge k w.heap.size with h | h
  · simp only [rowSize, hf.block k h (fun h => h)]; exact Nat.le_refl _
  · have : w.heap[k]? = none := Array.getElem?_eq_none h
    simp [rowSize, this]

theorem MRel.step {w' : World} (hm : MRel O I loc m w) (hf : Fr none' w w') : MRel O I loc m w' := by
  have he := Ext_of_Fr hf hm.imm (fun _ h => h)
  refine ⟨fun b hb => RelB_mono he (.refl _) (fun _ => rfl) (fun ho g k hk => ?_) (hm.box b hb), hm.free, fun b g k hb ho hk => ?_, hm.inj, fun k hk => ?_, fun k hk => hm.up k ?_⟩
  · exact hf.block k (hm.own b g k hb ho hk).2.2 (fun h => h)
  · have := hm.own b g k hb ho hk
    exact ⟨this.1, this.2.1, Nat.lt_of_lt_of_le this.2.2 hf.size⟩
  · exact Nat.lt_of_lt_of_le (hm.imm k hk) hf.size
  · exact Nat.le_trans hf.size hk

theorem Box.shift_owned (n : Nat) (b : Box) : (b.shift n).owned = b.owned := by cases b <;> rfl

theorem RelB_shift {J K : Nat → Prop} (hJ : ∀ k, J k → K k) {loc' : Nat → Nat → Loc} {n b : Nat} {x : Box} (h : RelB J w loc' b x) : RelB K w (locJoin loc n loc') (b + n) (x.shift n) := by
  have hl : ∀ g, locJoin loc n loc' (b + n) g = loc' b g := fun g => by unfold locJoin; rw [if_neg (by omega), Nat.add_sub_cancel]
  have he : Ext J K w w := imm_all hJ
  cases x with
  | gone => simp only [RelB, Box.shift] at h ⊢; intro g; rw [hl]; exact h g
  | lent => trivial
  | var cs =>
    simp only [RelB, Box.shift] at h ⊢
    obtain ⟨h0, k, c, el, fz, h1, h2, h3, h4, h5⟩ := h
    exact ⟨fun g hg => by rw [hl]; exact h0 g hg, k, c, el, fz, by rw [hl]; exact h1, h2, h3, h4, VL_shift hJ n cs _ h5⟩
  | arr g s rows =>
    simp only [RelB, Box.shift] at h ⊢
    refine ⟨⟨fun g' hg => by rw [hl]; exact h.1.1 g' hg, fun g' hg => by rw [hl]; exact h.1.2 g' hg⟩, ?_⟩
    rcases h.2 with ⟨h1, h2⟩ | ⟨k, c, el, fz, h1, h2, h3, h4, h5⟩
    · exact .inl ⟨by rw [hl]; exact h1, h2⟩
    · exact .inr ⟨k, c, el, fz, by rw [hl]; exact h1, h2, h3, h4, VR_mono he s rows k 0 rfl h5⟩
  | frz g s rows =>
    simp only [RelB, Box.shift] at h ⊢
    refine ⟨⟨fun g' hg => by rw [hl]; exact h.1.1 g' hg, fun g' hg => by rw [hl]; exact h.1.2 g' hg⟩, ?_⟩
    rcases h.2 with ⟨h1, h2⟩ | ⟨k, h1, h2, h3⟩
    · exact .inl ⟨by rw [hl]; exact h1, h2⟩
    · exact .inr ⟨k, by rw [hl]; exact h1, hJ k h2, VR_mono he s rows k 0 rfl h3⟩
  | iter l pos =>
    simp only [RelB, Box.shift] at h ⊢
    obtain ⟨h0, k, h1, h2⟩ := h
    exact ⟨fun g hg => by rw [hl]; exact h0 g hg, k, by rw [hl]; exact h1, h2⟩
  | mset ks =>
    simp only [RelB, Box.shift] at h ⊢
    obtain ⟨h0, k, es, ck, h1, h2⟩ := h
    exact ⟨fun g hg => by rw [hl]; exact h0 g hg, k, es, ck, by rw [hl]; exact h1, h2⟩

/-- the answer's boxes beside the state's own. -/
theorem MRel.join {J K : Nat → Prop} {w0 : World} {loc' : Nat → Nat → Loc} {bx : List Box} (hm : MRel O I loc m w) (hm2 : MRel (fun k => w0.heap.size ≤ k) J loc' ⟨bx.length, bxOf bx⟩ w)
    (hI : ∀ k, I k → K k) (hJ : ∀ k, J k → K k) (hK : ∀ k, K k → k < w.heap.size) (hO : ∀ k, w0.heap.size ≤ k → O k)
    (hold : ∀ b g k, b < m.nb → (m.bx b).owned = true → loc b g = .blk k → k < w0.heap.size ∧ ¬ K k) (hnew : ∀ k, w0.heap.size ≤ k → ¬ J k → ¬ K k) :
    MRel O K (locJoin loc m.nb loc') (m.join bx) w ∧ LocExt loc (locJoin loc m.nb loc') := by
  have hl1 : ∀ b g, b < m.nb → locJoin loc m.nb loc' b g = loc b g := fun b g h => by unfold locJoin; rw [if_pos h]
  have hl2 : ∀ b g, ¬ b < m.nb → locJoin loc m.nb loc' b g = loc' (b - m.nb) g := fun b g h => by unfold locJoin; rw [if_neg h]
  have hext : LocExt loc (locJoin loc m.nb loc') := fun b g => by
    by_cases h : b < m.nb
    · exact .inr (.inr (hl1 b g h))
    · exact .inl (hm.free b g (by omega))
  have hb1 : ∀ b, b < m.nb → (m.join bx).bx b = m.bx b := fun b h => by simp [Mem.join, h]
  have hb2 : ∀ b, ¬ b < m.nb → (m.join bx).bx b = (bxOf bx (b - m.nb)).shift m.nb := fun b h => by simp [Mem.join, h]
  have hnb : (m.join bx).nb = m.nb + bx.length := rfl
  refine ⟨⟨fun b hb => ?_, fun b g hb => ?_, fun b g k hb ho hk => ?_, fun b b' g g' k hb hb' ho ho' hk hk' => ?_, hK, hm.up⟩, hext⟩
  · by_cases h : b < m.nb
    · rw [hb1 b h]
      exact RelB_mono (imm_all hI) hext (fun g => hl1 b g h) (fun _ _ _ _ => rfl) (hm.box b h)
    · rw [hb2 b h]
      have := RelB_shift (loc := loc) (n := m.nb) hJ (hm2.box (b - m.nb) (by simp only; omega))
      rwa [Nat.sub_add_cancel (by omega)] at this
  · rw [hl2 b g (by omega)]
    exact hm2.free _ g (by simp only; omega)
  · by_cases h : b < m.nb
    · rw [hb1 b h] at ho
      rw [hl1 b g h] at hk
      have h1 := hm.own b g k h ho hk
      exact ⟨h1.1, (hold b g k h ho hk).2, h1.2.2⟩
    · rw [hb2 b h, Box.shift_owned] at ho
      rw [hl2 b g h] at hk
      have h1 := hm2.own (b - m.nb) g k (by simp only; omega) ho hk
      exact ⟨hO k h1.1, hnew k h1.1 h1.2.1, h1.2.2⟩
  · by_cases h : b < m.nb
    · by_cases h' : b' < m.nb
      · rw [hb1 b h] at ho
        rw [hb1 b' h'] at ho'
        rw [hl1 b g h] at hk
        rw [hl1 b' g' h'] at hk'
        exact hm.inj b b' g g' k h h' ho ho' hk hk'
      · rw [hb1 b h] at ho
        rw [hb2 b' h', Box.shift_owned] at ho'
        rw [hl1 b g h] at hk
        rw [hl2 b' g' h'] at hk'
        have h1 := (hold b g k h ho hk).1
        have h2 : w0.heap.size ≤ k := (hm2.own (b' - m.nb) g' k (by simp only; omega) ho' hk').1
        omega
    · by_cases h' : b' < m.nb
      · rw [hb2 b h, Box.shift_owned] at ho
        rw [hb1 b' h'] at ho'
        rw [hl2 b g h] at hk
        rw [hl1 b' g' h'] at hk'
        have h1 := (hold b' g' k h' ho' hk').1
        have h2 : w0.heap.size ≤ k := (hm2.own (b - m.nb) g k (by simp only; omega) ho hk).1
        omega
      · rw [hb2 b h, Box.shift_owned] at ho
        rw [hb2 b' h', Box.shift_owned] at ho'
        rw [hl2 b g h] at hk
        rw [hl2 b' g' h'] at hk'
        have := hm2.inj (b - m.nb) (b' - m.nb) g g' k (by simp only; omega) (by simp only; omega) ho ho' hk hk'
        omega

theorem Glob_mono {G : Nat → Option (List D)} {I' : Nat → Prop} {w' : World} (h : Glob G I w) (he : Ext I I' w w') : Glob G I' w' := fun g cs hg => by
  obtain ⟨h1, h2, h3⟩ := h g cs hg
  exact ⟨he.imm g h1, VC_mono he cs g 0 (he.same g h1) h2, by rw [← h3]; unfold rowSize; rw [he.same g h1]⟩

def SpecsOk (P : Program) (Sp : Specs) : Prop := ∀ f k F, Sp.fn f = some (k, F) → Sound P Sp.glob f k F

theorem Fr.weaken {w' : World} (h : Fr none' w w') : Fr O w w' := ⟨h.os, h.tape, h.output, h.size, fun b hb _ => h.block b hb (fun h => h)⟩

/-- an operation is followed. -/
def Follows (P : Program) (Sp : Specs) (O I : Nat → Prop) (loc : Nat → Nat → Loc) (w : World) (o : Oper) (r : Result Next) (d : D) (m' : Mem) : Prop :=
  ∀ (a : Act) (next : Act → World → Prop) (Q : Exit → Act → World → Prop), (∀ v w' I' loc', MRel O I' loc' m' w' → Glob Sp.glob I' w' → V I' w' d loc' v → Ext I I' w w' → (∀ k, I' k → I k ∨ w.heap.size ≤ k) → LocExt loc loc' → Fr O w w' → next (a.put o.dst v) w') →
    o.upon P a next Q r

theorem Follows.of_res {Sp : Specs} {o : Oper} {r : Result Next} {d : D} {m' : Mem} (hG : Glob Sp.glob I w) (h : Res O I loc w r d m') : Follows P Sp O I loc w o r d m' := by
  obtain ⟨v, w', loc', h1, h2, h3, h4, h5, h6⟩ := h
  intro a next Q hn
  have := hn v w' I loc' h2 (Glob_mono hG h4) h3 h4 (fun _ h => .inl h) h5 h6
  rcases h1 with rfl | ⟨rfl, rfl⟩
  · exact this
  · exact this

theorem run_call {ρ : Operand → Value} {f : Operand} {args : Array Operand} {at' : Array TypeId} {k : Nat} {vs : List Value} (hf : ρ f = .func (.func k) #[] vs.toArray)
    (hb : ∃ fn, P.funcs[k]? = some fn ∧ fn.body.isSome = true ∧ (fn.name == "runtime.NumGoroutine") = false) (dst : Option Tmp) (ty : TypeId) (pos : String) (af : Array Edge) (gd : Option (Nat × Bool)) :
    (execOp ρ ⟨dst, .call ⟨.value f, args, at'⟩, ty, pos, af, gd⟩).run P w = .ok (.enter k (args.toList.map ρ ++ vs).toArray) w := by
  obtain ⟨fn, h1, h2, h3⟩ := hb
  have hn : fn.body.isNone = false := by cases h : fn.body <;> simp_all
  have : args.map ρ ++ vs.toArray = (args.toList.map ρ ++ vs).toArray := by apply Array.ext'; simp
  simp only [execOp, resolve, hf, Deferred.ofValue, Sem.run_bind, Sem.run_pure, Result.andThen_ok, invoke, callFunc, run_program, h1, h3, Bool.false_eq_true, if_false, hn, Array.empty_append, this]

theorem call_ok {Sp : Specs} (hSp : SpecsOk P Sp) (hm : MRel O I loc m w) (hG : Glob Sp.glob I w) {e : Operand → D} {ρ : Operand → Value} (he : ∀ x, V I w (e x) loc (ρ x)) {f : Operand} {args : Array Operand} {at' : Array TypeId}
    {dst : Option Tmp} {ty : TypeId} {pos : String} {af : Array Edge} {gd : Option (Nat × Bool)} {k : Nat} {cap : List D} {kind : Nat} {F : List D → Option (D × List Box)} {ds : List D} {d : D} {bx : List Box}
    (hf : e f = .fn k cap) (hs : Sp.fn k = some (kind, F)) (hF : F ds = some (d, bx))
    (hds : (kind ≤ 1 ∧ snapL m 8 (args.toList.map e ++ cap) = some ds) ∨ (¬ kind ≤ 1 ∧ pureL (args.toList.map e ++ cap) = true ∧ ds = args.toList.map e ++ cap)) :
    Follows P Sp O I loc w ⟨dst, .call ⟨.value f, args, at'⟩, ty, pos, af, gd⟩ ((execOp ρ ⟨dst, .call ⟨.value f, args, at'⟩, ty, pos, af, gd⟩).run P w) (d.shift m.nb) (m.join bx) := by
  have hv := he f
  rw [hf] at hv; simp only [V] at hv
  obtain ⟨vs, hv1, hv2⟩ := hv
  obtain ⟨hb, hS⟩ := hSp k kind F hs
  rw [run_call hv1 hb]
  have hall : VL I w (args.toList.map e ++ cap) loc (args.toList.map ρ ++ vs) := VL_append (VL_map he _) hv2
  intro a next Q hn
  simp only [Oper.upon]
  by_cases hk : kind ≤ 1
  · obtain ⟨_, hsn⟩ := hds.resolve_right (fun h => h.1 hk)
    have hJ := (snap_both (J := fun k => k < w.heap.size) hm hm.imm (fun _ h => h) 8).2 _ _ _ hsn hall
    refine (hS (fun k => k < w.heap.size) w _ ds d bx (fun _ h => h) (Glob_mono hG (imm_all hm.imm)) hJ hF).mono ?_
    rintro _ w' ⟨v, I', loc', rfl, hfr, hI', hvv, hm2⟩
    rw [if_pos hk] at hI'
    subst hI'
    have hj := (hm.step hfr).join (w0 := w) (K := I) hm2 (fun _ h => h) (fun _ h => h.elim) (fun k h => Nat.lt_of_lt_of_le (hm.imm k h) hfr.size) (fun k h => hm.up k h)
      (fun b g k hb ho hk => ⟨(hm.own b g k hb ho hk).2.2, (hm.own b g k hb ho hk).2.1⟩) (fun k h _ hI => by have := hm.imm k hI; omega)
    have hx := Ext_of_Fr hfr hm.imm (fun _ h => h)
    exact hn v w' I _ hj.1 (Glob_mono hG hx) (V_shift (fun _ h => h.elim) m.nb d v hvv) hx (fun _ h => .inl h) hj.2 hfr.weaken
  · obtain ⟨_, hp, rfl⟩ := hds.resolve_left (fun h => hk h.1)
    refine (hS I w _ _ d bx hm.imm hG (VL_pure hp hall) hF).mono ?_
    rintro _ w' ⟨v, I', loc', rfl, hfr, hI', hvv, hm2⟩
    rw [if_neg hk] at hI'
    have hj := (hm.step hfr).join (w0 := w) (K := I') hm2 hI'.1 (fun _ h => h) hm2.imm (fun k h => hm.up k h)
      (fun b g k hb ho hk => ⟨(hm.own b g k hb ho hk).2.2, fun h => by
        rcases hI'.2 k h with h | h
        · exact (hm.own b g k hb ho hk).2.1 h
        · have := (hm.own b g k hb ho hk).2.2; omega⟩) (fun k _ h => h)
    have hx := Ext_of_Fr hfr hm.imm hI'.1
    exact hn v w' I' _ hj.1 (Glob_mono hG hx) (V_shift (fun _ h => h) m.nb d v hvv) hx hI'.2 hj.2 hfr.weaken

theorem call_ok0 {Sp : Specs} (hSp : SpecsOk P Sp) (hm : MRel O I loc m w) (hG : Glob Sp.glob I w) {e : Operand → D} {ρ : Operand → Value} (he : ∀ x, V I w (e x) loc (ρ x)) {f : Operand} {args : Array Operand} {at' : Array TypeId}
    {dst : Option Tmp} {ty : TypeId} {pos : String} {af : Array Edge} {gd : Option (Nat × Bool)} {k : Nat} {cap : List D} {F : List D → Option (D × List Box)} {ds : List D} {d : D}
    (hf : e f = .fn k cap) (hs : Sp.fn k = some (0, F)) (hF : F ds = some (d, [])) (hds : snapL m 8 (args.toList.map e ++ cap) = some ds) :
    Follows P Sp O I loc w ⟨dst, .call ⟨.value f, args, at'⟩, ty, pos, af, gd⟩ ((execOp ρ ⟨dst, .call ⟨.value f, args, at'⟩, ty, pos, af, gd⟩).run P w) d m := by
  have hv := he f
  rw [hf] at hv; simp only [V] at hv
  obtain ⟨vs, hv1, hv2⟩ := hv
  obtain ⟨hb, hS⟩ := hSp k 0 F hs
  rw [run_call hv1 hb]
  have hall : VL I w (args.toList.map e ++ cap) loc (args.toList.map ρ ++ vs) := VL_append (VL_map he _) hv2
  intro a next Q hn
  simp only [Oper.upon]
  have hJ := (snap_both (J := fun k => k < w.heap.size) hm hm.imm (fun _ h => h) 8).2 _ _ _ hds hall
  refine (hS (fun k => k < w.heap.size) w _ ds d [] (fun _ h => h) (Glob_mono hG (imm_all hm.imm)) hJ hF).mono ?_
  rintro _ w' ⟨v, I', loc', rfl, hfr, hI', hvv, hm2⟩
  rw [if_pos (by omega)] at hI'
  subst hI'
  have hl : loc' = free := by funext b g; exact hm2.free b g (Nat.zero_le _)
  subst hl
  have hx := Ext_of_Fr hfr hm.imm (fun _ h => h)
  exact hn v w' I loc (hm.step hfr) (Glob_mono hG hx) (V_mono (imm_all (fun _ h => h.elim)) d free loc v (.free _) hvv) hx (fun _ h => .inl h) (.refl _) hfr.weaken

theorem bytesOf_ok : ∀ (rows : List (List D)) (l : List UInt8) (vs : List Value), bytesOf rows = some l → VL I w rows.flatten free vs →
    ∃ ns : List Int, vs = ns.map (Value.int .u8) ∧ (ns.map fun n => UInt8.ofNat n.toNat) = l
  | [], l, vs, h, hv => by
    simp only [bytesOf, Option.some.injEq] at h; subst h
    simp only [List.flatten_nil, VL] at hv; subst hv
    exact ⟨[], rfl, rfl⟩
  | row :: r, l, vs, h, hv => by
    unfold bytesOf at h
    split at h
    · rename_i heq; cases heq
    · rename_i n r' heq
      simp only [List.cons.injEq] at heq
      obtain ⟨rfl, rfl⟩ := heq
      split at h
      · rw [Option.map_eq_some_iff] at h
        obtain ⟨l', hl, rfl⟩ := h
        simp only [List.flatten_cons, List.cons_append, List.nil_append, VL] at hv
        obtain ⟨v, vr, rfl, h1, h2⟩ := hv
        simp only [V] at h1; subst h1
        obtain ⟨ns, rfl, rfl⟩ := bytesOf_ok r l' vr hl h2
        exact ⟨n :: ns, rfl, rfl⟩
      · cases h
    · cases h

theorem slice_of_rows {s : Nat} {x : D} {u : Value} {rows : List (List D)} (hx : V I w x loc u) (h : rowsOf m s x = some rows) : ∃ a n cap, u = .slice a n cap := by
  unfold rowsOf at h
  split at h
  · simp only [V] at hx; exact ⟨_, _, _, hx⟩
  · simp only [V] at hx
    rcases hx with ⟨_, _, _, rfl⟩ | ⟨b, o, cap, rfl, _⟩ <;> exact ⟨_, _, _, rfl⟩
  · rename_i b g s' i n
    simp only [V] at hx
    cases hl : loc b g <;> simp only [hl] at hx
    · obtain ⟨a, cap, rfl, _⟩ := hx; exact ⟨_, _, _, rfl⟩
    · exact ⟨_, _, _, hx.2.2⟩
    · obtain ⟨o, cap, rfl, _⟩ := hx; exact ⟨_, _, _, rfl⟩
  · cases h

theorem semR_ok {Sp : Specs} (hSp : SpecsOk P Sp) (hm : MRel O I loc m w) (hG : Glob Sp.glob I w) {e : Operand → D} {ρ : Operand → Value} (he : ∀ x, V I w (e x) loc (ρ x)) {o : Oper} {d : D} (h : semR P Sp o.op e m = some d) :
    Follows P Sp O I loc w o ((execOp ρ o).run P w) d m := by
  obtain ⟨dst, op, type, pos, after, guard⟩ := o
  simp only at h
  unfold semR at h
  split at h
  · rename_i t x
    obtain ⟨z, hz, hv⟩ := run_loadR (P := P) hm (he x) h
    exact Follows.of_res hG (Res.of_same hm ⟨z, by simp [execOp, hz], hv⟩)
  · rename_i src dst' x
    split at h
    case h_2 => cases h
    rename_i el hel
    split at h
    case isFalse => cases h
    rename_i hc
    split at h
    case h_2 => cases h
    rename_i rows hr
    rw [Option.map_eq_some_iff] at h
    obtain ⟨l, hl, rfl⟩ := h
    obtain ⟨vs, hsrc⟩ := src_of (P := P) hm (he x) hr
    obtain ⟨a, n, cap, hu⟩ := slice_of_rows (he x) hr
    obtain ⟨ns, rfl, rfl⟩ := bytesOf_ok rows l vs hl hsrc.vl
    have hlen := hsrc.len
    rw [hu] at hlen
    have hn : n = rows.length := by
      have := congrArg (fun s : Sem Nat => s.run P w) hlen
      simpa [Builtin.lenOf] using this
    have hfirst := hsrc.first w rfl
    rw [hu] at hfirst
    have hconv := run_convert_bytes_string (P := P) w src dst' el a n cap (und_elem hel) (und_int hc.1) (und_str hc.2)
    refine Follows.of_res hG (Res.of_same hm ⟨.string ⟨(ns.map fun n => UInt8.ofNat n.toNat).toArray⟩, ?_, by simp [V]⟩)
    have : (Conv.bytesToString (.slice a n cap)).run P w = .ok (.string ⟨(ns.map fun n => UInt8.ofNat n.toNat).toArray⟩) w := by
      cases a with
      | none =>
        simp only [Builtin.firstCells, Sem.run_pure, Result.ok.injEq, and_true] at hfirst
        have hns : ns = [] := by
          have := congrArg Array.toList hfirst
          simpa using this.symm
        subst hns
        rfl
      | some a =>
        subst hn
        simp only [Builtin.firstCells, Nat.mul_one] at hfirst
        rw [run_bytesToString w a rows.length cap ns hfirst, foldl_push_bytes]
        simp [ByteArray.empty, ByteArray.emptyWithCapacity]
        rfl
    simp [execOp, hu, hconv, this]
  · rename_i f args at'
    split at h
    case h_2 => cases h
    rename_i k cap hf
    split at h
    case h_2 => cases h
    rename_i F hs
    split at h
    case h_2 => cases h
    rename_i ds hds
    split at h
    case h_2 => cases h
    rename_i d' hF
    simp only [Option.some.injEq] at h; subst h
    exact call_ok0 hSp hm hG he hf hs hF hds
  · cases h

theorem semW_ok {Sp : Specs} (hSp : SpecsOk P Sp) (hm : MRel O I loc m w) (hG : Glob Sp.glob I w) {e : Operand → D} {ρ : Operand → Value} (he : ∀ x, V I w (e x) loc (ρ x)) {o : Oper} {d : D} {m' : Mem} (h : semW P Sp o.op e m = some (d, m')) :
    Follows P Sp O I loc w o ((execOp ρ o).run P w) d m' := by
  obtain ⟨dst, op, type, pos, after, guard⟩ := o
  simp only at h
  unfold semW at h
  split at h
  · -- alloc
    split at h
    case h_2 => cases h
    rename_i z hz
    split at h
    case isFalse => cases h
    rename_i hf
    simp only [Option.some.injEq, Prod.mk.injEq] at h
    obtain ⟨rfl, rfl⟩ := h
    exact Follows.of_res hG (run_alloc hm hz hf ρ _ _ _ _ _)
  · -- box
    split at h
    case isFalse => cases h
    rename_i hf
    simp only [Option.some.injEq, Prod.mk.injEq] at h
    obtain ⟨rfl, rfl⟩ := h
    exact Follows.of_res hG (run_box hm ρ (he _) hf _ _ _ _ _)
  · -- store
    rename_i t x y
    split at h
    case h_2 => cases h
    rename_i sz hsz
    split at h
    case isFalse => cases h
    rename_i hc
    have fin : ∀ {w'}, (Instr.storeAt t (ρ x) (ρ y)).run P w = .ok () w' → MRel O I loc m' w' → Ext I I w w' → Fr O w w' → d = .dead →
        Follows P Sp O I loc w ⟨dst, .store t x y, type, pos, after, guard⟩ ((execOp ρ ⟨dst, .store t x y, type, pos, after, guard⟩).run P w) d m' := by
      intro w' h1 h2 h3 h4 h5
      subst h5
      refine Follows.of_res hG ⟨undef, w', loc, .inr ⟨by simp [execOp, h1], rfl⟩, h2, trivial, h3, .refl _, h4⟩
    split at h
    · rename_i b off hx
      split at h
      case h_2 => cases h
      rename_i cs hb
      split at h
      case isFalse => cases h
      rename_i hoff
      simp only [Option.some.injEq, Prod.mk.injEq] at h
      obtain ⟨rfl, rfl⟩ := h
      obtain ⟨w', h1, h2, h3, h4⟩ := run_store_var (P := P) hm (hx ▸ he x) (he y) hc.1 hsz hc.2 hb hoff
      exact fin h1 h2 h3 h4 rfl
    · rename_i b g s i off hx
      split at h
      case h_2 => cases h
      rename_i g' s' rows hb
      split at h
      case isFalse => cases h
      rename_i hc2
      obtain ⟨rfl, rfl, hp⟩ := hc2
      split at h
      case h_2 => cases h
      rename_i row hrow
      split at h
      case isFalse => cases h
      rename_i hoff
      simp only [Option.some.injEq, Prod.mk.injEq] at h
      obtain ⟨rfl, rfl⟩ := h
      obtain ⟨w', h1, h2, h3, h4⟩ := run_store_arr (P := P) hm (hx ▸ he x) (he y) hc.1 hp hsz hc.2 hb hrow hoff
      exact fin h1 h2 h3 h4 rfl
    · cases h
  · -- buildSlice
    split at h
    case h_2 => cases h
    rename_i el hel
    split at h
    case h_2 => cases h
    rename_i sz hsz
    split at h
    case isFalse => cases h
    rename_i hn
    split at h
    case h_2 => cases h
    rename_i z hz
    split at h
    case h_2 => cases h
    rename_i rows hr
    simp only [Option.some.injEq, Prod.mk.injEq] at h
    obtain ⟨rfl, rfl⟩ := h
    obtain ⟨v, w', h1, h2⟩ := run_buildSlice (P := P) hm he hel hsz hn hz hr
    refine Follows.of_res hG ?_
    exact Res.bind h1 h2
  · -- range
    rename_i t x
    split at h
    case h_2 => cases h
    rename_i l hl
    split at h
    case isFalse => cases h
    rename_i hs
    simp only [Option.some.injEq, Prod.mk.injEq] at h
    obtain ⟨rfl, rfl⟩ := h
    have hx := he x
    rw [hl] at hx; simp only [V] at hx
    refine Follows.of_res hG ?_
    have : (execOp ρ ⟨dst, .range t x, type, pos, after, guard⟩).run P w = .ok (.value (.pointer (some ⟨w.heap.size, 0, none⟩))) (w.alloc (.stringIter ⟨l.toArray⟩ 0)) := by
      simp [execOp, Instr.range, run_underlying (und_str hs), hx]
    rw [this]
    refine ⟨_, _, locNew loc m.nb (.blk w.heap.size), .inl rfl, hm.alloc _ _ ?_, V_new _ _, Ext_alloc hm.imm _, locNew_ext hm _, Fr_alloc _ _⟩
    simp only [RelB]
    exact ⟨fun g hg => by simp [locNew, hg], w.heap.size, by simp [locNew], heap_new _ _⟩
  · -- next
    rename_i x
    split at h
    case h_2 => cases h
    rename_i b hx
    split at h
    case h_2 => cases h
    rename_i l ps hb
    have hv := he x
    rw [hx] at hv; simp only [V] at hv
    have hlt : b < m.nb := lt_nb (g := 0) hm (by intro e; simp [e] at hv)
    have hbr := hm.box b hlt
    rw [hb] at hbr; simp only [RelB] at hbr
    obtain ⟨h0, k, hl, hw⟩ := hbr
    simp only [hl] at hv
    refine Follows.of_res hG ?_
    have hget : (getObj k).run P w = .ok (.stringIter ⟨l.toArray⟩ ps) w := by simp [getObj, Sem.run, hw]
    split at h
    · rename_i hps
      simp only [Option.some.injEq, Prod.mk.injEq] at h
      obtain ⟨rfl, rfl⟩ := h
      let w' : World := { w with heap := w.heap.setIfInBounds k (.stringIter ⟨l.toArray⟩ (ps + (Utf8.decode ⟨l.toArray⟩ ps).2)) }
      have hset : (setObj k (.stringIter ⟨l.toArray⟩ (ps + (Utf8.decode ⟨l.toArray⟩ ps).2))).run P w = .ok () w' := by simp [setObj, Sem.run, hw, w']
      have hrun : (execOp ρ ⟨dst, .next x true, type, pos, after, guard⟩).run P w = .ok (.value (.tuple #[.bool true, .int .i64 ps, .int .i32 (Utf8.decode ⟨l.toArray⟩ ps).1])) w' := by
        simp only [execOp, Instr.next, hv, Sem.run_bind, hget, Result.andThen_ok, size_mk, if_pos hps, hset, Sem.run_pure, goInt]
      rw [hrun]
      have hk := hm.own b 0 k hlt (by rw [hb]; rfl) hl
      have hoth : ∀ q, q ≠ k → w'.heap[q]? = w.heap[q]? := fun q hq => by
        simp only [w', Array.getElem?_setIfInBounds]
        rw [if_neg (Ne.symm hq)]
      have hsame : w'.heap[k]? = some (.stringIter ⟨l.toArray⟩ (ps + (Utf8.decode ⟨l.toArray⟩ ps).2)) := by
        simp only [w', Array.getElem?_setIfInBounds]
        rw [if_pos trivial, if_pos hk.2.2]
      have hext : Ext I I w w' := ⟨fun _ h => h, fun q hq => hoth q (fun e => hk.2.1 (e ▸ hq)), fun q => by
        by_cases e : q = k
        · subst e; simp [rowSize, hw]
        · simp [rowSize, hoth q e]⟩
      refine ⟨_, w', loc, .inl rfl, hm.change hlt (by rw [hb]; rfl) (fun _ _ _ => rfl) hext (.refl _) ?_ ?_ (fun q _ hq => hoth q (fun e => hq 0 (e ▸ hl))) (by simp [w']), ?_, hext, .refl _, ⟨rfl, rfl, rfl, by simp [w'], fun q _ hq => hoth q (fun e => hq (e ▸ hk.1))⟩⟩
      · simp only [RelB]
        exact ⟨h0, k, hl, hsame⟩
      · intro g' k' hk'
        have := hm.own b g' k' hlt (by rw [hb]; rfl) hk'
        exact ⟨this.1, this.2.1, by simpa [w'] using this.2.2, fun b' hb' h1 h2 g2 hg2 => hb' (hm.inj b' b g2 g' k' h1 hlt h2 (by rw [hb]; rfl) hg2 hk')⟩
      · simp only [V]
        exact ⟨[.bool true, .int .i64 ps, .int .i32 (Utf8.decode ⟨l.toArray⟩ ps).1], rfl, by simp [VL, V]⟩
    · rename_i hps
      simp only [Option.some.injEq, Prod.mk.injEq] at h
      obtain ⟨rfl, rfl⟩ := h
      refine Res.of_same hm ⟨.tuple #[.bool false], ?_, ?_⟩
      · simp only [execOp, Instr.next, hv, Sem.run_bind, hget, Result.andThen_ok, size_mk, if_neg hps, Sem.run_pure]
      · simp only [V]
        exact ⟨[.bool false], rfl, by simp [VL, V]⟩
  · -- append
    rename_i args argTypes
    split at h
    case h_2 => cases h
    rename_i s x t t' hargs htys
    have ha : args = #[s, x] := by apply Array.ext'; simpa using hargs
    have hb : argTypes = #[t, t'] := by apply Array.ext'; simpa using htys
    subst ha; subst hb
    have fin : Res O I loc w ((do pure (.value (← Builtin.append_ #[t, t'] type #[ρ s, ρ x])) : Sem Next).run P w) d m' →
        Follows P Sp O I loc w ⟨dst, .call ⟨.builtin .append, #[s, x], #[t, t']⟩, type, pos, after, guard⟩ ((execOp ρ ⟨dst, .call ⟨.builtin .append, #[s, x], #[t, t']⟩, type, pos, after, guard⟩).run P w) d m' := by
      intro hr
      refine Follows.of_res hG ?_
      have : (execOp ρ ⟨dst, .call ⟨.builtin .append, #[s, x], #[t, t']⟩, type, pos, after, guard⟩).run P w = (do pure (.value (← Builtin.append_ #[t, t'] type #[ρ s, ρ x])) : Sem Next).run P w := by
        simp [execOp, resolve, invoke, builtin]
      rw [this]; exact hr
    split at h
    · rename_i l hl
      split at h
      case isFalse => cases h
      rename_i hs
      refine fin (run_appendW hm (und_str hs) (.inl rfl) (he s) (fun sz rows' hr => ?_) h)
      split at hr
      · rename_i h1
        subst h1
        simp only [Option.some.injEq] at hr; subst hr
        have := he x
        rw [hl] at this; simp only [V] at this
        rw [this]
        exact src_str l
      · cases hr
    · split at h
      case isFalse => cases h
      rename_i hs
      obtain ⟨e', he'⟩ := Option.isSome_iff_exists.1 hs
      exact fin (run_appendW hm (und_elem he') (.inr ⟨_, rfl⟩) (he s) (fun sz rows' hr => src_of hm (he x) hr) h)
  · -- a call
    split at h
    case h_2 => cases h
    rename_i k cap hf
    split at h
    · rename_i F hs
      split at h
      case h_2 => cases h
      rename_i ds hds
      split at h
      case h_2 => cases h
      rename_i d' bx hF
      simp only [Option.some.injEq, Prod.mk.injEq] at h
      obtain ⟨rfl, rfl⟩ := h
      exact call_ok hSp hm hG he hf hs hF (.inl ⟨by omega, hds⟩)
    · rename_i F hs
      split at h
      case isFalse => cases h
      rename_i hp
      split at h
      case h_2 => cases h
      rename_i d' bx hF
      simp only [Option.some.injEq, Prod.mk.injEq] at h
      obtain ⟨rfl, rfl⟩ := h
      exact call_ok hSp hm hG he hf hs hF (.inr ⟨by omega, hp, rfl⟩)
    · cases h
  · cases h

theorem sem_ok {Sp : Specs} (hSp : SpecsOk P Sp) (hm : MRel O I loc m w) (hG : Glob Sp.glob I w) {e : Operand → D} {ρ : Operand → Value} (he : ∀ x, V I w (e x) loc (ρ x)) {o : Oper} {d : D} {m' : Mem} (h : sem P Sp o.op e m = some (d, m')) :
    Follows P Sp O I loc w o ((execOp ρ o).run P w) d m' := by
  unfold sem at h
  split at h
  · rw [Option.map_eq_some_iff] at h
    obtain ⟨d', hd, h⟩ := h
    simp only [Prod.mk.injEq] at h
    obtain ⟨rfl, rfl⟩ := h
    exact Follows.of_res hG (Res.of_same hm (semN_ok he hd))
  · rw [Option.map_eq_some_iff] at h
    obtain ⟨d', hd, h⟩ := h
    simp only [Prod.mk.injEq] at h
    obtain ⟨rfl, rfl⟩ := h
    exact semR_ok hSp hm hG he hd
  · exact semW_ok hSp hm hG he h
end
end Go.Abs

/- Regions of operations, in their text's order and in every order that a region may draw. No condition. -/
namespace Go.Abs
open Go
set_option linter.unusedSimpArgs false

structure Rel (Sp : Specs) (O I0 : Nat → Prop) (w0 : World) (n : Nat) (I : Nat → Prop) (loc : Nat → Nat → Loc) (σ : S) (a : Act) (w : World) : Prop where
  size : a.tmps.size = n
  defers : a.defers = []
  tmp : ∀ i, V I w (σ.t i) loc (a.tmps.getD i undef)
  mem : MRel O I loc σ.m w
  glob : Glob Sp.glob I w
  fr : Fr O w0 w
  imm0 : ∀ k, I0 k → I k
  imm1 : ∀ k, I k → I0 k ∨ w0.heap.size ≤ k

/-- the slot and the sign of a guard. -/
def gslot (ops : Array Oper) (o : Oper) : Option (Option Nat × Bool) :=
  match o.guard with
  | none => none
  | some (j, want) => some ((ops[j]?).bind (·.dst), want)

def gd (ops : Array Oper) (o : Oper) (t : Nat → D) : Option Bool :=
  match gslot ops o with
  | none => some true
  | some (some k, want) => match t k with
    | .bool b => some (b == want)
    | _ => none
  | some (none, _) => none

def stepO (P : Program) (Sp : Specs) (ops : Array Oper) (o : Oper) (σ : S) : Option S :=
  match gd ops o σ.t with
  | none => none
  | some false => some (σ.put o.dst .dead)
  | some true => match sem P Sp o.op (ev Sp σ.t) σ.m with
    | some (d, m') => some ({ σ with m := m' }.put o.dst d)
    | none => none

def runOps (P : Program) (Sp : Specs) (ops : Array Oper) : List Nat → S → Option S
  | [], σ => some σ
  | i :: r, σ => match ops[i]? with
    | some o => match stepO P Sp ops o σ with
      | some σ' => runOps P Sp ops r σ'
      | none => none
    | none => none

section
variable {P : Program} {Sp : Specs} {O I0 I : Nat → Prop} {w0 w : World} {n : Nat} {loc : Nat → Nat → Loc} {σ : S} {a : Act}

theorem ev_ok (h : Rel Sp O I0 w0 n I loc σ a w) (x : Operand) : V I w (ev Sp σ.t x) loc (a.eval x) := by
  cases x with
  | tmp t => exact h.tmp t
  | const v => exact ofV_V v
  | global g =>
    simp only [ev, Act.eval]
    split
    · rename_i cs hg
      simp only [V]
      exact ⟨g, 0, rfl, (h.glob g cs hg).1, (h.glob g cs hg).2.1⟩
    · trivial
  | func f => simp only [ev, Act.eval, V]; exact ⟨[], rfl, by simp [VL]⟩

theorem Rel.put (h : Rel Sp O I0 w0 n I loc σ a w) {m' : Mem} {w' : World} {I' : Nat → Prop} {loc' : Nat → Nat → Loc} {d : D} {v : Value} (dst : Option Nat) (hd : ∀ k, dst = some k → k < n)
    (hm : MRel O I' loc' m' w') (hG : Glob Sp.glob I' w') (hv : V I' w' d loc' v) (he : Ext I I' w w') (hI : ∀ k, I' k → I k ∨ w.heap.size ≤ k) (hl : LocExt loc loc') (hf : Fr O w w') :
    Rel Sp O I0 w0 n I' loc' ({ σ with m := m' }.put dst d) (a.put dst v) w' := by
  have hold : ∀ i, V I' w' (σ.t i) loc' (a.tmps.getD i undef) := fun i => V_mono he _ loc loc' _ hl (h.tmp i)
  have hi1 : ∀ k, I' k → I0 k ∨ w0.heap.size ≤ k := fun k hk => by
    rcases hI k hk with h1 | h1
    · exact h.imm1 k h1
    · exact .inr (Nat.le_trans h.fr.size h1)
  cases dst with
  | none => exact ⟨h.size, h.defers, hold, hm, hG, h.fr.trans hf, fun k hk => he.imm k (h.imm0 k hk), hi1⟩
  | some k =>
    have hk := hd k rfl
    refine ⟨by simp [Act.put, h.size], h.defers, fun i => ?_, hm, hG, h.fr.trans hf, fun k hk => he.imm k (h.imm0 k hk), hi1⟩
    simp only [S.put, Act.put, upd]
    by_cases e : i = k
    · subst e
      rw [if_pos rfl]
      have : (a.tmps.setIfInBounds i v).getD i undef = v := by
        simp [Array.getD_eq_getD_getElem?, Array.getElem?_setIfInBounds, h.size, hk]
      rw [this]; exact hv
    · rw [if_neg e]
      have : (a.tmps.setIfInBounds k v).getD i undef = a.tmps.getD i undef := by
        simp [Array.getD_eq_getD_getElem?, Array.getElem?_setIfInBounds, Ne.symm e]
      rw [this]; exact hold i

theorem gd_ok (h : Rel Sp O I0 w0 n I loc σ a w) {ops : Array Oper} {o : Oper} {b : Bool} (hg : gd ops o σ.t = some b) : Region.wanted o (yielded ops a.tmps) = b := by
  unfold gd gslot at hg
  unfold Region.wanted
  cases hgd : o.guard with
  | none => simp only [hgd, Option.some.injEq] at hg; subst hg; rfl
  | some p =>
    obtain ⟨j, want⟩ := p
    simp only [hgd] at hg
    cases hk : (ops[j]?).bind (·.dst) with
    | none => simp [hk] at hg
    | some k =>
      simp only [hk] at hg
      cases hd : σ.t k <;> simp only [hd] at hg <;> try cases hg
      rename_i q
      have hv := h.tmp k
      rw [hd] at hv; simp only [V] at hv
      have hy : a.tmps[k]? = some (.bool q) := by
        rw [Array.getD_eq_getD_getElem?] at hv
        cases hz : a.tmps[k]? with
        | none => rw [hz] at hv; simp [undef] at hv
        | some x => rw [hz] at hv; simp at hv; rw [hv]
      simp only [yielded, hk, Option.bind_some, hy]
      cases q <;> cases want <;> rfl

theorem stepO_ok (hSp : SpecsOk P Sp) (h : Rel Sp O I0 w0 n I loc σ a w) {ops : Array Oper} {i : Nat} {o : Oper} (hi : ops[i]? = some o) (hd : ∀ k, o.dst = some k → k < n) {σ' : S} (hs : stepO P Sp ops o σ = some σ')
    {K : Act → World → Prop} {Q : Exit → Act → World → Prop} (hK : ∀ a' w' I' loc', Rel Sp O I0 w0 n I' loc' σ' a' w' → K a' w') : wpOp P ops Q i K a w := by
  unfold stepO at hs
  unfold wpOp
  simp only [hi]
  split at hs
  · cases hs
  · rename_i hg
    rw [gd_ok h hg]
    simp only [Option.some.injEq] at hs; subst hs
    simp only [Bool.false_eq_true, if_false]
    refine hK _ _ I loc ?_
    have := h.put (d := .dead) (v := undef) o.dst hd h.mem h.glob trivial (.refl _ _) (fun _ h => .inl h) (.refl _) (.refl _ _)
    exact this
  · rename_i hg
    rw [gd_ok h hg]
    simp only [if_true]
    split at hs
    case h_2 => cases hs
    rename_i d m' hsem
    simp only [Option.some.injEq] at hs; subst hs
    left
    refine sem_ok hSp h.mem h.glob (ev_ok h) hsem a K Q fun v w' I' loc' h1 h2 h3 h4 h5 h6 h7 => ?_
    exact hK _ _ I' loc' (h.put o.dst hd h1 h2 h3 h4 h5 h6 h7)

theorem runOps_ok (hSp : SpecsOk P Sp) {ops : Array Oper} (hd : ∀ (i : Nat) (o : Oper) (k : Nat), ops[i]? = some o → o.dst = some k → k < n) {Q : Exit → Act → World → Prop} : ∀ (l : List Nat) {σ σ' : S} {I : Nat → Prop} {loc : Nat → Nat → Loc} {a : Act} {w : World},
    Rel Sp O I0 w0 n I loc σ a w → runOps P Sp ops l σ = some σ' → (∀ a' w' I' loc', Rel Sp O I0 w0 n I' loc' σ' a' w' → Q .normal a' w') → wpOps P ops Q l a w
  | [], σ, σ', I, loc, a, w, h, hr, hQ => by
    simp only [runOps, Option.some.injEq] at hr; subst hr
    exact hQ _ _ _ _ h
  | i :: r, σ, σ', I, loc, a, w, h, hr, hQ => by
    simp only [runOps] at hr
    split at hr
    case h_2 => cases hr
    rename_i o ho
    split at hr
    case h_2 => cases hr
    rename_i σ1 hs
    rw [wpOps_cons]
    exact stepO_ok hSp h ho (fun k hk => hd i o k ho hk) hs fun a' w' I' loc' h' => runOps_ok hSp hd r h' hr hQ
end

/-! ### orders -/

def Cls.clash : Cls → Cls → Bool
  | .w, .w => true
  | .w, .r => true
  | .r, .w => true
  | _, _ => false

def indep (P : Program) (Sp : Specs) (ops : Array Oper) (x y : Oper) : Bool := x.apart ops y && !(cls P Sp x.op).clash (cls P Sp y.op)

/-- what must be carried out ahead of an operation: a bit each. -/
def maskE (acc : List Nat) : List Edge → Nat
  | [] => 0
  | e :: r => if Region.binds .any e = true then 2 ^ e.on ||| acc.getD e.on 0 ||| maskE acc r else maskE acc r
def masks : List Oper → List Nat → List Nat
  | [], acc => acc
  | o :: r, acc => masks r (acc ++ [maskE acc o.after.toList])

def pairsAt (P : Program) (Sp : Specs) (ops : Array Oper) (ms : List Nat) (i : Nat) : Bool :=
  match ops[i]? with
    | some oi => (oi.after.all fun e => !Region.binds .any e || decide (e.on < i)) &&
        (List.range i).all fun j => match ops[j]? with
          | some oj => (ms.getD i 0).testBit j || indep P Sp ops oj oi
          | none => false
    | none => false
def pairsOk (P : Program) (Sp : Specs) (ops : Array Oper) : Bool :=
  (List.range ops.size).all (pairsAt P Sp ops (masks ops.toList []))

section
variable {P : Program} {Sp : Specs} {ops : Array Oper}

theorem semN_congr {e e' : Operand → D} {o : Op} (h : ∀ x ∈ o.operands, e x = e' x) : semN P o e = semN P o e' := by
  cases o <;> simp only [Op.operands] at h <;> simp only [semN]
  case build t ps =>
    have : (ps.toList.map fun p => (p.1, e p.2)) = (ps.toList.map fun p => (p.1, e' p.2)) := List.map_congr_left fun p hp => by
      rw [h p.2 (by simp; exact ⟨p.1, by simpa using hp⟩)]
    rw [this]
  case slice t x lo hi mx =>
    cases mx with
    | some _ => rfl
    | none =>
      have h1 : e x = e' x := h x (by simp)
      have h2 : lo.map e = lo.map e' := by cases lo with
        | none => rfl
        | some y => simp only [Option.map_some]; rw [h y (by simp)]
      have h3 : hi.map e = hi.map e' := by cases hi with
        | none => rfl
        | some y => simp only [Option.map_some]; rw [h y (by simp)]
      simp only [h1, h2, h3]
  case makeFunc fn first cap =>
    cases fn <;> simp only []
    have : cap.toList.map e = cap.toList.map e' := List.map_congr_left fun x hx => h x (by simp; right; simpa using hx)
    rw [this]
  case call c =>
    obtain ⟨callee, args, at'⟩ := c
    have ha : args.toList.map e = args.toList.map e' := List.map_congr_left fun x hx => h x (by simp [Call.operands]; right; simpa using hx)
    cases callee with
    | builtin b =>
      cases b <;> simp only [ha]
      case len =>
        split
        · rename_i x t hx ht
          rw [h x (by simp [Call.operands]; rw [← Array.mem_toList_iff, hx]; simp)]
        · rfl
      case cap =>
        split
        · rename_i x t hx ht
          rw [h x (by simp [Call.operands]; rw [← Array.mem_toList_iff, hx]; simp)]
        · rfl
    | value f => rfl
    | invoke r n => rfl
  all_goals first | rfl | (simp at h; simp only [h])

theorem semR_congr {e e' : Operand → D} {m : Mem} {o : Op} (h : ∀ x ∈ o.operands, e x = e' x) : semR P Sp o e m = semR P Sp o e' m := by
  cases o <;> simp only [Op.operands] at h <;> simp only [semR]
  case load t x => simp at h; simp only [h]
  case convert src dst x => simp at h; simp only [h]
  case call c =>
    obtain ⟨callee, args, at'⟩ := c
    cases callee with
    | builtin b => rfl
    | invoke r n => rfl
    | value f =>
      have ha : args.toList.map e = args.toList.map e' := List.map_congr_left fun x hx => h x (by simp [Call.operands]; right; simpa using hx)
      have hf : e f = e' f := h f (by simp [Call.operands])
      simp only [ha, hf]

theorem semW_congr {e e' : Operand → D} {m : Mem} {o : Op} (h : ∀ x ∈ o.operands, e x = e' x) : semW P Sp o e m = semW P Sp o e' m := by
  cases o <;> simp only [Op.operands] at h <;> simp only [semW]
  case box t x => simp at h; simp only [h]
  case store t x y => simp at h; simp only [h]
  case range t x => simp at h; simp only [h]
  case next x q => simp at h; cases q <;> simp only [h]
  case buildSlice t n ps =>
    have : (ps.toList.map fun p => (p.1, e p.2)) = (ps.toList.map fun p => (p.1, e' p.2)) := List.map_congr_left fun p hp => by
      rw [h p.2 (by simp; exact ⟨p.1, by simpa using hp⟩)]
    simp only [this]
  case call c =>
    obtain ⟨callee, args, at'⟩ := c
    have hm : ∀ x ∈ args.toList, e x = e' x := fun x hx => h x (by simp [Call.operands]; right; simpa using hx)
    have ha : args.toList.map e = args.toList.map e' := List.map_congr_left hm
    cases callee with
    | builtin b =>
      cases b <;> simp only []
      split
      · rename_i s x t t' hx ht
        have h1 : e s = e' s := hm s (by rw [hx]; simp)
        have h2 : e x = e' x := hm x (by rw [hx]; simp)
        simp only [h1, h2]
      · rfl
    | invoke r n => rfl
    | value f =>
      have hf : e f = e' f := h f (by simp [Call.operands])
      simp only [ha, hf]

theorem sem_congr {e e' : Operand → D} {m : Mem} {o : Op} (h : ∀ x ∈ o.operands, e x = e' x) : sem P Sp o e m = sem P Sp o e' m := by
  unfold sem
  rw [semN_congr h, semR_congr h, semW_congr h]

theorem ev_put {σ : S} {dst : Option Nat} {d : D} {x : Operand} (h : ∀ k, dst = some k → x ≠ .tmp k) : ev Sp (σ.put dst d).t x = ev Sp σ.t x := by
  cases dst with
  | none => rfl
  | some k =>
    cases x with
    | tmp t =>
      have : t ≠ k := fun e => h k rfl (e ▸ rfl)
      simp [ev, S.put, upd, this]
    | _ => rfl

theorem mem_looks {o : Oper} {x : Nat} (h : Operand.tmp x ∈ o.op.operands) : x ∈ o.looksAt ops := by
  unfold Oper.looksAt
  rw [List.mem_append]
  left
  rw [List.mem_filterMap]
  exact ⟨.tmp x, by simpa using h, rfl⟩

theorem sem_put {σ : S} {dst : Option Nat} {d : D} {o : Oper} {m : Mem} (h : ∀ k, dst = some k → k ∉ o.looksAt ops) : sem P Sp o.op (ev Sp (σ.put dst d).t) m = sem P Sp o.op (ev Sp σ.t) m :=
  sem_congr fun x hx => ev_put fun k hk e => h k hk (mem_looks (by rw [← e]; exact hx))

theorem gd_put {t : Nat → D} {k : Nat} {d : D} {o : Oper} (h : k ∉ o.looksAt ops) : gd ops o (upd t k d) = gd ops o t := by
  unfold gd gslot
  cases hg : o.guard with
  | none => rfl
  | some p =>
    obtain ⟨j, want⟩ := p
    simp only
    cases hd : (ops[j]?).bind (·.dst) with
    | none => rfl
    | some q =>
      have : q ≠ k := fun e => h (by
        unfold Oper.looksAt
        rw [List.mem_append]
        right
        simp [hg, hd, e])
      simp [upd, this]

theorem S.put_comm (σ : S) {x y : Option Nat} (d d' : D) (h : ∀ k, x = some k → y ≠ some k) : (σ.put x d).put y d' = (σ.put y d').put x d := by
  cases x with
  | none => rfl
  | some k =>
    cases y with
    | none => rfl
    | some q =>
      have hne : k ≠ q := fun e => h k rfl (by rw [e])
      simp only [S.put]
      congr 1
      funext j
      simp only [upd]
      by_cases h1 : j = k
      · subst h1; simp [hne]
      · simp [h1]

theorem gd_putS {σ : S} {dst : Option Nat} {d : D} {o : Oper} (h : ∀ k, dst = some k → k ∉ o.looksAt ops) : gd ops o (σ.put dst d).t = gd ops o σ.t := by
  cases dst with
  | none => rfl
  | some k => exact gd_put (h k rfl)

theorem sem_n {o : Op} {e : Operand → D} {m m' : Mem} {d : D} (hc : cls P Sp o = .n) (h : sem P Sp o e m = some (d, m')) : m' = m ∧ ∀ m2, sem P Sp o e m2 = some (d, m2) := by
  unfold sem at *
  rw [hc] at h ⊢
  simp only [Option.map_eq_some_iff] at h ⊢
  obtain ⟨x, hx, hp⟩ := h
  simp only [Prod.mk.injEq] at hp
  exact ⟨hp.2.symm, fun m2 => ⟨x, hx, by rw [hp.1]⟩⟩

theorem sem_r {o : Op} {e : Operand → D} {m m' : Mem} {d : D} (hc : cls P Sp o = .r) (h : sem P Sp o e m = some (d, m')) : m' = m := by
  unfold sem at *
  rw [hc] at h
  simp only [Option.map_eq_some_iff] at h
  obtain ⟨x, hx, hp⟩ := h
  simp only [Prod.mk.injEq] at hp
  exact hp.2.symm

theorem put_m (σ : S) (m : Mem) (dst : Option Nat) (d : D) : ({ σ with m := m } : S).put dst d = { σ.put dst d with m := m } := by cases dst <;> rfl

theorem put_put (t : Nat → D) (m1 m2 m3 : Mem) {x y : Option Nat} (dx dy : D) (h : ∀ k, y = some k → x ≠ some k) :
    ({ t := (({ t := t, m := m1 } : S).put y dy).t, m := m2 } : S).put x dx = ({ t := (({ t := t, m := m3 } : S).put x dx).t, m := m2 } : S).put y dy := by
  cases x with
  | none => cases y <;> rfl
  | some k =>
    cases y with
    | none => rfl
    | some q =>
      have hne : q ≠ k := fun e => h q rfl (by rw [e])
      simp only [S.put]
      congr 1
      funext j
      simp only [upd]
      by_cases h1 : j = k
      · subst h1; simp [Ne.symm hne]
      · simp [h1]

/-- two operations that are apart may be exchanged. -/
theorem step_comm {x y : Oper} {σ σ1 σ2 : S} (hi : indep P Sp ops x y = true) (h1 : stepO P Sp ops x σ = some σ1) (h2 : stepO P Sp ops y σ1 = some σ2) :
    ∃ τ, stepO P Sp ops y σ = some τ ∧ stepO P Sp ops x τ = some σ2 := by
  unfold indep at hi
  simp only [Bool.and_eq_true, Bool.not_eq_true'] at hi
  obtain ⟨hap, hcl⟩ := hi
  obtain ⟨a1, a2, a3⟩ := Oper.apart_spec hap
  have a2' : ∀ k, y.dst = some k → x.dst ≠ some k := fun k hk e => a2 k e hk
  unfold stepO at h1 h2
  -- x
  split at h1
  · cases h1
  · -- x is passed over
    rename_i hgx
    simp only [Option.some.injEq] at h1; subst h1
    rw [gd_putS a1] at h2
    split at h2
    · cases h2
    · rename_i hgy
      simp only [Option.some.injEq] at h2; subst h2
      refine ⟨σ.put y.dst .dead, by simp [stepO, hgy], ?_⟩
      unfold stepO
      rw [gd_putS a3, hgx]
      simp only
      rw [S.put_comm σ _ _ a2']
    · rename_i hgy
      rw [sem_put a1] at h2
      split at h2
      case h_2 => cases h2
      rename_i d m' hs
      simp only [Option.some.injEq] at h2; subst h2
      have hs' : sem P Sp y.op (ev Sp σ.t) σ.m = some (d, m') := by
        rw [← hs]; cases x.dst <;> rfl
      refine ⟨({ σ with m := m' } : S).put y.dst d, by simp [stepO, hgy, hs'], ?_⟩
      unfold stepO
      rw [gd_putS a3]
      simp only [hgx]
      have := put_put σ.t m' m' σ.m D.dead d a2'
      have hm2 : (({ σ with m := m' } : S).put y.dst d).m = m' := by cases y.dst <;> rfl
      have e : (({ σ with m := m' } : S).put y.dst d) = ({ t := (({ σ with m := m' } : S).put y.dst d).t, m := m' } : S) := by cases y.dst <;> rfl
      rw [e]
      exact congrArg some this
  · -- x runs
    rename_i hgx
    split at h1
    case h_2 => cases h1
    rename_i dx mx hsx
    simp only [Option.some.injEq] at h1; subst h1
    rw [gd_putS a1] at h2
    simp only at h2
    split at h2
    · cases h2
    · rename_i hgy
      simp only [Option.some.injEq] at h2; subst h2
      refine ⟨σ.put y.dst .dead, by simp [stepO, hgy], ?_⟩
      unfold stepO
      rw [gd_putS a3, hgx]
      simp only
      rw [sem_put a3]
      have : (σ.put y.dst D.dead).m = σ.m := by cases y.dst <;> rfl
      rw [this, hsx]
      simp only [Option.some.injEq]
      have h3 := put_put σ.t σ.m mx mx dx D.dead a2'
      have e : (({ σ with m := mx } : S).put x.dst dx) = ({ t := (({ σ with m := mx } : S).put x.dst dx).t, m := mx } : S) := by cases x.dst <;> rfl
      rw [e]
      exact h3
    · rename_i hgy
      rw [sem_put a1] at h2
      have hmx : (({ σ with m := mx } : S).put x.dst dx).m = mx := by cases x.dst <;> rfl
      rw [hmx] at h2
      split at h2
      case h_2 => cases h2
      rename_i dy my hsy
      simp only [Option.some.injEq] at h2; subst h2
      have key : ∃ m1, sem P Sp y.op (ev Sp σ.t) σ.m = some (dy, m1) ∧ sem P Sp x.op (ev Sp σ.t) m1 = some (dx, my) := by
        cases hcx : cls P Sp x.op with
        | n =>
          obtain ⟨e1, e2⟩ := sem_n hcx hsx
          subst e1
          exact ⟨my, hsy, e2 my⟩
        | r =>
          have e1 := sem_r hcx hsx
          subst e1
          cases hcy : cls P Sp y.op with
          | n => obtain ⟨e3, _⟩ := sem_n hcy hsy; subst e3; exact ⟨_, hsy, hsx⟩
          | r => have e3 := sem_r hcy hsy; subst e3; exact ⟨_, hsy, hsx⟩
          | w => rw [hcx, hcy] at hcl; simp [Cls.clash] at hcl
        | w =>
          cases hcy : cls P Sp y.op with
          | n => obtain ⟨e3, e4⟩ := sem_n hcy hsy; subst e3; exact ⟨σ.m, e4 _, hsx⟩
          | r => rw [hcx, hcy] at hcl; simp [Cls.clash] at hcl
          | w => rw [hcx, hcy] at hcl; simp [Cls.clash] at hcl
      obtain ⟨m1, k1, k2⟩ := key
      refine ⟨({ σ with m := m1 } : S).put y.dst dy, by simp [stepO, hgy, k1], ?_⟩
      unfold stepO
      rw [gd_putS a3]
      simp only [hgx]
      rw [sem_put a3]
      have hm1 : (({ σ with m := m1 } : S).put y.dst dy).m = m1 := by cases y.dst <;> rfl
      simp only [hm1, k2, Option.some.injEq]
      exact put_put σ.t m1 my mx dx dy a2'

theorem runOps_front {i : Nat} {oi : Oper} (hoi : ops[i]? = some oi) : ∀ (l r : List Nat) (σ σ' : S), (∀ j ∈ l, ∃ oj, ops[j]? = some oj ∧ indep P Sp ops oj oi = true) → runOps P Sp ops (l ++ i :: r) σ = some σ' → runOps P Sp ops (i :: (l ++ r)) σ = some σ'
  | [], r, σ, σ', _, h => h
  | j :: l, r, σ, σ', hl, h => by
    obtain ⟨oj, hoj, hin⟩ := hl j (by simp)
    simp only [List.cons_append, runOps, hoj] at h
    split at h
    case h_2 => cases h
    rename_i σ1 h1
    have h2 := runOps_front hoi l r σ1 σ' (fun k hk => hl k (by simp [hk])) h
    simp only [runOps, hoi] at h2
    split at h2
    case h_2 => cases h2
    rename_i σ2 h3
    obtain ⟨τ, h4, h5⟩ := step_comm hin h1 h3
    simp only [List.cons_append, runOps, hoi, h4, hoj, h5]
    exact h2

/-- what is still to come, in the text's order. -/
def left (n : Nat) (listed : Array Bool) : List Nat := (List.range n).filter fun i => !listed.getD i true

theorem mem_left {n i : Nat} {listed : Array Bool} : i ∈ left n listed ↔ i < n ∧ listed.getD i true = false := by
  simp [left, List.mem_filter]

/-- a set of operations that holds, with each, all that goes ahead of it. -/
def Closed (ops : Array Oper) (listed : Array Bool) : Prop := ∀ (k : Nat) (o : Oper), ops[k]? = some o → listed.getD k false = true → ∀ e ∈ o.after, Region.binds .any e = true → listed.getD e.on false = true

theorem maskE_spec {acc : List Nat} {j : Nat} : ∀ {es : List Edge}, (maskE acc es).testBit j = true → ∃ e ∈ es, Region.binds .any e = true ∧ (e.on = j ∨ (acc.getD e.on 0).testBit j = true)
  | [], h => by simp [maskE] at h
  | e :: r, h => by
    simp only [maskE] at h
    split at h
    · rename_i hb
      simp only [Nat.testBit_or, Bool.or_eq_true] at h
      rcases h with (h | h) | h
      · rw [Nat.testBit_two_pow] at h
        exact ⟨e, by simp, hb, .inl (by simpa using h)⟩
      · exact ⟨e, by simp, hb, .inr h⟩
      · obtain ⟨e', h1, h2⟩ := maskE_spec h
        exact ⟨e', by simp [h1], h2⟩
    · obtain ⟨e', h1, h2⟩ := maskE_spec h
      exact ⟨e', by simp [h1], h2⟩

def GoodMask (ops : Array Oper) (i m : Nat) : Prop := ∀ listed, Closed ops listed → ∀ o, ops[i]? = some o → (∀ e ∈ o.after, Region.binds .any e = true → listed.getD e.on false = true) → ∀ j, m.testBit j = true → listed.getD j false = true

theorem masks_good : ∀ (l : List Oper) (acc : List Nat), (∀ i, i < l.length → ops[acc.length + i]? = l[i]?) → (∀ i, i < acc.length → GoodMask ops i (acc.getD i 0)) → (∀ i, acc.length ≤ i → acc.getD i 0 = 0) →
    ∀ i, GoodMask ops i ((masks l acc).getD i 0)
  | [], acc, _, hg, h0, i => by
    simp only [masks]
    by_cases hi : i < acc.length
    · exact hg i hi
    · rw [h0 i (by omega)]; intro _ _ _ _ _ j hj; simp at hj
  | o :: r, acc, ho, hg, h0, i => by
    simp only [masks]
    refine masks_good r _ (fun k hk => ?_) (fun k hk => ?_) (fun k hk => ?_) i
    · have := ho (k + 1) (by simpa using hk)
      simp only [List.length_append, List.length_singleton, List.getElem?_cons_succ] at this ⊢
      rw [← this]; congr 1; omega
    · by_cases e : k < acc.length
      · have : (acc ++ [maskE acc o.after.toList]).getD k 0 = acc.getD k 0 := by simp [List.getD, List.getElem?_append_left e]
        rw [this]; exact hg k e
      · have hk' : k = acc.length := by simp at hk; omega
        subst hk'
        have hm : (acc ++ [maskE acc o.after.toList]).getD acc.length 0 = maskE acc o.after.toList := by simp [List.getD]
        rw [hm]
        have hoi := ho 0 (by simp)
        simp only [Nat.add_zero, List.getElem?_cons_zero] at hoi
        intro listed hcl o' ho' hd j hj
        rw [hoi] at ho'; cases ho'
        obtain ⟨e, he, hb, hor⟩ := maskE_spec hj
        have hel := hd e (by simpa using he) hb
        rcases hor with rfl | hor
        · exact hel
        · by_cases hlt : e.on < acc.length
          · cases hoe : ops[e.on]? with
            | none =>
              have h3 := hg e.on hlt
              exfalso
              have : e.on < ops.size := by
                have : acc.length < ops.size := by
                  rcases Nat.lt_or_ge acc.length ops.size with h | h
                  · exact h
                  · rw [Array.getElem?_eq_none h] at hoi; cases hoi
                omega
              simp [this] at hoe
            | some oe => exact hg e.on hlt listed hcl oe hoe (hcl e.on oe hoe hel) j hor
          · rw [h0 e.on (by omega)] at hor; simp at hor
    · simp only [List.length_append, List.length_singleton] at hk
      simp only [List.getD]
      rw [List.getElem?_eq_none (by simp; omega)]
      rfl

theorem pairs_spec (hp : pairsOk P Sp ops = true) {i : Nat} {oi : Oper} (hi : ops[i]? = some oi) :
    (∀ e ∈ oi.after, Region.binds .any e = true → e.on < i) ∧ ∀ j, j < i → ∃ oj, ops[j]? = some oj ∧ (((masks ops.toList []).getD i 0).testBit j = true ∨ indep P Sp ops oj oi = true) := by
  have hlt : i < ops.size := by
    rcases Nat.lt_or_ge i ops.size with h | h
    · exact h
    · rw [Array.getElem?_eq_none h] at hi; cases hi
  unfold pairsOk at hp
  have := List.all_eq_true.1 hp i (by simpa using hlt)
  simp only [pairsAt, hi, Bool.and_eq_true] at this
  obtain ⟨h1, h2⟩ := this
  refine ⟨fun e he hb => ?_, fun j hj => ?_⟩
  · have := Array.all_eq_true'.1 h1 e he
    simpa [hb] using this
  · have := List.all_eq_true.1 h2 j (by simpa using hj)
    split at this
    · rename_i oj hoj
      exact ⟨oj, hoj, by simpa using this⟩
    · cases this

theorem left_split {n i : Nat} {listed : Array Bool} (_hsz : listed.size = n) (hi : i ∈ left n listed) :
    ∃ l r, left n listed = l ++ i :: r ∧ (∀ j ∈ l, j < i ∧ listed.getD j true = false) ∧ left n (listed.setIfInBounds i true) = l ++ r := by
  obtain ⟨hlt, hf⟩ := mem_left.1 hi
  have hr : List.range n = List.range i ++ i :: (List.range (n - i - 1)).map (i + 1 + ·) := by
    have e : n = i + (1 + (n - i - 1)) := by omega
    conv => lhs; rw [e, List.range_add, List.range_add]
    simp [List.range_succ, Nat.add_assoc]
  refine ⟨(List.range i).filter (fun k => !listed.getD k true), ((List.range (n - i - 1)).map (i + 1 + ·)).filter (fun k => !listed.getD k true), ?_, ?_, ?_⟩
  · unfold left
    rw [hr, List.filter_append, List.filter_cons, if_pos (by simp [hf])]
  · intro j hj
    simp only [List.mem_filter, List.mem_range] at hj
    exact ⟨hj.1, by simpa using hj.2⟩
  · unfold left
    rw [hr, List.filter_append, List.filter_cons]
    have hi' : (listed.setIfInBounds i true).getD i true = true := by
      simp [Array.getD_eq_getD_getElem?, Array.getElem?_setIfInBounds]
      split <;> rfl
    rw [if_neg (by simp [hi'])]
    have hne : ∀ k, k ≠ i → (listed.setIfInBounds i true).getD k true = listed.getD k true := fun k hk => by
      simp [Array.getD_eq_getD_getElem?, Array.getElem?_setIfInBounds, Ne.symm hk]
    congr 1
    · apply List.filter_congr
      intro k hk
      simp only [List.mem_range] at hk
      rw [hne k (by omega)]
    · apply List.filter_congr
      intro k hk
      simp only [List.mem_map, List.mem_range] at hk
      obtain ⟨q, _, rfl⟩ := hk
      rw [hne _ (by omega)]

theorem run_go (hp : pairsOk P Sp ops = true) : ∀ (fuel t : Nat) (listed : Array Bool) (σ σ' : S), listed.size = ops.size → (left ops.size listed).length ≤ fuel →
    (∀ (k : Nat) (o : Oper), ops[k]? = some o → listed.getD k false = true → ∀ e ∈ o.after, Region.binds .any e = true → listed.getD e.on false = true) →
    runOps P Sp ops (left ops.size listed) σ = some σ' → runOps P Sp ops (Region.linearise.go .any ops fuel t listed []) σ = some σ'
  | 0, t, listed, σ, σ', hsz, hf, hcl, h => by
    have : left ops.size listed = [] := List.eq_nil_of_length_eq_zero (by omega)
    rw [this] at h
    simpa [Region.linearise.go] using h
  | fuel + 1, t, listed, σ, σ', hsz, hf, hcl, h => by
    simp only [Region.linearise.go]
    change runOps P Sp ops (match (Region.ready .any ops listed)[t % (Region.ready .any ops listed).length]? with
      | some i => Region.linearise.go .any ops fuel (t / (Region.ready .any ops listed).length) (listed.setIfInBounds i true) [i]
      | none => [].reverse) σ = some σ'
    have hready : ∀ i, i ∈ Region.ready .any ops listed ↔ i ∈ left ops.size listed ∧ ∃ o, ops[i]? = some o ∧ ∀ e ∈ o.after, Region.binds .any e = true → listed.getD e.on false = true := by
      intro i
      unfold Region.ready
      simp only [List.mem_filter, List.mem_range, Bool.and_eq_true, Bool.not_eq_true', mem_left]
      constructor
      · rintro ⟨h1, h2, h3⟩
        refine ⟨⟨h1, h2⟩, ops[i], by simp [h1], fun e he hb => ?_⟩
        simp only [Array.getElem?_eq_getElem h1, Option.map_some, Option.getD_some, Array.all_eq_true'] at h3
        have := h3 e he
        simpa [hb] using this
      · rintro ⟨⟨h1, h2⟩, o, ho, h3⟩
        refine ⟨h1, h2, ?_⟩
        simp only [ho, Option.map_some, Option.getD_some, Array.all_eq_true']
        intro e he
        cases hb : Region.binds .any e with
        | false => simp
        | true => simp [h3 e he hb]
    cases hi : (Region.ready .any ops listed)[t % (Region.ready .any ops listed).length]? with
    | none =>
      have hnil : Region.ready .any ops listed = [] := by
        cases hr : Region.ready .any ops listed with
        | nil => rfl
        | cons x xs =>
          rw [hr] at hi
          have hlt : t % (x :: xs).length < (x :: xs).length := Nat.mod_lt _ (by simp)
          rw [List.getElem?_eq_getElem hlt] at hi
          cases hi
      have hl : left ops.size listed = [] := by
        cases hr : left ops.size listed with
        | nil => rfl
        | cons x xs =>
          exfalso
          have hx : x ∈ left ops.size listed := by rw [hr]; simp
          obtain ⟨hxl, hxf⟩ := mem_left.1 hx
          have hox : ops[x]? = some ops[x] := by simp [hxl]
          have : x ∈ Region.ready .any ops listed := by
            rw [hready]
            refine ⟨hx, ops[x], hox, fun e he hb => ?_⟩
            have hlt := (pairs_spec hp hox).1 e he hb
            -- e.on < x and x is the least that is left
            rcases hle : listed.getD e.on true with _ | _
            · have hme : e.on ∈ left ops.size listed := mem_left.2 ⟨by omega, hle⟩
              obtain ⟨l, r, e1, e2, _⟩ := left_split hsz hme
              have : x = (l ++ e.on :: r).head (by simp) := by
                have := congrArg List.head? (hr.symm.trans e1)
                simp at this
                cases l with
                | nil => simpa using this
                | cons y ys => simpa using this
              cases l with
              | nil => simp at this; omega
              | cons y ys =>
                simp at this
                have := (e2 y (by simp)).1
                omega
            · have : e.on < listed.size := by rw [hsz]; omega
              simp [Array.getD_eq_getD_getElem?, this] at hle ⊢
              exact hle
          rw [hnil] at this
          cases this
      rw [hl] at h
      simpa using h
    | some i =>
      simp only []
      have hir := (hready i).1 (List.mem_of_getElem? hi)
      obtain ⟨hil, oi, hoi, hdep⟩ := hir
      obtain ⟨l, r, e1, e2, e3⟩ := left_split hsz hil
      rw [linearise_go_acc, List.reverse_singleton, List.singleton_append]
      rw [e1] at h
      have hfr := runOps_front hoi l r σ σ' (fun j hj => by
        obtain ⟨hji, hjf⟩ := e2 j hj
        obtain ⟨oj, hoj, hor⟩ := (pairs_spec hp hoi).2 j hji
        refine ⟨oj, hoj, hor.resolve_left fun hre => ?_⟩
        have := masks_good ops.toList [] (fun k _ => by simp) (fun k hk => by simp at hk) (fun k _ => by simp) i listed hcl oi hoi hdep j hre
        have hjl : j < listed.size := by
          rw [hsz]
          rcases Nat.lt_or_ge j ops.size with h | h
          · exact h
          · rw [Array.getElem?_eq_none h] at hoj; cases hoj
        simp [Array.getD_eq_getD_getElem?, hjl] at this hjf
        rw [this] at hjf; cases hjf) h
      simp only [runOps, hoi] at hfr ⊢
      split at hfr
      case h_2 => cases hfr
      rename_i σ1 h1
      have hlen : (left ops.size listed).length = (l ++ r).length + 1 := by rw [e1]; simp; omega
      refine run_go hp fuel _ _ σ1 σ' (by simpa using hsz) (by rw [e3]; omega) (fun k o hk hlk e he hb => ?_) (by rw [e3]; exact hfr)
      have hset : ∀ q, listed.getD q false = true → (listed.setIfInBounds i true).getD q false = true := fun q hq => by
        simp only [Array.getD_eq_getD_getElem?, Array.getElem?_setIfInBounds] at hq ⊢
        by_cases hqi : i = q
        · subst hqi
          rw [if_pos rfl]
          by_cases hqs : i < listed.size
          · simp [hqs]
          · simp [hqs] at hq
        · rw [if_neg hqi]; exact hq
      by_cases hki : k = i
      · subst hki
        rw [hoi] at hk; cases hk
        exact hset _ (hdep e he hb)
      · refine hset _ (hcl k o hk ?_ e he hb)
        simpa [Array.getD_eq_getD_getElem?, Array.getElem?_setIfInBounds, Ne.symm hki] using hlk

/-- every order that the region may draw comes to what the text's order comes to. -/
theorem run_schedule (hmix : P.follows .mixedOrders = true) (hp : pairsOk P Sp ops = true) (t : Nat) {σ σ' : S} (h : runOps P Sp ops (List.range ops.size) σ = some σ') :
    runOps P Sp ops (Region.schedule (P.follows .mixedOrders) ops t) σ = some σ' := by
  simp only [Region.schedule, hmix, Bool.true_or, if_true, Region.linearise]
  have hl : left ops.size (Array.replicate ops.size false) = List.range ops.size := by
    unfold left
    rw [List.filter_eq_self]
    intro i hi
    simp only [List.mem_range] at hi
    simp [Array.getD_eq_getD_getElem?, hi]
  refine run_go hp ops.size t _ σ σ' (by simp) (by rw [hl]; simp) (fun k o hk hlk => ?_) (by rw [hl]; exact h)
  simp [Array.getD_eq_getD_getElem?] at hlk
  by_cases hk2 : k < ops.size
  · simp [hk2] at hlk
  · simp [hk2] at hlk
end
end Go.Abs

/- Statements, branches, loops and whole functions: what holds of the abstract run holds of the call. No condition. -/
namespace Go.Abs
open Go
set_option linter.unusedSimpArgs false

inductive Ex where
  | normal
  | exit (id : Nat)
  | ret

def stepK (P : Program) (Sp : Specs) (o : Oper) (σ : S) (K : S → Prop) : Prop :=
  match sem P Sp o.op (ev Sp σ.t) σ.m with
  | some (d, m') => K ({ σ with m := m' }.put o.dst d)
  | none => False

/-- a region, operation by operation. -/
def runK (P : Program) (Sp : Specs) (ops : Array Oper) : List Oper → S → (S → Prop) → Prop
  | [], σ, K => K σ
  | o :: r, σ, K => match gslot ops o with
    | none => stepK P Sp o σ fun σ' => runK P Sp ops r σ' K
    | some (some k, want) => match σ.t k with
      | .bool b => if b = want then stepK P Sp o { σ with t := upd σ.t k (.bool want) } (fun σ' => runK P Sp ops r σ' K)
          else runK P Sp ops r (({ σ with t := upd σ.t k (.bool (!want)) } : S).put o.dst .dead) K
      | _ => False
    | some (none, _) => False

/-- σ' says less than σ. -/
def Weak (Sp : Specs) (σ σ' : S) : Prop := ∀ (O I0 : Nat → Prop) (w0 : World) (n : Nat) (I : Nat → Prop) (loc : Nat → Nat → Loc) (a : Act) (w : World), Rel Sp O I0 w0 n I loc σ a w → ∃ I' loc', Rel Sp O I0 w0 n I' loc' σ' a w

def loopA (Sp : Specs) (B : S → (Ex → S → Prop) → Prop) (Q : Ex → S → Prop) : Nat → S → Prop
  | 0, _ => False
  | n + 1, σ => ∃ σ', Weak Sp σ σ' ∧ B σ' fun e τ => match e with
    | .normal => loopA Sp B Q n τ
    | e => Q e τ

def awp (P : Program) (Sp : Specs) : Code → S → (Ex → S → Prop) → Prop
  | .skip, σ, Q => Q .normal σ
  | .region _ ops _, σ, Q => runK P Sp ops ops.toList σ (Q .normal)
  | .seq a b, σ, Q => awp P Sp a σ fun e τ => match e with
    | .normal => awp P Sp b τ Q
    | e => Q e τ
  | .cond c a b, σ, Q => match ev Sp σ.t c with
    | .bool q => if q then awp P Sp a σ Q else awp P Sp b σ Q
    | _ => False
  | .block id b, σ, Q => awp P Sp b σ fun e τ => match e with
    | .exit j => if j = id then Q .normal τ else Q (.exit j) τ
    | e => Q e τ
  | .loop b, σ, Q => ∃ n, loopA Sp (awp P Sp b) Q n σ
  | .exit id, σ, Q => Q (.exit id) σ
  | .ret, σ, Q => Q .ret σ
  | .label _, σ, Q => Q .normal σ
  | _, _, _ => False

def codeOk (P : Program) (Sp : Specs) (n : Nat) : Code → Bool
  | .region _ ops draw => (ops.all fun o => match o.dst with | some k => decide (k < n) | none => true) && (!draw || pairsOk P Sp ops)
  | .seq a b => codeOk P Sp n a && codeOk P Sp n b
  | .cond _ a b => codeOk P Sp n a && codeOk P Sp n b
  | .block _ b => codeOk P Sp n b
  | .loop b => codeOk P Sp n b
  | _ => true

section
variable {P : Program} {Sp : Specs} {O I0 : Nat → Prop} {w0 : World} {n : Nat}

theorem runK_ok {ops : Array Oper} : ∀ (l : List Oper) (is : List Nat) (σ : S) (K : S → Prop), l.map some = is.map (ops[·]?) → runK P Sp ops l σ K → ∃ σ', runOps P Sp ops is σ = some σ' ∧ K σ'
  | [], is, σ, K, hl, h => by
    have : is = [] := by simpa using hl.symm
    subst this
    exact ⟨σ, rfl, h⟩
  | o :: r, is, σ, K, hl, h => by
    cases is with
    | nil => simp at hl
    | cons i is =>
      simp only [List.map_cons, List.cons.injEq] at hl
      obtain ⟨ho, hl⟩ := hl
      have updSame : ∀ (t : Nat → D) k, upd t k (t k) = t := fun t k => by funext j; simp only [upd]; split <;> simp_all
      have step : ∀ σ, gd ops o σ.t = some true → stepK P Sp o σ (fun σ' => runK P Sp ops r σ' K) → ∃ σ', runOps P Sp ops (i :: is) σ = some σ' ∧ K σ' := by
        intro σ hg h
        unfold stepK at h
        split at h
        · rename_i d m' hs
          obtain ⟨σ', h1, h2⟩ := runK_ok r is _ K hl h
          refine ⟨σ', ?_, h2⟩
          simp only [runOps, ← ho, stepO, hg, hs]
          exact h1
        · exact h.elim
      simp only [runK] at h
      split at h
      · rename_i hg
        exact step σ (by simp [gd, hg]) h
      · rename_i k want hg
        split at h
        · rename_i b hb
          split at h
          · rename_i hbw
            subst hbw
            rw [← hb, updSame] at h
            exact step σ (by simp [gd, hg, hb]) h
          · rename_i hbw
            have hb' : b = !want := by cases b <;> cases want <;> simp_all
            rw [← hb', ← hb, updSame] at h
            obtain ⟨σ', h1, h2⟩ := runK_ok r is _ K hl h
            refine ⟨σ', ?_, h2⟩
            have hgd : gd ops o σ.t = some false := by
              simp only [gd, hg, hb, Option.some.injEq]
              simpa using hbw
            simp only [runOps, ← ho, stepO, hgd]
            exact h1
        · exact h.elim
      · exact h.elim

/-- what the concrete statement owes, out of what the abstract one owes. -/
structure Owes (Sp : Specs) (O I0 : Nat → Prop) (w0 : World) (n : Nat) (Q : Ex → S → Prop) (QC : Exit → Act → World → Prop) : Prop where
  normal : ∀ σ I loc a w, Rel Sp O I0 w0 n I loc σ a w → Q .normal σ → QC .normal a w
  exit : ∀ id σ I loc a w, Rel Sp O I0 w0 n I loc σ a w → Q (.exit id) σ → QC (.exit id) a w
  ret : ∀ σ I loc a w, Rel Sp O I0 w0 n I loc σ a w → Q .ret σ → QC .ret a w

theorem range_map (ops : Array Oper) : ops.toList.map some = (List.range ops.size).map (ops[·]?) := by
  apply List.ext_getElem
  · simp
  · intro i h1 h2
    simp at h1
    simp [h1]

theorem Rel.drew {σ : S} {I : Nat → Prop} {loc : Nat → Nat → Loc} {a : Act} {w : World} (h : Rel Sp O I0 w0 n I loc σ a w) : Rel Sp O I0 w0 n I loc σ a { w with drawn := w.drawn + 1 } := by
  have he : Ext I I w { w with drawn := w.drawn + 1 } := Ext.of_heap rfl
  exact ⟨h.size, h.defers, fun i => V_mono he _ loc loc _ (.refl _) (h.tmp i), MRel.of_heap (w := w) rfl h.mem, Glob_mono h.glob he, h.fr.trans ⟨rfl, rfl, rfl, Nat.le_refl _, fun _ _ _ => rfl⟩, h.imm0, h.imm1⟩

theorem awp_ok (hmix : P.follows .mixedOrders = true) (hSp : SpecsOk P Sp) : ∀ (c : Code) {σ : S} {I : Nat → Prop} {loc : Nat → Nat → Loc} {a : Act} {w : World} {Q : Ex → S → Prop} {QC : Exit → Act → World → Prop},
    codeOk P Sp n c = true → Rel Sp O I0 w0 n I loc σ a w → awp P Sp c σ Q → Owes Sp O I0 w0 n Q QC → c.wp P QC a w
  | .skip, σ, I, loc, a, w, Q, QC, hok, h, hq, hQ => wp_skip (hQ.normal _ _ _ _ _ h hq)
  | .label l, σ, I, loc, a, w, Q, QC, hok, h, hq, hQ => wp_label (hQ.normal _ _ _ _ _ h hq)
  | .exit id, σ, I, loc, a, w, Q, QC, hok, h, hq, hQ => wp_exit (hQ.exit _ _ _ _ _ _ h hq)
  | .ret, σ, I, loc, a, w, Q, QC, hok, h, hq, hQ => wp_ret (hQ.ret _ _ _ _ _ h hq)
  | .region id ops draw, σ, I, loc, a, w, Q, QC, hok, h, hq, hQ => by
    simp only [awp] at hq
    simp only [codeOk, Bool.and_eq_true] at hok
    obtain ⟨hok1, hok2⟩ := hok
    have hd : ∀ (i : Nat) (o : Oper) (k : Nat), ops[i]? = some o → o.dst = some k → k < n := fun i o k hi hk => by
      have := Array.all_eq_true'.1 hok1 o (Array.mem_of_getElem? hi)
      simpa [hk] using this
    obtain ⟨σ', h1, h2⟩ := runK_ok ops.toList (List.range ops.size) σ _ (range_map ops) hq
    cases draw with
    | false => exact wp_region (runOps_ok hSp hd _ h h1 fun a' w' I' loc' h' => hQ.normal _ _ _ _ _ h' h2)
    | true =>
      refine wp_region_draw fun t => ?_
      exact runOps_ok hSp hd _ h.drew (run_schedule hmix (by simpa using hok2) t h1) fun a' w' I' loc' h' => hQ.normal _ _ _ _ _ h' h2
  | .seq x y, σ, I, loc, a, w, Q, QC, hok, h, hq, hQ => by
    simp only [awp] at hq
    simp only [codeOk, Bool.and_eq_true] at hok
    refine wp_seq (awp_ok hmix hSp x hok.1 h hq ⟨fun σ I loc a w hr hq => ?_, fun id σ I loc a w hr hq => ?_, fun σ I loc a w hr hq => ?_⟩)
    · exact awp_ok hmix hSp y hok.2 hr hq hQ
    · exact hQ.exit _ _ _ _ _ _ hr hq
    · exact hQ.ret _ _ _ _ _ hr hq
  | .cond c x y, σ, I, loc, a, w, Q, QC, hok, h, hq, hQ => by
    simp only [awp] at hq
    simp only [codeOk, Bool.and_eq_true] at hok
    have hv := ev_ok h c
    split at hq
    · rename_i q hc
      rw [hc] at hv; simp only [V] at hv
      refine wp_cond hv ?_
      cases q
      · exact awp_ok hmix hSp y hok.2 h (by simpa using hq) hQ
      · exact awp_ok hmix hSp x hok.1 h (by simpa using hq) hQ
    · exact hq.elim
  | .block id b, σ, I, loc, a, w, Q, QC, hok, h, hq, hQ => by
    simp only [awp] at hq
    simp only [codeOk] at hok
    refine wp_block (awp_ok hmix hSp b hok h hq ⟨fun σ I loc a w hr hq => ?_, fun j σ I loc a w hr hq => ?_, fun σ I loc a w hr hq => ?_⟩)
    · exact hQ.normal _ _ _ _ _ hr hq
    · simp only [Exit.inBlock]
      simp only at hq
      split
      · rename_i hj; rw [if_pos hj] at hq; exact hQ.normal _ _ _ _ _ hr hq
      · rename_i hj; rw [if_neg hj] at hq; exact hQ.exit _ _ _ _ _ _ hr hq
    · exact hQ.ret _ _ _ _ _ hr hq
  | .loop b, σ, I, loc, a, w, Q, QC, hok, h, hq, hQ => by
    simp only [awp] at hq
    simp only [codeOk] at hok
    obtain ⟨k, hk⟩ := hq
    refine wp_loop_rounds k ?_
    induction k generalizing σ I loc a w with
    | zero => exact hk.elim
    | succ k ih =>
      obtain ⟨σ', hw, hk⟩ := hk
      obtain ⟨I', loc', h'⟩ := hw _ _ _ _ _ _ _ _ h
      rw [rounds_succ]
      refine awp_ok hmix hSp b hok h' hk ⟨fun σ I loc a w hr hq => ?_, fun id σ I loc a w hr hq => ?_, fun σ I loc a w hr hq => ?_⟩
      · first | exact ih _ _ _ _ _ hr hq | exact ih _ _ _ _ _ hq hr
      · exact hQ.exit _ _ _ _ _ _ hr hq
      · exact hQ.ret _ _ _ _ _ hr hq
  | .rangeFunc _ _ _ _, σ, I, loc, a, w, Q, QC, hok, h, hq, hQ => by simp [awp] at hq
  | .scope _, σ, I, loc, a, w, Q, QC, hok, h, hq, hQ => by simp [awp] at hq
  | .goto _, σ, I, loc, a, w, Q, QC, hok, h, hq, hQ => by simp [awp] at hq
  | .refuse _, σ, I, loc, a, w, Q, QC, hok, h, hq, hQ => by simp [awp] at hq

theorem runK_mono {ops : Array Oper} : ∀ (l : List Oper) (σ : S) (K K' : S → Prop), (∀ τ, K τ → K' τ) → runK P Sp ops l σ K → runK P Sp ops l σ K'
  | [], σ, K, K', hK, h => hK σ h
  | o :: r, σ, K, K', hK, h => by
    have st : ∀ σ, stepK P Sp o σ (fun σ' => runK P Sp ops r σ' K) → stepK P Sp o σ (fun σ' => runK P Sp ops r σ' K') := by
      intro σ h
      unfold stepK at *
      split
      · rename_i d m' hs
        simp only [hs] at h
        exact runK_mono r _ K K' hK h
      · rename_i hs; simp [hs] at h
    simp only [runK] at h ⊢
    split
    · rename_i hg; simp only [hg] at h; exact st σ h
    · rename_i k want hg
      simp only [hg] at h
      split
      · rename_i b hb
        simp only [hb] at h
        split
        · rename_i hbw; rw [if_pos hbw] at h; exact st _ h
        · rename_i hbw; rw [if_neg hbw] at h; exact runK_mono r _ K K' hK h
      · rename_i hb
        exfalso
        cases hd : σ.t k <;> simp only [hd] at h
        exact hb _ hd
    · rename_i hg; simp only [hg] at h

theorem awp_mono : ∀ (c : Code) (σ : S) (Q Q' : Ex → S → Prop), (∀ e τ, Q e τ → Q' e τ) → awp P Sp c σ Q → awp P Sp c σ Q'
  | .skip, σ, Q, Q', hQ, h => hQ _ _ h
  | .label _, σ, Q, Q', hQ, h => hQ _ _ h
  | .exit _, σ, Q, Q', hQ, h => hQ _ _ h
  | .ret, σ, Q, Q', hQ, h => hQ _ _ h
  | .region _ ops _, σ, Q, Q', hQ, h => runK_mono _ _ _ _ (hQ .normal) h
  | .seq a b, σ, Q, Q', hQ, h => by
    simp only [awp] at h ⊢
    refine awp_mono a _ _ _ (fun e τ h => ?_) h
    cases e with
    | normal => exact awp_mono b _ _ _ hQ h
    | exit id => exact hQ _ _ h
    | ret => exact hQ _ _ h
  | .cond c a b, σ, Q, Q', hQ, h => by
    simp only [awp] at h ⊢
    split
    · rename_i q hc
      simp only [hc] at h
      split
      · rename_i hq; rw [if_pos hq] at h; exact awp_mono a _ _ _ hQ h
      · rename_i hq; rw [if_neg hq] at h; exact awp_mono b _ _ _ hQ h
    · rename_i hc
      exfalso
      cases hd : ev Sp σ.t c <;> simp only [hd] at h
      exact hc _ hd
  | .block id b, σ, Q, Q', hQ, h => by
    simp only [awp] at h ⊢
    refine awp_mono b _ _ _ (fun e τ h => ?_) h
    cases e with
    | normal => exact hQ _ _ h
    | exit j =>
      simp only at h ⊢
      split
      · rename_i hj; rw [if_pos hj] at h; exact hQ _ _ h
      · rename_i hj; rw [if_neg hj] at h; exact hQ _ _ h
    | ret => exact hQ _ _ h
  | .loop b, σ, Q, Q', hQ, h => by
    simp only [awp] at h ⊢
    obtain ⟨n, h⟩ := h
    refine ⟨n, ?_⟩
    induction n generalizing σ with
    | zero => exact h
    | succ n ih =>
      obtain ⟨σ', h1, h2⟩ := h
      refine ⟨σ', h1, awp_mono b _ _ _ (fun e τ h => ?_) h2⟩
      cases e with
      | normal => exact ih _ h
      | exit id => exact hQ _ _ h
      | ret => exact hQ _ _ h
  | .rangeFunc _ _ _ _, σ, Q, Q', hQ, h => by simp [awp] at h
  | .scope _, σ, Q, Q', hQ, h => by simp [awp] at h
  | .goto _, σ, Q, Q', hQ, h => by simp [awp] at h
  | .refuse _, σ, Q, Q', hQ, h => by simp [awp] at h

/-- a loop by what holds at its head: 'H x' the state, 'μ x' what falls. -/
theorem awp_loop {α : Type} (H : α → S) (μ : α → Nat) {b : Code} {σ : S} {Q : Ex → S → Prop} (x0 : α) (h0 : Weak Sp σ (H x0))
    (hr : ∀ x, awp P Sp b (H x) fun e τ => match e with
      | .normal => ∃ y, Weak Sp τ (H y) ∧ μ y < μ x
      | e => Q e τ) : awp P Sp (.loop b) σ Q := by
  have key : ∀ k x τ, μ x < k → Weak Sp τ (H x) → loopA Sp (awp P Sp b) Q k τ := by
    intro k
    induction k with
    | zero => intro x τ h; omega
    | succ k ih =>
      intro x τ hk hw
      refine ⟨H x, hw, awp_mono b _ _ _ (fun e τ' h => ?_) (hr x)⟩
      cases e with
      | normal =>
        obtain ⟨y, hy, hlt⟩ := h
        exact ih y τ' (by omega) hy
      | exit id => exact h
      | ret => exact h
  exact ⟨μ x0 + 1, key _ x0 σ (by omega) h0⟩

theorem runK_one {ops : Array Oper} (l : List Oper) (is : List Nat) (hl : l.map some = is.map (ops[·]?)) (σ : S) (K : S → Prop) (h : runK P Sp ops l σ K) : ∃ τ, K τ ∧ ∀ K', K' τ → runK P Sp ops l σ K' := by
  induction l generalizing σ is with
  | nil => exact ⟨σ, h, fun K' h => h⟩
  | cons o r ih =>
    cases is with
    | nil => simp at hl
    | cons i is =>
      simp only [List.map_cons, List.cons.injEq] at hl
      have st : ∀ σ, stepK P Sp o σ (fun σ' => runK P Sp ops r σ' K) → ∃ τ, K τ ∧ ∀ K', K' τ → stepK P Sp o σ (fun σ' => runK P Sp ops r σ' K') := by
        intro σ h
        unfold stepK at h
        split at h
        · rename_i d m' hs
          obtain ⟨τ, h1, h2⟩ := ih is hl.2 _ h
          refine ⟨τ, h1, fun K' hK => ?_⟩
          unfold stepK; simp only [hs]; exact h2 K' hK
        · exact h.elim
      simp only [runK] at h ⊢
      split at h
      · exact st σ h
      · rename_i k want hg
        split at h
        · rename_i b hb
          split at h
          · rename_i hbw
            obtain ⟨τ, h1, h2⟩ := st _ h
            exact ⟨τ, h1, fun K' hK => by simp only [hb, if_pos hbw]; exact h2 K' hK⟩
          · rename_i hbw
            obtain ⟨τ, h1, h2⟩ := ih is hl.2 _ h
            exact ⟨τ, h1, fun K' hK => by simp only [hb, if_neg hbw]; exact h2 K' hK⟩
        · exact h.elim
      · exact h.elim

/-- an abstract run has one outcome. -/
theorem awp_one : ∀ (c : Code) (σ : S) (Q : Ex → S → Prop), awp P Sp c σ Q → ∃ e τ, Q e τ ∧ ∀ Q', Q' e τ → awp P Sp c σ Q'
  | .skip, σ, Q, h => ⟨.normal, σ, h, fun _ h => h⟩
  | .label _, σ, Q, h => ⟨.normal, σ, h, fun _ h => h⟩
  | .exit id, σ, Q, h => ⟨.exit id, σ, h, fun _ h => h⟩
  | .ret, σ, Q, h => ⟨.ret, σ, h, fun _ h => h⟩
  | .region _ ops _, σ, Q, h => by
    simp only [awp] at h ⊢
    obtain ⟨τ, h1, h2⟩ := runK_one ops.toList (List.range ops.size) (range_map ops) σ _ h
    exact ⟨.normal, τ, h1, fun Q' hQ => h2 _ hQ⟩
  | .seq a b, σ, Q, h => by
    simp only [awp] at h ⊢
    obtain ⟨e, τ, h1, h2⟩ := awp_one a σ _ h
    cases e with
    | normal =>
      obtain ⟨e', τ', h3, h4⟩ := awp_one b τ Q h1
      exact ⟨e', τ', h3, fun Q' hQ => h2 _ (h4 Q' hQ)⟩
    | exit id => exact ⟨.exit id, τ, h1, fun Q' hQ => h2 _ hQ⟩
    | ret => exact ⟨.ret, τ, h1, fun Q' hQ => h2 _ hQ⟩
  | .cond c a b, σ, Q, h => by
    simp only [awp] at h ⊢
    split at h
    · rename_i q hc
      split at h
      · rename_i hq
        obtain ⟨e, τ, h1, h2⟩ := awp_one a σ Q h
        exact ⟨e, τ, h1, fun Q' hQ => by rw [if_pos hq]; exact h2 Q' hQ⟩
      · rename_i hq
        obtain ⟨e, τ, h1, h2⟩ := awp_one b σ Q h
        exact ⟨e, τ, h1, fun Q' hQ => by rw [if_neg hq]; exact h2 Q' hQ⟩
    · exact h.elim
  | .block id b, σ, Q, h => by
    simp only [awp] at h ⊢
    obtain ⟨e, τ, h1, h2⟩ := awp_one b σ _ h
    cases e with
    | normal => exact ⟨.normal, τ, h1, fun Q' hQ => h2 _ hQ⟩
    | exit j =>
      simp only at h1
      split at h1
      · rename_i hj; exact ⟨.normal, τ, h1, fun Q' hQ => h2 _ (by simp only [if_pos hj]; exact hQ)⟩
      · rename_i hj; exact ⟨.exit j, τ, h1, fun Q' hQ => h2 _ (by simp only [if_neg hj]; exact hQ)⟩
    | ret => exact ⟨.ret, τ, h1, fun Q' hQ => h2 _ hQ⟩
  | .loop b, σ, Q, h => by
    simp only [awp] at h ⊢
    obtain ⟨n, h⟩ := h
    induction n generalizing σ with
    | zero => exact h.elim
    | succ n ih =>
      obtain ⟨σ', hw, h⟩ := h
      obtain ⟨e, τ, h1, h2⟩ := awp_one b σ' _ h
      cases e with
      | normal =>
        obtain ⟨e', τ', h3, h4⟩ := ih τ h1
        refine ⟨e', τ', h3, fun Q' hQ => ?_⟩
        obtain ⟨k, hk⟩ := h4 Q' hQ
        exact ⟨k + 1, σ', hw, h2 _ hk⟩
      | exit id => exact ⟨.exit id, τ, h1, fun Q' hQ => ⟨1, σ', hw, h2 _ hQ⟩⟩
      | ret => exact ⟨.ret, τ, h1, fun Q' hQ => ⟨1, σ', hw, h2 _ hQ⟩⟩
  | .rangeFunc _ _ _ _, σ, Q, h => by simp [awp] at h
  | .scope _, σ, Q, h => by simp [awp] at h
  | .goto _, σ, Q, h => by simp [awp] at h
  | .refuse _, σ, Q, h => by simp [awp] at h

theorem Weak.refl (σ : S) : Weak Sp σ σ := fun _ _ _ _ I loc _ _ h => ⟨I, loc, h⟩

/-- one round of a loop. -/
theorem awp_unroll {b : Code} {σ : S} {Q : Ex → S → Prop} (h : awp P Sp b σ fun e τ => match e with
    | .normal => awp P Sp (.loop b) τ Q
    | e => Q e τ) : awp P Sp (.loop b) σ Q := by
  obtain ⟨e, τ, h1, h2⟩ := awp_one b σ _ h
  cases e with
  | normal =>
    obtain ⟨n, hn⟩ := h1
    exact ⟨n + 1, σ, .refl _, h2 _ hn⟩
  | exit id => exact ⟨1, σ, .refl _, h2 _ h1⟩
  | ret => exact ⟨1, σ, .refl _, h2 _ h1⟩

/-- the results of a function in a state. -/
def resD (P : Program) (σ : S) : List ResultVar → Option (List D)
  | [] => some []
  | .tmp t :: r => (resD P σ r).map (σ.t t :: ·)
  | .cell a t :: r => match loadR P σ.m t (σ.t a) with
    | some d => (resD P σ r).map (d :: ·)
    | none => none
def resOf (P : Program) (fn : Func) (σ : S) : Option D :=
  match resD P σ fn.results.toList with
  | some [d] => some d
  | some l => some (.tup l)
  | none => none

/-- how one result is read. -/
def rdv (a : Act) : ResultVar → Sem Value
  | .tmp t => pure (a.tmps.getD t undef)
  | .cell x t => do loadVar t (← asAddr (a.tmps.getD x undef))

theorem resD_ok {σ : S} {I : Nat → Prop} {loc : Nat → Nat → Loc} {a : Act} {w : World} (h : Rel Sp O I0 w0 n I loc σ a w) : ∀ (rs : List ResultVar) (ds : List D), resD P σ rs = some ds →
    ∃ vs : List Value, (rs.mapM (rdv a)).run P w = .ok vs w ∧ VL I w ds loc vs
  | [], ds, hr => by
    simp only [resD, Option.some.injEq] at hr; subst hr
    exact ⟨[], rfl, by simp [VL]⟩
  | .tmp t :: r, ds, hr => by
    simp only [resD, Option.map_eq_some_iff] at hr
    obtain ⟨ds', hr, rfl⟩ := hr
    obtain ⟨vs, h1, h2⟩ := resD_ok h r ds' hr
    refine ⟨a.tmps.getD t undef :: vs, ?_, by simp only [VL]; exact ⟨_, _, rfl, h.tmp t, h2⟩⟩
    simp only [List.mapM_cons, Sem.run_bind, Sem.run_pure, Result.andThen_ok, h1, rdv]
  | .cell x t :: r, ds, hr => by
    simp only [resD] at hr
    split at hr
    case h_2 => cases hr
    rename_i d hd
    simp only [Option.map_eq_some_iff] at hr
    obtain ⟨ds', hr, rfl⟩ := hr
    obtain ⟨vs, h1, h2⟩ := resD_ok h r ds' hr
    obtain ⟨z, hz, hv⟩ := run_loadR (P := P) h.mem (h.tmp x) hd
    have hl : (do loadVar t (← asAddr (a.tmps.getD x undef)) : Sem Value).run P w = .ok z w := by
      have : ∃ ad, a.tmps.getD x undef = .pointer (some ad) := by
        have hx := h.tmp x
        unfold loadR at hd
        split at hd
        · rename_i b off hb
          rw [hb] at hx; simp only [V] at hx
          cases hl : loc b 0 <;> simp only [hl] at hx
          · exact hx
          · exact ⟨_, hx⟩
        · rename_i b g s i off hb
          rw [hb] at hx; simp only [V] at hx
          cases hl : loc b g <;> simp only [hl] at hx
          · exact hx
          · exact ⟨_, hx⟩
        · rename_i cs hb
          rw [hb] at hx; simp only [V] at hx
          obtain ⟨b, o, hx, _⟩ := hx
          exact ⟨_, hx⟩
        · cases hd
      obtain ⟨ad, had⟩ := this
      rw [had] at hz ⊢
      simpa [Instr.loadAt, Instr.sureAddr, asAddr] using hz
    refine ⟨z :: vs, ?_, by simp only [VL]; exact ⟨_, _, rfl, hv, h2⟩⟩
    have hl' : (rdv a (.cell x t)).run P w = .ok z w := hl
    simp only [List.mapM_cons, Sem.run_bind, Sem.run_pure, Result.andThen_ok, h1, hl']

theorem resOf_ok {σ : S} {I : Nat → Prop} {loc : Nat → Nat → Loc} {a : Act} {w : World} (h : Rel Sp O I0 w0 n I loc σ a w) {fn : Func} {d : D} (hr : resOf P fn σ = some d) :
    ∃ v, (results fn a.tmps).run P w = .ok v w ∧ V I w d loc v := by
  unfold resOf at hr
  have key : ∀ ds, resD P σ fn.results.toList = some ds → ∃ vs : List Value, (results fn a.tmps).run P w = .ok (if h : vs.toArray.size = 1 then vs.toArray[0] else .tuple vs.toArray) w ∧ VL I w ds loc vs := by
    intro ds hds
    obtain ⟨vs, h1, h2⟩ := resD_ok h _ _ hds
    refine ⟨vs, ?_, h2⟩
    have e : results fn a.tmps = (do
        let vs ← fn.results.mapM (rdv a)
        pure (if h : vs.size = 1 then vs[0] else .tuple vs) : Sem Value) := by
      unfold results
      congr 1
    rw [e, Array.mapM_eq_mapM_toList]
    simp only [Sem.run_bind, Sem.run_map, Sem.run_pure, h1, Result.andThen_ok]
  split at hr
  · rename_i x hds
    simp only [Option.some.injEq] at hr; subst hr
    obtain ⟨vs, h1, h2⟩ := key _ hds
    simp only [VL] at h2
    obtain ⟨v, vr, rfl, h3, rfl⟩ := h2
    exact ⟨v, by simpa using h1, h3⟩
  · rename_i l hne hds
    simp only [Option.some.injEq] at hr; subst hr
    obtain ⟨vs, h1, h2⟩ := key _ hds
    have hlen := VL_length h2
    have : ¬ vs.toArray.size = 1 := by
      simp only [List.size_toArray, hlen]
      intro e
      cases l with
      | nil => simp at e
      | cons x r =>
        cases r with
        | nil => exact hne x rfl
        | cons y r => simp at e
    rw [dif_neg this] at h1
    exact ⟨_, h1, by simp only [V]; exact ⟨vs, rfl, h2⟩⟩
  · cases hr

def t0 (ds : List D) : Nat → D := fun i => ds.getD i .dead
def S0 (ds : List D) : S := ⟨t0 ds, ⟨0, fun _ => .gone⟩⟩

mutual
theorem V_flat {I I' : Nat → Prop} {w w' : World} {loc loc' : Nat → Nat → Loc} : ∀ (d : D) (v : Value), d.flat = true → V I w d loc v → V I' w' d loc' v
  | .bool _, _, _, h => by simpa only [V] using h
  | .int _ _, _, _, h => by simpa only [V] using h
  | .str _, _, _, h => by simpa only [V] using h
  | .lit _, _, _, h => by simpa only [V] using h
  | .nilp, _, _, h => by simpa only [V] using h
  | .nils, _, _, h => by simpa only [V] using h
  | .agg cs, v, hf, h => by
    simp only [V] at h ⊢
    obtain ⟨vs, rfl, h1, h2⟩ := h
    exact ⟨vs, rfl, h1, VL_flat cs vs (by simpa [D.flat] using hf) h2⟩
  | .tup cs, v, hf, h => by
    simp only [V] at h ⊢
    obtain ⟨vs, rfl, h2⟩ := h
    exact ⟨vs, rfl, VL_flat cs vs (by simpa [D.flat] using hf) h2⟩
  | .dead, _, hf, _ => by simp [D.flat] at hf
  | .rp _, _, hf, _ => by simp [D.flat] at hf
  | .rs _ _, _, hf, _ => by simp [D.flat] at hf
  | .bp _ _, _, hf, _ => by simp [D.flat] at hf
  | .mp _, _, hf, _ => by simp [D.flat] at hf
  | .ap _ _ _ _ _, _, hf, _ => by simp [D.flat] at hf
  | .bs _ _ _ _ _, _, hf, _ => by simp [D.flat] at hf
  | .fn _ _, _, hf, _ => by simp [D.flat] at hf
theorem VL_flat {I I' : Nat → Prop} {w w' : World} {loc loc' : Nat → Nat → Loc} : ∀ (ds : List D) (vs : List Value), flatL ds = true → VL I w ds loc vs → VL I' w' ds loc' vs
  | [], _, _, h => by simpa only [VL] using h
  | d :: r, vs, hf, h => by
    simp only [VL] at h ⊢
    simp only [flatL, Bool.and_eq_true] at hf
    obtain ⟨v, vr, rfl, h1, h2⟩ := h
    exact ⟨v, vr, rfl, V_flat d v hf.1 h1, VL_flat r vr hf.2 h2⟩
end

theorem rel0 {I : Nat → Prop} {w : World} {args : List Value} {ds : List D} (hI : ∀ k, I k → k < w.heap.size) (hG : Glob Sp.glob I w) (hv : VL I w ds free args) (hn : ds.length ≤ n) :
    Rel Sp (fun k => w.heap.size ≤ k) I w n I free (S0 ds) { tmps := args.toArray ++ Array.replicate (n - args.toArray.size) undef, defers := [] } w := by
  have hlen := VL_length hv
  refine ⟨by simp; omega, rfl, fun i => ?_, ⟨fun b hb => absurd hb (Nat.not_lt_zero _), fun _ _ _ => rfl, fun b _ _ hb => absurd hb (Nat.not_lt_zero _), fun b _ _ _ _ hb => absurd hb (Nat.not_lt_zero _), hI, fun _ h => h⟩, hG, .refl _ _, fun _ h => h, fun _ h => .inl h⟩
  simp only [S0, t0]
  by_cases h : i < ds.length
  · obtain ⟨v, h1, h2⟩ := VL_get (i := i) (d := ds[i]) hv (by simp [h])
    have e1 : ds.getD i .dead = ds[i] := by simp [List.getD, h]
    have e2 : (args.toArray ++ Array.replicate (n - args.toArray.size) undef).getD i undef = v := by
      have hi : i < args.length := by omega
      rw [List.getElem?_eq_getElem hi] at h1
      simp only [Option.some.injEq] at h1
      simp [Array.getD_eq_getD_getElem?, Array.getElem?_append, hi, h1]
    rw [e1, e2]; exact h2
  · have e1 : ds.getD i .dead = .dead := by simp [List.getD, h]
    rw [e1]; trivial

theorem Fr_none {w w' : World} (h : Fr (fun k => w.heap.size ≤ k) w w') : Fr none' w w' := ⟨h.os, h.tape, h.output, h.size, fun b hb _ => h.block b hb (by omega)⟩

/-- A FUNCTION WHOSE ANSWER HOLDS NO MEMORY: its contract, out of its abstract run. -/
theorem sound_flat {f : FuncId} {fn : Func} {c : Code} {F : List D → Option (D × List Box)} (hmix : P.follows .mixedOrders = true) (hSp : SpecsOk P Sp) (hf : P.funcs[f]? = some fn) (hb : fn.body = some c) (hname : (fn.name == "runtime.NumGoroutine") = false)
    (hok : codeOk P Sp fn.ntmps c = true)
    (h : ∀ ds r bx, F ds = some (r, bx) → bx = [] ∧ r.flat = true ∧ ds.length ≤ fn.ntmps ∧ awp P Sp c (S0 ds) fun e σ => match e with
      | .exit _ => False
      | _ => resOf P fn σ = some r) : Sound P Sp.glob f 0 F := by
  refine ⟨⟨fn, hf, by simp [hb], hname⟩, fun I w args ds r bx hI hG hv hF => ?_⟩
  obtain ⟨rfl, hflat, hlen, hawp⟩ := h ds r bx hF
  refine calls_of_wp hf hb (awp_ok hmix hSp c hok (rel0 hI hG hv hlen) hawp ?_)
  have fin : ∀ σ I' loc a w', Rel Sp (fun k => w.heap.size ≤ k) I w fn.ntmps I' loc σ a w' → resOf P fn σ = some r →
      a.defers = [] ∧ ∃ v, (results fn a.tmps).run P w' = .ok v w' ∧ ∃ v' I'' loc', Ending.returned v = .returned v' ∧ Fr none' w w' ∧ (if 0 ≤ 1 then I'' = none' else (∀ k, I k → I'' k) ∧ ∀ k, I'' k → I k ∨ w.heap.size ≤ k) ∧ V I'' w' r loc' v' ∧ MRel (fun k => w.heap.size ≤ k) I'' loc' ⟨([] : List Box).length, bxOf []⟩ w' := by
    intro σ I' loc a w' hr hres
    obtain ⟨v, h1, h2⟩ := resOf_ok hr hres
    refine ⟨hr.defers, v, h1, v, none', free, rfl, Fr_none hr.fr, by simp, V_flat r v hflat h2, ?_⟩
    exact ⟨fun b hb => absurd hb (Nat.not_lt_zero _), fun _ _ _ => rfl, fun b _ _ hb => absurd hb (Nat.not_lt_zero _), fun b _ _ _ _ hb => absurd hb (Nat.not_lt_zero _), fun _ h => h.elim, fun k hk => Nat.le_trans hr.fr.size hk⟩
  exact ⟨fun σ I' loc a w' hr hq => fin σ I' loc a w' hr hq, fun id σ I' loc a w' hr hq => hq.elim, fun σ I' loc a w' hr hq => fin σ I' loc a w' hr hq⟩
end
end Go.Abs

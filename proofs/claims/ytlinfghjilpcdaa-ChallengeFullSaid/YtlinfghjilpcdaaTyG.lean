/- Values without boxes: what they read as once the boxes in them are no longer written. No condition. -/
import Derived.Test.YtlinfghjilpcdaaTyF
namespace Go.Abs
open Go
set_option linter.unusedSimpArgs false

section
variable {T : Nat → Type} {C : Cd T} {O I : Nat → Prop} {w : World} {loc : Nat → Nat → Loc} {L : Nat → Nat → Nat} {m : MT T}

/-! ### the memory's boxes -/
theorem get_none {b : Nat} (h : m.length ≤ b) : m.get b = .gone := by
  simp [MT.get, List.getD_eq_getElem?_getD, List.getElem?_eq_none h]
theorem get_put {b b' : Nat} {x : BoxT T} (h : b < m.length) : (m.put b x).get b' = if b' = b then x else m.get b' := by
  simp only [MT.get, MT.put, List.getD_eq_getElem?_getD, List.getElem?_set]
  by_cases e : b' = b
  · subst e; simp [h]
  · rw [if_neg (fun q => e q.symm), if_neg e]
theorem len_put {b : Nat} {x : BoxT T} : (m.put b x).length = m.length := by simp [MT.put]
theorem get_add {x : BoxT T} {b : Nat} : MT.get (m ++ [x]) b = if b = m.length then x else m.get b := by
  simp only [MT.get, List.getD_eq_getElem?_getD]
  by_cases e : b = m.length
  · subst e; simp
  · rw [if_neg e]
    rcases Nat.lt_or_ge b m.length with h | h
    · rw [List.getElem?_append_left h]
    · rw [List.getElem?_eq_none h, List.getElem?_eq_none (by simp; omega)]
theorem denM_put {b : Nat} {x : BoxT T} (h : b < m.length) : denM C (m.put b x) = (denM C m).set b (denB C x) := by
  unfold denM Mem.set
  simp only [len_put, Mem.mk.injEq, true_and]
  funext b'
  simp only [upd, get_put h]
  split <;> rfl
theorem denM_add {x : BoxT T} : denM C (m ++ [x]) = (denM C m).add (denB C x) := by
  unfold denM Mem.add
  simp only [List.length_append, List.length_cons, List.length_nil, Mem.mk.injEq, Nat.zero_add, true_and]
  funext b'
  simp only [upd, get_add]
  split <;> rfl
theorem WfM_put {b : Nat} {x : BoxT T} (h : b < m.length) (hm : WfM L m) (hx : WfB L b x) : WfM L (m.put b x) := fun b' => by
  rw [get_put h]
  split
  · rename_i e; subst e; exact hx
  · exact hm b'
theorem WfM_add {x : BoxT T} (hm : WfM L m) (hx : WfB L m.length x) : WfM L (m ++ [x]) := fun b' => by
  rw [get_add]
  split
  · rename_i e; subst e; exact hx
  · exact hm b'

/-- where something lies, there is a box. -/
theorem lt_len (h : MRel O I loc (denM C m) w) {b g : Nat} (hl : loc b g ≠ .free) : b < m.length := lt_nb (m := denM C m) h hl
theorem box_at (h : MRel O I loc (denM C m) w) {b : Nat} (hb : b < m.length) : RelB I w loc b (denB C (m.get b)) := h.box b hb

theorem boxL_some {b g c : Nat} {l : List (T c)} (h : boxL m b g c = some l) : m.get b = .arr g c l ∨ m.get b = .frz g c l := by
  unfold boxL at h
  split at h
  · rename_i g' c' l' hb
    split at h
    · rename_i hg
      have hg := Nat.eq_of_beq_eq_true hg
      split at h
      · rename_i hc _
        subst hc; subst hg
        simp only [Option.some.injEq] at h; subst h
        exact .inl hb
      · cases h
    · cases h
  · rename_i g' c' l' hb
    split at h
    · rename_i hg
      have hg := Nat.eq_of_beq_eq_true hg
      split at h
      · rename_i hc _
        subst hc; subst hg
        simp only [Option.some.injEq] at h; subst h
        exact .inr hb
      · cases h
    · cases h
  · cases h
theorem boxA_some {b g c : Nat} {l : List (T c)} (h : boxA m b g c = some l) : m.get b = .arr g c l := by
  unfold boxA at h
  split at h
  · rename_i g' c' l' hb
    split at h
    · rename_i hg
      have hg := Nat.eq_of_beq_eq_true hg
      split at h
      · rename_i hc _
        subst hc; subst hg
        simp only [Option.some.injEq] at h; subst h
        exact hb
      · cases h
    · cases h
  · cases h
/-- an array's box, and where its elements lie. -/
theorem boxL_at (hm : MRel O I loc (denM C m) w) (hw : WfM L m) {b g c : Nat} {l : List (T c)} (h : boxL m b g c = some l) (hb : b < m.length) :
    L b g = l.length ∧ ((loc b g = .nil ∧ l = []) ∨ ∃ k, loc b g = .blk k ∧ VR I w (C.sz c) (l.map (C.encD c)) k 0) := by
  have hr : (denM C m).rows b g (C.sz c) = some (l.map (C.encD c)) := by
    rcases boxL_some h with e | e <;> simp [Mem.rows, denM, e, denB]
  refine ⟨?_, ?_⟩
  · have := hw b
    rcases boxL_some h with e | e <;> (rw [e] at this; exact this)
  · rcases rows_at (m := denM C m) hm hb hr with ⟨h1, h2⟩ | h1
    · exact .inl ⟨h1, by simpa using h2⟩
    · exact .inr h1

/-! ### boxes that are no longer written -/
theorem MRel.freeze {M : Mem} {b g s : Nat} {rows : List (List D)} (hm : MRel O I loc M w) (hb : b < M.nb) (hx : M.bx b = .arr g s rows) :
    MRel O (fun k => I k ∨ loc b g = .blk k) loc (M.set b (.frz g s rows)) w := by
  have ho : (M.bx b).owned = true := by rw [hx]; rfl
  have he : Ext I (fun k => I k ∨ loc b g = .blk k) w w := imm_all' (fun _ h => .inl h)
  have hbx : ∀ b', (M.set b (.frz g s rows)).bx b' = if b' = b then .frz g s rows else M.bx b' := fun b' => rfl
  refine ⟨fun b' hb' => ?_, hm.free, fun b' g' k hb' ho' hk => ?_, fun b1 b2 g1 g2 k h1 h2 o1 o2 k1 k2 => ?_, fun k hk => ?_, hm.up⟩
  · rw [hbx]
    by_cases e : b' = b
    · subst e
      rw [if_pos rfl]
      have hr := hm.box b' hb
      rw [hx] at hr
      simp only [RelB] at hr ⊢
      refine ⟨hr.1, ?_⟩
      rcases hr.2 with h | ⟨k, c, el, fz, h1, h2, h3, h4, h5⟩
      · exact .inl h
      · exact .inr ⟨k, h1, .inr h1, VR_mono he s rows k 0 rfl h5⟩
    · rw [if_neg e]
      exact RelB_mono he (.refl _) (fun _ => rfl) (fun _ _ _ _ => rfl) (hm.box b' hb')
  · rw [hbx] at ho'
    by_cases e : b' = b
    · rw [if_pos e] at ho'; cases ho'
    · rw [if_neg e] at ho'
      have := hm.own b' g' k hb' ho' hk
      refine ⟨this.1, fun h => ?_, this.2.2⟩
      rcases h with h | h
      · exact this.2.1 h
      · exact e (hm.inj b' b g' g k hb' hb ho' ho hk h)
  · rw [hbx] at o1 o2
    by_cases e1 : b1 = b
    · rw [if_pos e1] at o1; cases o1
    · by_cases e2 : b2 = b
      · rw [if_pos e2] at o2; cases o2
      · rw [if_neg e1] at o1; rw [if_neg e2] at o2
        exact hm.inj b1 b2 g1 g2 k h1 h2 o1 o2 k1 k2
  · rcases hk with h | h
    · exact hm.imm k h
    · exact (hm.own b g k hb ho h).2.2
where imm_all' {J : Nat → Prop} {w : World} (hI : ∀ k, I k → J k) : Ext I J w w := ⟨hI, fun _ _ => rfl, fun _ => Nat.le_refl _⟩

theorem imm_all2 {J : Nat → Prop} (hI : ∀ k, I k → J k) : Ext I J w w := ⟨hI, fun _ _ => rfl, fun _ => Nat.le_refl _⟩

/-- it may be frozen: what a box holds stays. -/
theorem fzAll_ok : ∀ (ids : List Nat) {m : MT T} {I : Nat → Prop}, MRel O I loc (denM C m) w → WfM L m → ∃ I', MRel O I' loc (denM C (fzAll m ids)) w ∧ WfM L (fzAll m ids) ∧ (∀ k, I k → I' k) ∧ (∀ k, I' k → I k ∨ ∃ b g c l, b < m.length ∧ m.get b = .arr g c l ∧ loc b g = .blk k) ∧
    (fzAll m ids).length = m.length ∧ (∀ b, (fzAll m ids).get b = m.get b ∨ ∃ g c l, m.get b = .arr g c l ∧ (fzAll m ids).get b = .frz g c l) ∧
    ∀ b ∈ ids, ∀ g c l, b < m.length → (m.get b = .arr g c l ∨ m.get b = .frz g c l) → ∀ k, loc b g = .blk k → I' k
  | [], m, I, hm, hw => ⟨I, hm, hw, fun _ h => h, fun _ h => .inl h, rfl, fun _ => .inl rfl, fun b hb => by simp at hb⟩
  | b :: r, m, I, hm, hw => by
    show ∃ I', MRel O I' loc (denM C (fzAll (fz1 m b) r)) w ∧ _
    have key : ∃ I1, MRel O I1 loc (denM C (fz1 m b)) w ∧ WfM L (fz1 m b) ∧ (∀ k, I k → I1 k) ∧ (∀ k, I1 k → I k ∨ ∃ b g c l, b < m.length ∧ m.get b = .arr g c l ∧ loc b g = .blk k) ∧ (fz1 m b).length = m.length ∧
        (∀ b', (fz1 m b).get b' = m.get b' ∨ ∃ g c l, m.get b' = .arr g c l ∧ (fz1 m b).get b' = .frz g c l) ∧ ∀ g c l, b < m.length → (m.get b = .arr g c l ∨ m.get b = .frz g c l) → ∀ k, loc b g = .blk k → I1 k := by
      cases hb : m.get b with
      | arr g c l =>
        have hlt : b < m.length := by
          rcases Nat.lt_or_ge b m.length with h | h
          · exact h
          · rw [get_none h] at hb; cases hb
        have e : fz1 m b = m.put b (.frz g c l) := by simp only [fz1, hb]
        rw [e]
        have hf := hm.freeze (b := b) (g := g) (s := C.sz c) (rows := l.map (C.encD c)) hlt (by simp [denM, hb, denB])
        have e2 : denM C (m.put b (.frz g c l)) = (denM C m).set b (.frz g (C.sz c) (l.map (C.encD c))) := by rw [denM_put hlt]; rfl
        rw [e2]
        have hwb := hw b
        rw [hb] at hwb
        refine ⟨_, hf, WfM_put hlt hw hwb, fun _ h => .inl h, fun k h => ?_, len_put, fun b' => ?_, fun g' c' l' _ h k hk => ?_⟩
        · rcases h with h | h
          · exact .inl h
          · exact .inr ⟨b, g, c, l, hlt, hb, h⟩
        · rw [get_put hlt]
          by_cases q : b' = b
          · subst q; rw [if_pos rfl]; exact .inr ⟨g, c, l, hb, rfl⟩
          · rw [if_neg q]; exact .inl rfl
        · rcases h with h | h
          · cases h; exact .inr hk
          · cases h
      | frz g c l =>
        have e : fz1 m b = m := by simp only [fz1, hb]
        rw [e]
        refine ⟨I, hm, hw, fun _ h => h, fun _ h => .inl h, rfl, fun _ => .inl rfl, fun g' c' l' hlt h k hk => ?_⟩
        rcases h with h | h
        · cases h
        · cases h
          have := box_at hm hlt
          rw [hb] at this
          simp only [denB, RelB] at this
          rcases this.2 with ⟨h1, _⟩ | ⟨k', h1, h2, _⟩
          · rw [hk] at h1; cases h1
          · rw [hk] at h1; cases h1; exact h2
      | _ =>
        have e : fz1 m b = m := by simp only [fz1, hb]
        rw [e]
        exact ⟨I, hm, hw, fun _ h => h, fun _ h => .inl h, rfl, fun _ => .inl rfl, fun g' c' l' hlt h k hk => by rcases h with h | h <;> cases h⟩
    obtain ⟨I1, h1, h2, h3, h4, h5, h6, h7⟩ := key
    obtain ⟨I2, g1, g2, g3, g4, g5, g6, g7⟩ := fzAll_ok r h1 h2
    refine ⟨I2, g1, g2, fun k h => g3 k (h3 k h), fun k h => ?_, g5.trans h5, fun b' => ?_, fun b' hb' g c l hlt h k hk => ?_⟩
    · rcases g4 k h with h | ⟨b2, g2', c2, l2, q1, q2, q3⟩
      · exact h4 k h
      · refine .inr ⟨b2, g2', c2, l2, by rw [← h5]; exact q1, ?_, q3⟩
        rcases h6 b2 with p | ⟨g3', c3, l3, p1, p2⟩
        · rw [← p]; exact q2
        · rw [p2] at q2; cases q2
    · rcases h6 b' with q | ⟨g, c, l, q1, q2⟩
      · rcases g6 b' with p | ⟨g, c, l, p1, p2⟩
        · exact .inl (p.trans q)
        · exact .inr ⟨g, c, l, q ▸ p1, p2⟩
      · rcases g6 b' with p | ⟨g', c', l', p1, p2⟩
        · exact .inr ⟨g, c, l, q1, p.trans q2⟩
        · rw [q2] at p1; cases p1
    · rcases List.mem_cons.1 hb' with e | e
      · subst e; exact g3 k (h7 g c l hlt h k hk)
      · refine g7 b' e g c l (by rw [h5]; exact hlt) ?_ k hk
        rcases h6 b' with q | ⟨g', c', l', q1, q2⟩
        · rw [q]; exact h
        · rcases h with h | h
          · rw [q1] at h; cases h; exact .inr q2
          · rw [q1] at h; cases h

/-! ### no box in it, closures allowed -/
mutual
def DT.clean : DT T → Bool
  | .bp _ _ => false
  | .ap _ _ _ _ _ => false
  | .bs _ _ _ _ _ => false
  | .bw _ _ _ _ => false
  | .tup _ => false
  | .agg cs => cleanL cs
  | .fn _ cs => cleanL cs
  | _ => true
def cleanL : List (DT T) → Bool
  | [] => true
  | d :: r => d.clean && cleanL r
end
mutual
theorem clean_wf : ∀ d : DT T, d.clean = true → WfD L d
  | .agg cs, h => by simp only [DT.clean] at h; simp only [WfD]; exact cleanL_wf cs h
  | .fn _ cs, h => by simp only [DT.clean] at h; simp only [WfD]; exact cleanL_wf cs h
  | .dead, _ => trivial
  | .bool _, _ => trivial
  | .int _ _, _ => trivial
  | .u8 _, _ => trivial
  | .u16 _, _ => trivial
  | .u32 _, _ => trivial
  | .u64 _, _ => trivial
  | .str _, _ => trivial
  | .lit _, _ => trivial
  | .nilp, _ => trivial
  | .nils, _ => trivial
  | .rs _ _, _ => trivial
  | .rp _, _ => trivial
  | .bp _ _, h => by cases h
  | .ap _ _ _ _ _, h => by cases h
  | .bs _ _ _ _ _, h => by cases h
  | .bw _ _ _ _, h => by cases h
  | .tup _, h => by cases h
theorem cleanL_wf : ∀ l : List (DT T), cleanL l = true → WfL L l
  | [], _ => trivial
  | d :: r, h => by
    simp only [cleanL, Bool.and_eq_true] at h
    exact ⟨clean_wf d h.1, cleanL_wf r h.2⟩
end

theorem blk_lt (hm : MRel O I loc (denM C m) w) {b g c : Nat} {l : List (T c)} (h : boxL m b g c = some l) (hb : b < m.length) {k : Nat} (hk : loc b g = .blk k) : k < w.heap.size := by
  rcases boxL_some h with e | e
  · exact (hm.own b g k hb (by simp [denM, e, denB, Box.owned]) hk).2.2
  · have := box_at hm hb
    rw [e] at this
    simp only [denB, RelB] at this
    rcases this.2 with ⟨h1, _⟩ | ⟨k', h1, h2, _⟩
    · rw [hk] at h1; cases h1
    · rw [hk] at h1; cases h1; exact hm.imm k h2

/-- the blocks of the boxes in a value are among J. -/
def Held (J : Nat → Prop) (loc : Nat → Nat → Loc) (m : MT T) (ids : List Nat) : Prop := ∀ b ∈ ids, ∀ g c l, b < m.length → (m.get b = .arr g c l ∨ m.get b = .frz g c l) → ∀ k, loc b g = .blk k → J k

/-- a slice of a box reads as what the box holds. -/
theorem rs_of_bw (hm : MRel O I loc (denM C m) w) (hw : WfM L m) {b g c n : Nat} {l : List (T c)} {v : Value} {J : Nat → Prop} (hI : ∀ k, I k → J k) (h : boxL m b g c = some l)
    (hwf : WfD L (.bw b g c n : DT T)) (hv : V I w (den C (.bw b g c n : DT T)) loc v) (hJ : ∀ k, loc b g = .blk k → J k) : V J w (den C (.rs c l : DT T)) free v := by
  simp only [den, V] at hv ⊢
  have hb : b < m.length := lt_len (C := C) (g := g) hm (by intro e; simp [e] at hv)
  obtain ⟨hl, hat⟩ := boxL_at hm hw h hb
  simp only [WfD] at hwf
  have hn : n = l.length := by rw [← hwf, hl]
  rcases hat with ⟨h1, rfl⟩ | ⟨k, h1, h2⟩
  · simp only [h1] at hv
    obtain ⟨_, _, rfl⟩ := hv
    exact .inl ⟨rfl, _, _, rfl⟩
  · simp only [h1] at hv
    obtain ⟨o, cap, rfl, hc, ho, _⟩ := hv
    by_cases h0 : cap = 0
    · have : l = [] := by
        have : l.length = 0 := by omega
        exact List.eq_nil_of_length_eq_zero this
      subst this
      left; exact ⟨rfl, _, _, by rw [hn]; rfl⟩
    · have ho : o = 0 := by
        rcases ho with ho | ho
        · exact absurd ho h0
        · simpa using ho
      subst ho
      right
      refine ⟨k, 0, cap, by simp [hn], by simpa [← hn] using hc, hJ k h1, VR_mono (imm_all2 hI) _ _ k 0 rfl h2⟩

theorem rs_of_bs (hm : MRel O I loc (denM C m) w) (hw : WfM L m) {b g c i n : Nat} {l : List (T c)} {v : Value} {J : Nat → Prop} (hI : ∀ k, I k → J k) (h : boxL m b g c = some l) (hle : n + i ≤ l.length)
    (hv : V I w (den C (.bs b g c i n : DT T)) loc v) (hJ : ∀ k, loc b g = .blk k → J k) : V J w (den C (.rs c ((l.drop i).take n) : DT T)) free v := by
  simp only [den, V] at hv ⊢
  have hb : b < m.length := lt_len (C := C) (g := g) hm (by intro e; simp [e] at hv)
  obtain ⟨hl, hat⟩ := boxL_at hm hw h hb
  have hlen : ((l.drop i).take n).length = n := by simp; omega
  rcases hat with ⟨h1, rfl⟩ | ⟨k, h1, h2⟩
  · simp only [h1] at hv
    obtain ⟨_, _, rfl⟩ := hv
    exact .inl ⟨by simp, _, _, rfl⟩
  · simp only [h1] at hv
    obtain ⟨o, cap, rfl, hc, ho, _⟩ := hv
    by_cases h0 : cap = 0
    · have hn0 : n = 0 := by omega
      subst hn0
      left; exact ⟨by simp, _, _, rfl⟩
    · have ho : o = i * C.sz c := by
        rcases ho with ho | ho
        · exact absurd ho h0
        · exact ho
      subst ho
      right
      refine ⟨k, i * C.sz c, cap, by rw [List.length_map, hlen], by rw [List.length_map, hlen]; exact hc, hJ k h1, ?_⟩
      have := VR_take n (VR_drop i h2)
      simp only [Nat.zero_add] at this
      rw [List.map_take, List.map_drop]
      exact VR_mono (imm_all2 hI) _ _ k _ rfl this

theorem mapK_some {α β : Type} (f : α → (β → Option (List β)) → Option (List β)) (f1 : α → Option β) (hf : ∀ x K, f x K = (f1 x).bind K) : ∀ (l : List α) (r : List β), mapK f l some = some r → l.mapM f1 = some r := by
  have gen : ∀ (l : List α) (K : List β → Option (List β)), mapK f l K = (l.mapM f1).bind K := by
    intro l
    induction l with
    | nil => intro K; simp [mapK]
    | cons x l ih =>
      intro K
      simp only [mapK, hf, List.mapM_cons, Option.bind_eq_bind, Option.bind_assoc]
      congr 1; funext y
      rw [ih]
      simp [Option.bind_assoc]
  intro l r h
  rw [gen l some] at h
  simpa using h

/-- cells without boxes, one by one. -/
theorem mapM_VL {f1 : DT T → Option (DT T)} {J : Nat → Prop} {loc' : Nat → Nat → Loc} : ∀ (l r : List (DT T)) (vs : List Value), l.mapM f1 = some r → VL I w (denL C l) loc vs →
    (∀ d d' v, d ∈ l → f1 d = some d' → V I w (den C d) loc v → V J w (den C d') loc' v ∧ d'.clean = true) → VL J w (denL C r) loc' vs ∧ cleanL r = true
  | [], r, vs, h, hv, _ => by
    simp only [List.mapM_nil, Option.pure_def, Option.some.injEq] at h; subst h
    exact ⟨by simpa only [denL, VL] using hv, rfl⟩
  | d :: l, r, vs, h, hv, hf => by
    simp only [List.mapM_cons, Option.bind_eq_bind, Option.bind_eq_some_iff, Option.pure_def, Option.some.injEq] at h
    obtain ⟨d', h1, r', h2, rfl⟩ := h
    simp only [denL, VL] at hv ⊢
    obtain ⟨v, vr, rfl, hv1, hv2⟩ := hv
    obtain ⟨g1, g2⟩ := hf d d' v (by simp) h1 hv1
    obtain ⟨g3, g4⟩ := mapM_VL l r' vr h2 hv2 (fun d d' v hd => hf d d' v (by simp [hd]))
    exact ⟨⟨v, vr, rfl, g1, g3⟩, by simp [cleanL, g2, g4]⟩

theorem purK_ok (hC : CdOk C) (hm : MRel O I loc (denM C m) w) (hw : WfM L m) {J : Nat → Prop} (hI : ∀ k, I k → J k) (sn : Bool) : ∀ (n : Nat) (d d' : DT T) (v : Value),
    ((∀ k, k < w.heap.size → J k) ∨ (sn = false ∧ Held J loc m (refs n d))) → purK C m sn n d some = some d' → WfD L d → V I w (den C d) loc v → V J w (den C d') free v ∧ d'.clean = true
  | 0, d, d', v, hJ, h, hwf, hv => by cases h
  | n + 1, d, d', v, hJ, h, hwf, hv => by
    have list : ∀ (cs cs' : List (DT T)) (vs : List Value), (∀ d ∈ cs, WfD L d) → (∀ d ∈ cs, (∀ k, k < w.heap.size → J k) ∨ (sn = false ∧ Held J loc m (refs n d))) → mapK (purK C m sn n) cs some = some cs' → VL I w (denL C cs) loc vs → VL J w (denL C cs') free vs ∧ cleanL cs' = true := by
      intro cs cs' vs hwf hJ h hv
      have h2 := mapK_some (purK C m sn n) (fun d => purK C m sn n d some) (fun x K => purK_law C m sn n x K) cs cs' h
      exact mapM_VL cs cs' vs h2 hv (fun d d' v hd h1 hv1 => purK_ok hC hm hw hI sn n d d' v (hJ d hd) h1 (hwf d hd) hv1)
    have fin : ∀ {d0 : DT T}, d0.clean = true → some d0 = some d' → V J w (den C d0) free v → V J w (den C d') free v ∧ d'.clean = true := by
      intro d0 hc he hv0
      simp only [Option.some.injEq] at he; subst he
      exact ⟨hv0, hc⟩
    have up : ∀ {d0 : DT T}, (den C d0).pure = true → V I w (den C d0) loc v → V J w (den C d0) free v := fun hp hv0 =>
      V_mono (imm_all2 hI) _ free free v (.refl _) (V_pure hp hv0)
    simp only [purK] at h
    cases d <;> simp only [] at h
    case bw b g c k =>
      split at h
      case h_2 => cases h
      rename_i l hl
      have hb : b < m.length := by
        simp only [den, V] at hv
        exact lt_len (C := C) (g := g) hm (by intro e; simp [e] at hv)
      refine fin rfl h (rs_of_bw hm hw hI hl hwf hv fun k hk => ?_)
      rcases hJ with hJ | ⟨_, hJ⟩
      · exact hJ k (blk_lt hm hl hb hk)
      · exact hJ b (by simp [refs]) g c l hb (boxL_some hl) k hk
    case bs b g c i k =>
      split at h
      case h_2 => cases h
      rename_i l hl
      have hb : b < m.length := by
        simp only [den, V] at hv
        exact lt_len (C := C) (g := g) hm (by intro e; simp [e] at hv)
      unfold winK at h
      cases hd : decide (k + i ≤ l.length) <;> simp only [hd, cond_true, cond_false] at h
      · cases h
      refine fin rfl h (rs_of_bs hm hw hI hl (of_decide_eq_true hd) hv fun k hk => ?_)
      rcases hJ with hJ | ⟨_, hJ⟩
      · exact hJ k (blk_lt hm hl hb hk)
      · exact hJ b (by simp [refs]) g c l hb (boxL_some hl) k hk
    case bp b off =>
      split at h
      case h_2 => cases h
      have hJ' : ∀ k, k < w.heap.size → J k := by
        rcases hJ with hJ | ⟨hf, _⟩
        · exact hJ
        · cases hf
      split at h
      case h_2 => cases h
      rename_i cs hb
      rw [purL_law, Option.bind_eq_some_iff] at h
      obtain ⟨cs', h1, h2⟩ := h
      simp only [den, V] at hv
      have hlt : b < m.length := lt_len (C := C) (g := 0) hm (by intro e; simp [e] at hv)
      have hbx := box_at hm hlt
      rw [hb] at hbx; simp only [denB, RelB] at hbx
      obtain ⟨_, k, c, el, fz, hl, hwk, _, hone, hvl⟩ := hbx
      simp only [hl] at hv; subst hv
      have hwb := hw b
      rw [hb] at hwb
      have hvd := VL_drop off hvl
      rw [← denL_drop] at hvd
      obtain ⟨g1, g2⟩ := list (cs.drop off) cs' _ (fun d hd => WfL_iff.1 hwb d (List.mem_of_mem_drop hd)) (fun _ _ => .inl hJ') h1 hvd
      have hk : k < w.heap.size := by
        rcases Nat.lt_or_ge k w.heap.size with h | h
        · exact h
        · rw [Array.getElem?_eq_none h] at hwk; cases hwk
      refine fin rfl h2 ?_
      simp only [den, V]
      refine ⟨k, off, rfl, hJ' k hk, list_VC g1 (fun x hx => hone x (List.mem_of_mem_drop hx)) fun j x hj => ?_⟩
      rw [List.getElem?_drop] at hj
      simp [World.cell?, hwk]
      simpa using hj
    case ap b g c i off =>
      split at h
      case h_2 => cases h
      have hJ' : ∀ k, k < w.heap.size → J k := by
        rcases hJ with hJ | ⟨hf, _⟩
        · exact hJ
        · cases hf
      split at h
      case h_2 => cases h
      rename_i l hl
      rw [Option.bind_eq_some_iff] at h
      obtain ⟨x, h1, h2⟩ := h
      simp only [den, V] at hv
      have hlt : b < m.length := lt_len (C := C) (g := g) hm (by intro e; simp [e] at hv)
      obtain ⟨_, hat⟩ := boxL_at hm hw hl hlt
      rcases hat with ⟨_, rfl⟩ | ⟨k, hk, hvr⟩
      · simp at h1
      simp only [hk] at hv; subst hv
      have hrow := VR_get hvr (i := i) (row := C.encD c x) (by simp [h1])
      refine fin rfl h2 ?_
      simp only [den, V, denL_drop, hC.enc]
      refine ⟨k, _, rfl, hJ' k (blk_lt hm hl hlt hk), ?_⟩
      have := VC_drop off hrow.2
      simp only [Nat.zero_add] at this
      exact VC_mono (imm_all2 hI) _ k _ rfl this
    case agg cs =>
      rw [purL_law, Option.bind_eq_some_iff] at h
      obtain ⟨cs', h1, h2⟩ := h
      simp only [den, V] at hv
      obtain ⟨vs, rfl, hone, hvl⟩ := hv
      simp only [WfD] at hwf
      obtain ⟨g1, g2⟩ := list cs cs' vs (WfL_iff.1 hwf) (fun d hd => by
        rcases hJ with hJ | ⟨hf, hJ⟩
        · exact .inl hJ
        · exact .inr ⟨hf, fun b hb => hJ b (by simp only [refs, List.mem_flatMap]; exact ⟨d, hd, hb⟩)⟩) h1 hvl
      exact fin (d0 := .agg cs') (by simp [DT.clean, g2]) h2 (by simp only [den, V]; exact ⟨vs, rfl, hone, g1⟩)
    case fn f cs =>
      rw [purL_law, Option.bind_eq_some_iff] at h
      obtain ⟨cs', h1, h2⟩ := h
      simp only [den, V] at hv
      obtain ⟨vs, rfl, hvl⟩ := hv
      simp only [WfD] at hwf
      obtain ⟨g1, g2⟩ := list cs cs' vs (WfL_iff.1 hwf) (fun d hd => by
        rcases hJ with hJ | ⟨hf, hJ⟩
        · exact .inl hJ
        · exact .inr ⟨hf, fun b hb => hJ b (by simp only [refs, List.mem_flatMap]; exact ⟨d, hd, hb⟩)⟩) h1 hvl
      exact fin (d0 := .fn f cs') (by simp [DT.clean, g2]) h2 (by simp only [den, V]; exact ⟨vs, rfl, g1⟩)
    case tup cs => cases h
    all_goals exact fin rfl h (up rfl hv)
end
end Go.Abs

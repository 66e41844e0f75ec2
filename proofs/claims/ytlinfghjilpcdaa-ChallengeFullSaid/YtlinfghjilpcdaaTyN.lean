/- Places of a state: what they mean in a world, and how they are taken out of a memory. No condition. -/
import Derived.Test.YtlinfghjilpcdaaTyM
namespace Go.Abs
open Go
set_option linter.unusedSimpArgs false

section
variable {T : Nat → Type}

/-- a slice of one's own: its block is among 'own'. -/
def SVO (C : Cd T) (I : Nat → Prop) (w : World) (c : Nat) (l : List (T c)) (v : Value) (own : Nat → Prop) : Prop :=
  (l = [] ∧ v = .slice none 0 0) ∨ ∃ k o cap cells el fz, v = .slice (some ⟨k, o, none⟩) l.length cap ∧ l.length ≤ cap ∧ (cap = 0 ∨ o = 0) ∧ cap * C.sz c ≤ cells.size ∧ l.length * C.sz c ≤ cells.size ∧ w.heap[k]? = some (.cells cells el fz) ∧ Unfz fz cells.size ∧ own k ∧ VR I w (C.sz c) (l.map (C.encD c)) k 0
/-- a variable of one's own with these cells. -/
def SVP (w : World) (cs : List Value) (v : Value) (own : Nat → Prop) : Prop :=
  ∃ k cells el fz, v = .pointer (some ⟨k, 0, none⟩) ∧ w.heap[k]? = some (.cells cells el fz) ∧ Unfz fz cells.size ∧ (∀ x ∈ cells.toList, x.oneCell' = true) ∧ own k ∧ cells.toList = cs
def SVF (C : Cd T) (I : Nat → Prop) (w : World) : (f : Fld) → f.ty T → List Value → (Nat → Prop) → Prop
  | .v t, x, vs, _ => VL I w (denL C (encC C t x)) free vs
  | .own c, l, vs, own => ∃ v, vs = [v] ∧ SVO C I w c l v own
  | .pt t, x, vs, own => ∃ v cs, vs = [v] ∧ SVP w cs v own ∧ VL I w (denL C (encC C t x)) free cs
  | .st a c b, x, vs, own => ∃ u v z, vs = u ++ v :: z ∧ VL I w (denL C (encC C a x.1)) free u ∧ SVO C I w c x.2.1 v own ∧ VL I w (denL C (encC C b x.2.2)) free z
  | .fp f t, x, vs, own => ∃ v cs, vs = [.func (.func f) #[] #[v]] ∧ SVP w cs v own ∧ VL I w (denL C (encC C t x)) free cs
def SVFs (C : Cd T) (I : Nat → Prop) (w : World) : (fs : List Fld) → tyFs T fs → List Value → (Nat → Prop) → Prop
  | [], _, vs, _ => vs = []
  | f :: r, x, vs, own => ∃ a b o1 o2, vs = a ++ b ∧ SVF C I w f x.1 a o1 ∧ SVFs C I w r x.2 b o2 ∧ (∀ k, o1 k → own k) ∧ (∀ k, o2 k → own k) ∧ (∀ k, o1 k → ¬ o2 k)
def SVV (C : Cd T) (I : Nat → Prop) (w : World) : (f : Fld) → f.ty T → Value → (Nat → Prop) → Prop
  | .v t, x, v, _ => V I w (den C (encV C t x)) free v
  | .own c, l, v, own => SVO C I w c l v own
  | .pt t, x, v, own => ∃ cs, SVP w cs v own ∧ VL I w (denL C (encC C t x)) free cs
  | .st a c b, x, v, own => ∃ vs : List Value, v = .agg vs.toArray ∧ (∀ y ∈ vs, y.oneCell' = true) ∧ ∃ u v z, vs = u ++ v :: z ∧ VL I w (denL C (encC C a x.1)) free u ∧ SVO C I w c x.2.1 v own ∧ VL I w (denL C (encC C b x.2.2)) free z
  | .fp f t, x, v, own => ∃ p cs, v = .func (.func f) #[] #[p] ∧ SVP w cs p own ∧ VL I w (denL C (encC C t x)) free cs
def SVS (C : Cd T) (I : Nat → Prop) (w : World) : (s : Slot) → s.ty T → Value → (Nat → Prop) → Prop
  | .f f, x, v, own => SVV C I w f x v own
  | .ptr fs, x, v, own => ∃ cs o1 o2, SVP w cs v o1 ∧ SVFs C I w fs x cs o2 ∧ (∀ k, o1 k → own k) ∧ (∀ k, o2 k → own k) ∧ (∀ k, o1 k → ¬ o2 k)
  | .inp c, l, v, own => SVO C I w c l v own
  | .iter, x, v, own => ∃ k, v = .pointer (some ⟨k, 0, none⟩) ∧ w.heap[k]? = some (.stringIter ⟨x.1.toArray⟩ x.2) ∧ own k
def SVSs (C : Cd T) (I : Nat → Prop) (w : World) : (ss : List Slot) → tySs T ss → List Value → (Nat → Prop) → Prop
  | [], _, vs, _ => vs = []
  | s :: r, x, vs, own => ∃ v vr o1 o2, vs = v :: vr ∧ SVS C I w s x.1 v o1 ∧ SVSs C I w r x.2 vr o2 ∧ (∀ k, o1 k → own k) ∧ (∀ k, o2 k → own k) ∧ (∀ k, o1 k → ¬ o2 k)
def SVVs (C : Cd T) (I : Nat → Prop) (w : World) : (fs : List Fld) → tyFs T fs → List Value → (Nat → Prop) → Prop
  | [], _, vs, _ => vs = []
  | f :: r, x, vs, own => ∃ v vr o1 o2, vs = v :: vr ∧ SVV C I w f x.1 v o1 ∧ SVVs C I w r x.2 vr o2 ∧ (∀ k, o1 k → own k) ∧ (∀ k, o2 k → own k) ∧ (∀ k, o1 k → ¬ o2 k)

variable {C : Cd T} {O I I' : Nat → Prop} {w w' : World} {loc : Nat → Nat → Loc} {L : Nat → Nat → Nat} {m : MT T} {R : Type} {own own' : Nat → Prop}

/-! ### they stay while what they lead to stays -/
structure Keep (I I' : Nat → Prop) (w w' : World) (own : Nat → Prop) : Prop where
  ext : Ext I I' w w'
  same : ∀ k, own k → w'.heap[k]? = w.heap[k]?
theorem Keep.sub (h : Keep I I' w w' own) (hs : ∀ k, own' k → own k) : Keep I I' w w' own' := ⟨h.ext, fun k hk => h.same k (hs k hk)⟩
theorem Keep.imm (h : ∀ k, I k → I' k) : Keep I I' w w own := ⟨imm_all2 h, fun _ _ => rfl⟩

theorem SVO.keep {c : Nat} {l : List (T c)} {v : Value} (hk : Keep I I' w w' own) (h : SVO C I w c l v own) : SVO C I' w' c l v own := by
  rcases h with h | ⟨k, o, cap, cells, el, fz, h1, h2, h3, h4, h4', h5, h6, h7, h8⟩
  · exact .inl h
  · exact .inr ⟨k, o, cap, cells, el, fz, h1, h2, h3, h4, h4', (hk.same k h7).trans h5, h6, h7, VR_mono hk.ext _ _ k 0 (hk.same k h7) h8⟩
theorem SVO_sub {c : Nat} {l : List (T c)} {v : Value} (h : SVO C I w c l v own) (hs : ∀ k, own k → own' k) : SVO C I w c l v own' := by
  rcases h with h | ⟨k, o, cap, cells, el, fz, h1, h2, h3, h4, h4', h5, h6, h7, h8⟩
  · exact .inl h
  · exact .inr ⟨k, o, cap, cells, el, fz, h1, h2, h3, h4, h4', h5, h6, hs k h7, h8⟩
theorem SVP.keep {cs : List Value} {v : Value} (hk : ∀ k, own k → w'.heap[k]? = w.heap[k]?) (h : SVP w cs v own) : SVP w' cs v own := by
  obtain ⟨k, cells, el, fz, h1, h2, h3, h4, h5, h6⟩ := h
  exact ⟨k, cells, el, fz, h1, (hk k h5).trans h2, h3, h4, h5, h6⟩
theorem SVF.keep {f : Fld} {x : f.ty T} {vs : List Value} (hk : Keep I I' w w' own) (h : SVF C I w f x vs own) : SVF C I' w' f x vs own := by
  cases f with
  | v t => exact VL_mono hk.ext _ free free vs (.refl _) h
  | own c => obtain ⟨v, h1, h2⟩ := h; exact ⟨v, h1, h2.keep hk⟩
  | pt t => obtain ⟨v, cs, h1, h2, h3⟩ := h; exact ⟨v, cs, h1, h2.keep hk.same, VL_mono hk.ext _ free free cs (.refl _) h3⟩
  | st a c b => obtain ⟨u, v, z, h1, h2, h3, h4⟩ := h; exact ⟨u, v, z, h1, VL_mono hk.ext _ free free u (.refl _) h2, h3.keep hk, VL_mono hk.ext _ free free z (.refl _) h4⟩
  | fp f t => obtain ⟨v, cs, h1, h2, h3⟩ := h; exact ⟨v, cs, h1, h2.keep hk.same, VL_mono hk.ext _ free free cs (.refl _) h3⟩
theorem SVFs.keep : ∀ {fs : List Fld} {x : tyFs T fs} {vs : List Value} {own : Nat → Prop}, Keep I I' w w' own → SVFs C I w fs x vs own → SVFs C I' w' fs x vs own
  | [], x, vs, own, hk, h => h
  | f :: r, x, vs, own, hk, h => by
    obtain ⟨a, b, o1, o2, h1, h2, h3, h4, h5, h6⟩ := h
    exact ⟨a, b, o1, o2, h1, h2.keep (hk.sub h4), SVFs.keep (hk.sub h5) h3, h4, h5, h6⟩
theorem SVV.keep {f : Fld} {x : f.ty T} {v : Value} (hk : Keep I I' w w' own) (h : SVV C I w f x v own) : SVV C I' w' f x v own := by
  cases f with
  | v t => exact V_mono hk.ext _ free free v (.refl _) h
  | own c => exact SVO.keep hk h
  | pt t => obtain ⟨cs, h2, h3⟩ := h; exact ⟨cs, h2.keep hk.same, VL_mono hk.ext _ free free cs (.refl _) h3⟩
  | st a c b => obtain ⟨vs, g1, g2, u, v, z, h1, h2, h3, h4⟩ := h; exact ⟨vs, g1, g2, u, v, z, h1, VL_mono hk.ext _ free free u (.refl _) h2, h3.keep hk, VL_mono hk.ext _ free free z (.refl _) h4⟩
  | fp f t => obtain ⟨p, cs, h1, h2, h3⟩ := h; exact ⟨p, cs, h1, h2.keep hk.same, VL_mono hk.ext _ free free cs (.refl _) h3⟩
theorem SVS.keep {s : Slot} {x : s.ty T} {v : Value} (hk : Keep I I' w w' own) (h : SVS C I w s x v own) : SVS C I' w' s x v own := by
  cases s with
  | f f => exact SVV.keep hk h
  | ptr fs =>
    obtain ⟨cs, o1, o2, h1, h2, h3, h4, h5⟩ := h
    exact ⟨cs, o1, o2, h1.keep (fun k q => hk.same k (h3 k q)), h2.keep (hk.sub h4), h3, h4, h5⟩
  | inp c => exact SVO.keep hk h
  | iter => obtain ⟨k, h1, h2, h3⟩ := h; exact ⟨k, h1, (hk.same k h3).trans h2, h3⟩
theorem SVSs.keep : ∀ {ss : List Slot} {x : tySs T ss} {vs : List Value} {own : Nat → Prop}, Keep I I' w w' own → SVSs C I w ss x vs own → SVSs C I' w' ss x vs own
  | [], x, vs, own, hk, h => h
  | s :: r, x, vs, own, hk, h => by
    obtain ⟨v, vr, o1, o2, h1, h2, h3, h4, h5, h6⟩ := h
    exact ⟨v, vr, o1, o2, h1, h2.keep (hk.sub h4), SVSs.keep (hk.sub h5) h3, h4, h5, h6⟩
theorem SVVs.keep : ∀ {fs : List Fld} {x : tyFs T fs} {vs : List Value} {own : Nat → Prop}, Keep I I' w w' own → SVVs C I w fs x vs own → SVVs C I' w' fs x vs own
  | [], x, vs, own, hk, h => h
  | s :: r, x, vs, own, hk, h => by
    obtain ⟨v, vr, o1, o2, h1, h2, h3, h4, h5, h6⟩ := h
    exact ⟨v, vr, o1, o2, h1, h2.keep (hk.sub h4), SVVs.keep (hk.sub h5) h3, h4, h5, h6⟩

/-! ### out of a memory -/
def Owned (C : Cd T) (m : MT T) (loc : Nat → Nat → Loc) (k : Nat) : Prop := ∃ b g, b < m.length ∧ (denB C (m.get b)).owned = true ∧ loc b g = .blk k

structure Took (C : Cd T) (O I : Nat → Prop) (w : World) (loc : Nat → Nat → Loc) (L : Nat → Nat → Nat) (m : MT T) (own : Nat → Prop) (I' : Nat → Prop) (m' : MT T) (loc' : Nat → Nat → Loc) : Prop where
  mem : MRel O I' loc' (denM C m') w
  wf : WfM L m'
  imm0 : ∀ k, I k → I' k
  imm1 : ∀ k, I' k → I k ∨ Owned C m loc k
  ext : LocExt loc loc'
  got : ∀ k, own k → ¬ I' k ∧ Owned C m loc k
  rest : ∀ k, Owned C m' loc' k → ¬ own k ∧ Owned C m loc k
  len : m'.length = m.length
  lent : ∀ b, m.get b = .lent → m'.get b = .lent ∧ ∀ g, loc' b g = loc b g
  arrs : ∀ b g c l, m'.get b = .arr g c l → m.get b = .arr g c l

theorem Owned.facts (hm : MRel O I loc (denM C m) w) {k : Nat} (h : Owned C m loc k) : O k ∧ ¬ I k ∧ k < w.heap.size := by
  obtain ⟨b, g, h1, h2, h3⟩ := h
  exact hm.own b g k h1 h2 h3

theorem Took.refl (hm : MRel O I loc (denM C m) w) (hw : WfM L m) : Took C O I w loc L m none' I m loc :=
  ⟨hm, hw, fun _ h => h, fun _ h => .inl h, .refl _, fun _ h => h.elim, fun _ h => ⟨fun q => q, h⟩, rfl, fun _ h => ⟨h, fun _ => rfl⟩, fun _ _ _ _ h => h⟩

theorem Took.trans {I1 I2 : Nat → Prop} {m1 m2 : MT T} {loc1 loc2 : Nat → Nat → Loc} {o1 o2 : Nat → Prop} (a : Took C O I w loc L m o1 I1 m1 loc1) (b : Took C O I1 w loc1 L m1 o2 I2 m2 loc2) : Took C O I w loc L m (fun k => o1 k ∨ o2 k) I2 m2 loc2 := by
  have up : ∀ k, Owned C m1 loc1 k → Owned C m loc k := fun k h => (a.rest k h).2
  refine ⟨b.mem, b.wf, fun k h => b.imm0 k (a.imm0 k h), fun k h => ?_, a.ext.trans b.ext, fun k h => ?_, fun k h => ?_, b.len.trans a.len, fun q h => ⟨(b.lent q (a.lent q h).1).1, fun g => ((b.lent q (a.lent q h).1).2 g).trans ((a.lent q h).2 g)⟩, fun q g c l h => a.arrs q g c l (b.arrs q g c l h)⟩
  · rcases b.imm1 k h with h | h
    · exact a.imm1 k h
    · exact .inr (up k h)
  · rcases h with h | h
    · refine ⟨fun hI => ?_, (a.got k h).2⟩
      rcases b.imm1 k hI with q | q
      · exact (a.got k h).1 q
      · exact (a.rest k q).1 h
    · exact ⟨(b.got k h).1, up k (b.got k h).2⟩
  · obtain ⟨h1, h2⟩ := b.rest k h
    obtain ⟨h3, h4⟩ := a.rest k h2
    exact ⟨fun q => q.elim h3 h1, h4⟩
theorem Took.disj {I1 I2 : Nat → Prop} {m1 m2 : MT T} {loc1 loc2 : Nat → Nat → Loc} {o1 o2 : Nat → Prop} (a : Took C O I w loc L m o1 I1 m1 loc1) (b : Took C O I1 w loc1 L m1 o2 I2 m2 loc2) : ∀ k, o1 k → ¬ o2 k := fun k h1 h2 => (a.rest k (b.got k h2).2).1 h1

theorem Took.V {m' : MT T} {loc' : Nat → Nat → Loc} (a : Took C O I w loc L m own I' m' loc') {d : DT T} {v : Value} (h : V I w (den C d) loc v) : Abs.V I' w (den C d) loc' v := V_mono (imm_all2 a.imm0) _ loc loc' v a.ext h

/-- frozen boxes alone. -/
theorem Took.fz {m1 : MT T} {I1 : Nat → Prop} (h1 : MRel O I1 loc (denM C m1) w) (h2 : WfM L m1) (h3 : ∀ k, I k → I1 k) (h4 : ∀ k, I1 k → I k ∨ ∃ b g c l, b < m.length ∧ m.get b = BoxT.arr g c l ∧ loc b g = .blk k) (h5 : m1.length = m.length)
    (h6 : ∀ b, m1.get b = m.get b ∨ ∃ g c l, m.get b = .arr g c l ∧ m1.get b = .frz g c l) : Took C O I w loc L m none' I1 m1 loc := by
  refine ⟨h1, h2, h3, fun k h => ?_, .refl _, fun _ h => h.elim, fun k h => ⟨fun q => q, ?_⟩, h5, fun b h => ⟨?_, fun _ => rfl⟩, fun b g c l h => ?_⟩
  · rcases h4 k h with h | ⟨b, g, c, l, q1, q2, q3⟩
    · exact .inl h
    · exact .inr ⟨b, g, q1, by rw [q2]; rfl, q3⟩
  · obtain ⟨b, g, q1, q2, q3⟩ := h
    rcases h6 b with e | ⟨g', c, l, e1, e2⟩
    · exact ⟨b, g, by rw [← h5]; exact q1, by rw [← e]; exact q2, q3⟩
    · rw [e2] at q2; cases q2
  · rcases h6 b with e | ⟨g', c, l, e1, e2⟩
    · rw [e]; exact h
    · rw [h] at e1; cases e1
  · rcases h6 b with e | ⟨g', c', l', e1, e2⟩
    · rw [← e]; exact h
    · rw [e2] at h; cases h

/-- a box is taken away. -/
def locOut (loc : Nat → Nat → Loc) (b : Nat) : Nat → Nat → Loc := fun b' g => if b' = b then (match loc b' g with | .free => .free | _ => .stale) else loc b' g
theorem Took.box (hm : MRel O I loc (denM C m) w) (hw : WfM L m) {b : Nat} (hb : b < m.length) (ho : (denB C (m.get b)).owned = true) : Took C O I w loc L m (fun k => ∃ g, loc b g = .blk k) I (m.put b .gone) (locOut loc b) := by
  have hle : LocExt loc (locOut loc b) := fun b' g => by
    unfold locOut
    by_cases e : b' = b
    · rw [if_pos e]; cases loc b' g <;> simp
    · rw [if_neg e]; exact .inr (.inr rfl)
  have hbx : ∀ b', (denM C (m.put b .gone)).bx b' = if b' = b then .gone else (denM C m).bx b' := fun b' => by
    simp only [denM, get_put hb]
    split <;> rfl
  have hnb : (denM C (m.put b .gone)).nb = m.length := by simp [denM, len_put]
  have hne : ∀ {b'}, ((denM C (m.put b .gone)).bx b').owned = true → b' ≠ b ∧ ((denM C m).bx b').owned = true := fun {b'} h => by
    rw [hbx] at h
    by_cases e : b' = b
    · rw [if_pos e] at h; cases h
    · rw [if_neg e] at h; exact ⟨e, h⟩
  have hl : ∀ {b' g}, b' ≠ b → locOut loc b b' g = loc b' g := fun {b' g} e => by unfold locOut; rw [if_neg e]
  refine ⟨⟨fun b' hb' => ?_, fun b' g hb' => ?_, fun b' g k hb' ho' hk => ?_, fun b1 b2 g1 g2 k h1 h2 o1 o2 k1 k2 => ?_, hm.imm, hm.up⟩, WfM_put hb hw trivial, fun _ h => h, fun _ h => .inl h, hle, fun k h => ?_, fun k h => ?_, len_put, fun b' h => ?_, fun b' g c l h => ?_⟩
  · rw [hnb] at hb'
    rw [hbx]
    by_cases e : b' = b
    · rw [if_pos e]
      simp only [RelB]
      intro g
      unfold locOut
      rw [if_pos e]
      cases loc b' g <;> simp
    · rw [if_neg e]
      exact RelB_mono (.refl _ _) hle (fun g => hl e) (fun _ _ _ _ => rfl) (hm.box b' hb')
  · rw [hnb] at hb'
    rw [hl (by omega)]
    exact hm.free b' g hb'
  · rw [hnb] at hb'
    obtain ⟨e, h⟩ := hne ho'
    rw [hl e] at hk
    exact hm.own b' g k hb' h hk
  · rw [hnb] at h1 h2
    obtain ⟨e1, q1⟩ := hne o1
    obtain ⟨e2, q2⟩ := hne o2
    rw [hl e1] at k1
    rw [hl e2] at k2
    exact hm.inj b1 b2 g1 g2 k h1 h2 q1 q2 k1 k2
  · obtain ⟨g, hg⟩ := h
    exact ⟨(hm.own b g k hb ho hg).2.1, b, g, hb, ho, hg⟩
  · obtain ⟨b', g, q1, q2, q3⟩ := h
    rw [len_put] at q1
    obtain ⟨e, h⟩ := hne (b' := b') q2
    rw [hl e] at q3
    refine ⟨fun ⟨g', hg'⟩ => e (hm.inj b' b g g' k q1 hb h ho q3 hg'), b', g, q1, h, q3⟩
  · have e : b' ≠ b := by rintro rfl; rw [h] at ho; cases ho
    rw [get_put hb, if_neg e]
    exact ⟨h, fun g => hl e⟩
  · rw [get_put hb] at h
    split at h
    · cases h
    · exact h

theorem Took.sub {m' : MT T} {loc' : Nat → Nat → Loc} (a : Took C O I w loc L m own I' m' loc') (h : ∀ k, own' k → own k) : Took C O I w loc L m own' I' m' loc' :=
  ⟨a.mem, a.wf, a.imm0, a.imm1, a.ext, fun k hk => a.got k (h k hk), fun k hk => ⟨fun q => (a.rest k hk).1 (h k q), (a.rest k hk).2⟩, a.len, a.lent, a.arrs⟩

theorem dec_own (hm : MRel O I loc (denM C m) w) (hw : WfM L m) {c : Nat} {d : DT T} {v : Value} {K : List (T c) → MT T → Option R} {r : R} (hwf : WfD L d) (hv : V I w (den C d) loc v) (h : decOK m c d K = some r) :
    ∃ l own I' m' loc', Took C O I w loc L m own I' m' loc' ∧ SVO C I' w c l v own ∧ K l m' = some r := by
  unfold decOK at h
  split at h
  · simp only [den, V] at hv
    exact ⟨[], none', I, m, loc, .refl hm hw, .inl ⟨rfl, hv⟩, h⟩
  · rename_i b g c' n
    split at h
    case h_2 => cases h
    rename_i hc
    have hc := Nat.eq_of_beq_eq_true hc
    subst hc
    split at h
    case h_2 => cases h
    rename_i l hl
    have hb := boxA_some hl
    have hlt : b < m.length := by
      simp only [den, V] at hv
      exact lt_len (C := C) (g := g) hm (by intro e; simp [e] at hv)
    have ho : (denB C (m.get b)).owned = true := by rw [hb]; rfl
    refine ⟨l, _, I, _, _, Took.box hm hw hlt ho, ?_, h⟩
    have hwb := hw b
    rw [hb] at hwb
    simp only [WfB] at hwb
    simp only [WfD] at hwf
    have hn : n = l.length := by rw [← hwf, hwb]
    have hr := box_at hm hlt
    rw [hb] at hr
    simp only [denB, RelB] at hr
    simp only [den, V] at hv
    rcases hr.2 with ⟨h1, h2⟩ | ⟨k, cells, el, fz, h1, h2, h3, h4, h5⟩
    · simp only [h1] at hv
      exact .inl ⟨by simpa using h2, hv.2.2⟩
    · simp only [h1] at hv
      obtain ⟨o, cap, rfl, q1, q2, q3⟩ := hv
      refine .inr ⟨k, o, cap, cells, el, fz, by rw [hn], by rw [← hn]; exact q1, by simpa using q2, ?_, by simpa using h4, h2, h3, ⟨g, h1⟩, h5⟩
      simpa [rowSize, h2] using q3
  · rename_i b g c' n
    split at h
    case h_2 => cases h
    rename_i hc
    have hc := Nat.eq_of_beq_eq_true hc
    subst hc
    split at h
    case h_2 => cases h
    rename_i l hl
    cases hle : decide (n ≤ l.length) <;> simp only [hle, cond_true, cond_false] at h
    · cases h
    have hle := of_decide_eq_true hle
    have hb := boxA_some hl
    have hlt : b < m.length := by
      simp only [den, V] at hv
      exact lt_len (C := C) (g := g) hm (by intro e; simp [e] at hv)
    have ho : (denB C (m.get b)).owned = true := by rw [hb]; rfl
    refine ⟨l.take n, _, I, _, _, Took.box hm hw hlt ho, ?_, h⟩
    have hlen : (l.take n).length = n := by simp; omega
    have hr := box_at hm hlt
    rw [hb] at hr
    simp only [denB, RelB] at hr
    simp only [den, V] at hv
    rcases hr.2 with ⟨h1, h2⟩ | ⟨k, cells, el, fz, h1, h2, h3, h4, h5⟩
    · simp only [h1] at hv
      have : l = [] := by simpa using h2
      exact .inl ⟨by simp [this], hv.2.2⟩
    · simp only [h1] at hv
      obtain ⟨o, cap, rfl, q1, q2, q3⟩ := hv
      have q3' : cap * C.sz c' ≤ cells.size := by simpa [rowSize, h2] using q3
      refine .inr ⟨k, o, cap, cells, el, fz, by rw [hlen], by rw [hlen]; exact q1, by simpa using q2, q3', ?_, h2, h3, ⟨g, h1⟩, ?_⟩
      · rw [hlen]; exact Nat.le_trans (Nat.mul_le_mul_right _ q1) q3'
      · rw [List.map_take]; exact VR_take n h5
  · cases h
end
end Go.Abs

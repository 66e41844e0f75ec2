/- Contracts in typed values, and calls by them. No condition. -/
import Derived.Test.YtlinfghjilpcdaaTyP
namespace Go.Abs
open Go
set_option linter.unusedSimpArgs false

section
variable {T : Nat → Type}

def resV : List Value → Value
  | [x] => x
  | l => .tuple l.toArray

/-- what a call has left in the places that it was handed. -/
def SVOuts (C : Cd T) (I : Nat → Prop) (w : World) : (ss : List Slot) → tyO T ss → List Value → (Nat → Prop) → Prop
  | [], _, _, _ => True
  | .ptr fs :: r, x, vs, own => ∃ v vr o1 o2, vs = v :: vr ∧ SVS C I w (.ptr fs) x.1 v o1 ∧ SVOuts C I w r x.2 vr o2 ∧ (∀ k, o1 k → own k) ∧ (∀ k, o2 k → own k) ∧ (∀ k, o1 k → ¬ o2 k)
  | .inp c :: r, x, vs, own => ∃ v vr o1 o2, vs = v :: vr ∧ SVO C I w c x.1 v o1 ∧ SVOuts C I w r x.2 vr o2 ∧ (∀ k, o1 k → own k) ∧ (∀ k, o2 k → own k) ∧ (∀ k, o1 k → ¬ o2 k)
  | .f _ :: r, x, vs, own => ∃ v vr, vs = v :: vr ∧ SVOuts C I w r x vr own
  | .iter :: r, x, vs, own => ∃ v vr, vs = v :: vr ∧ SVOuts C I w r x vr own

/-- A CONTRACT: called with what reads as x, the function returns what reads as its answer; the places that it was handed read as they are told; all else is as it was. -/
def SoundT (P : Program) (C : Cd T) (G : Nat → Option (List D)) (f : FuncId) (S : FSpec T) : Prop :=
  (∃ fn, P.funcs[f]? = some fn ∧ fn.body.isSome = true ∧ (fn.name == "runtime.NumGoroutine") = false) ∧
  ∀ (I own : Nat → Prop) (w : World) (args : List Value) (x : tySs T S.ps) (r : tyO T S.ps × tyFs T S.rs),
    (∀ k, I k → k < w.heap.size) → (∀ k, own k → ¬ I k ∧ k < w.heap.size) → Glob G I w → SVSs C I w S.ps x args own → S.fn x = some r →
    Calls P f args.toArray w fun e w' => ∃ vs I' o1 o2, e = .returned (resV vs) ∧ Fr (fun k => own k ∨ w.heap.size ≤ k) w w' ∧ (∀ b, rowSize w b ≤ rowSize w' b) ∧ (∀ k, I k → I' k) ∧ (∀ k, I' k → I k ∨ own k ∨ w.heap.size ≤ k) ∧ (∀ k, I' k → k < w'.heap.size) ∧
      (∀ k, o1 k ∨ o2 k → (own k ∨ w.heap.size ≤ k) ∧ ¬ I' k ∧ k < w'.heap.size) ∧ (∀ k, o1 k → ¬ o2 k) ∧ SVOuts C I' w' S.ps r.1 args o1 ∧ SVVs C I' w' S.rs r.2 vs o2

variable {C : Cd T} {O I I' : Nat → Prop} {w w' : World} {loc : Nat → Nat → Loc} {L : Nat → Nat → Nat} {m m0 : MT T} {R : Type} {own own' : Nat → Prop} {P : Program}

/-! ### what holds no memory reads the same everywhere -/
mutual
theorem Vfl {I2 : Nat → Prop} {w2 : World} {loc2 : Nat → Nat → Loc} : ∀ (d : D) (v : Value), d.flat = true → V I w d loc v → V I2 w2 d loc2 v
  | .bool _, _, _, h => by simpa only [V] using h
  | .int _ _, _, _, h => by simpa only [V] using h
  | .str _, _, _, h => by simpa only [V] using h
  | .lit _, _, _, h => by simpa only [V] using h
  | .nilp, _, _, h => by simpa only [V] using h
  | .nils, _, _, h => by simpa only [V] using h
  | .agg cs, v, hf, h => by
    simp only [V] at h ⊢
    obtain ⟨vs, h1, h2, h3⟩ := h
    exact ⟨vs, h1, h2, VLfl cs vs hf h3⟩
  | .tup cs, v, hf, h => by
    simp only [V] at h ⊢
    obtain ⟨vs, h1, h3⟩ := h
    exact ⟨vs, h1, VLfl cs vs hf h3⟩
  | .dead, _, _, _ => trivial
  | .rp _, _, hf, _ => by cases hf
  | .bp _ _, _, hf, _ => by cases hf
  | .ap _ _ _ _ _, _, hf, _ => by cases hf
  | .rs _ _, _, hf, _ => by cases hf
  | .bs _ _ _ _ _, _, hf, _ => by cases hf
  | .fn _ _, _, hf, _ => by cases hf
theorem VLfl {I2 : Nat → Prop} {w2 : World} {loc2 : Nat → Nat → Loc} : ∀ (ds : List D) (vs : List Value), flatL ds = true → VL I w ds loc vs → VL I2 w2 ds loc2 vs
  | [], vs, _, h => by simpa only [VL] using h
  | d :: r, vs, hf, h => by
    simp only [flatL, Bool.and_eq_true] at hf
    simp only [VL] at h ⊢
    obtain ⟨v, vr, rfl, h1, h2⟩ := h
    exact ⟨v, vr, rfl, Vfl d v hf.1 h1, VLfl r vr hf.2 h2⟩
end
theorem VC_flat {I2 : Nat → Prop} {ds : List D} {b o : Nat} (hf : flatL ds = true) (h : VC I w ds b o) : VC I2 w ds b o := by
  obtain ⟨vs, h1, h2, h3⟩ := VC_list h
  exact list_VC (VLfl ds vs hf h1) h2 h3
def FlOk (C : Cd T) (fl : Nat → Bool) : Prop := ∀ c, fl c = true → ∀ x, flatL (C.encD c x) = true
theorem SVO_flat {fl : Nat → Bool} (hfl : FlOk C fl) {I2 : Nat → Prop} {c : Nat} {l : List (T c)} {v : Value} (hf : fl c = true) (h : SVO C I w c l v own) : SVO C I2 w c l v own := by
  rcases h with h | ⟨k, o, cap, cells, el, fz, h1, h2, h3, h4, h4', h5, h6, h7, h8⟩
  · exact .inl h
  · refine .inr ⟨k, o, cap, cells, el, fz, h1, h2, h3, h4, h4', h5, h6, h7, ?_⟩
    rw [VR_iff] at h8 ⊢
    intro i row hi
    obtain ⟨q1, q2⟩ := h8 i row hi
    rw [List.getElem?_map, Option.map_eq_some_iff] at hi
    obtain ⟨x, _, rfl⟩ := hi
    exact ⟨q1, VC_flat (hfl c hf x) q2⟩
theorem encC_flat (hC : CdOk C) {fl : Nat → Bool} (hfl : FlOk C fl) {t : VT} (x : t.ty T) (hf : (Fld.v t).flat fl = true) : flatL (denL C (encC C t x)) = true := by
  cases t <;> simp only [Fld.flat, VT.flat] at hf <;> first | (cases hf; done) | rfl | skip
  rename_i c
  show flatL (denL C (C.enc c x)) = true
  exact (congrArg (fun q => flatL q = true) (hC.enc c x)).mpr (hfl c hf x)
theorem encV_flat (hC : CdOk C) {fl : Nat → Bool} (hfl : FlOk C fl) {t : VT} (x : t.ty T) (hf : (Fld.v t).flat fl = true) : (den C (encV C t x)).flat = true := by
  have := encC_flat hC hfl x hf
  cases t <;> simp only [Fld.flat, VT.flat] at hf <;> first | (cases hf; done) | rfl | skip
  exact this
theorem SVV_flat (hC : CdOk C) {fl : Nat → Bool} (hfl : FlOk C fl) {I2 : Nat → Prop} {f : Fld} {x : f.ty T} {v : Value} (hf : f.flat fl = true) (h : SVV C I w f x v own) : SVV C I2 w f x v own := by
  cases f with
  | v t => exact Vfl _ v (encV_flat hC hfl x hf) h
  | own c => exact SVO_flat hfl hf h
  | pt t =>
    obtain ⟨cs, h1, h2⟩ := h
    refine ⟨cs, h1, VLfl _ cs (encC_flat hC hfl x ?_) h2⟩
    cases t <;> exact hf
  | st a c b => cases hf
  | fp f t => cases hf
theorem SVVs_flat (hC : CdOk C) {fl : Nat → Bool} (hfl : FlOk C fl) {I2 : Nat → Prop} : ∀ {fs : List Fld} {x : tyFs T fs} {vs : List Value} {own : Nat → Prop}, fs.all (Fld.flat fl) = true → SVVs C I w fs x vs own → SVVs C I2 w fs x vs own
  | [], x, vs, own, hf, h => h
  | f :: r, x, vs, own, hf, h => by
    simp only [List.all_cons, Bool.and_eq_true] at hf
    obtain ⟨v, vr, o1, o2, h1, h2, h3, h4⟩ := h
    exact ⟨v, vr, o1, o2, h1, SVV_flat hC hfl hf.1 h2, SVVs_flat hC hfl hf.2 h3, h4⟩

/-! ### looked at only -/
theorem snap_val (hC : CdOk C) (hm : MRel O I loc (denM C m) w) (hw : WfM L m) {t : VT} {d : DT T} {v : Value} {K : List (DT T) → Option R} {r : R} (hwf : WfD L d) (hv : V I w (den C d) loc v) (ha : d.as (.v t) = true) (h : mapK (purK C m true 8) d.cells K = some r) :
    ∃ cs, (∀ x, decC C t cs = some x → V (fun k => k < w.heap.size) w (den C (encV C t x)) free v) ∧ K cs = some r := by
  rw [purL_law, Option.bind_eq_some_iff] at h
  obtain ⟨cs, h1, h2⟩ := h
  have hc := fit_cells (as_fit ha) hv
  have h3 := mapK_some (purK C m true 8) (fun d => purK C m true 8 d some) (fun x K => purK_law C m true 8 x K) d.cells cs h1
  have hw2 := WfD_cells hwf
  have := mapM_VL (J := fun k => k < w.heap.size) (loc' := free) d.cells cs _ h3 hc (fun q q' u hq hp hu => purK_ok hC hm hw hm.imm true 8 q q' u (.inl fun _ h => h) hp (WfL_iff.1 hw2 q hq) hu)
  exact ⟨cs, fun x hx => V_as ha hv (decC_ok hC t cs x hx _ w _ this.1), h2⟩

theorem look_ok (hC : CdOk C) (hm : MRel O I loc (denM C m) w) (hw : WfM L m) : ∀ (ss : List Slot) {ds : List (DT T)} {vs : List Value} {K : tySs T ss → Option R} {r : R}, WfL L ds → VL I w (denL C ds) loc vs → decVsK C m ss ds K = some r →
    ∃ x, SVSs C (fun k => k < w.heap.size) w ss x vs none' ∧ K x = some r
  | [], ds, vs, K, r, hwf, hv, h => by
    simp only [decVsK] at h
    split at h
    · simp only [denL, VL] at hv
      exact ⟨(), hv, h⟩
    · cases h
  | .f (.v t) :: ss, [], vs, K, r, hwf, hv, h => by simp [decVsK] at h
  | .f (.v t) :: ss, d :: ds, vs, K, r, hwf, hv, h => by
    simp only [decVsK] at h
    split at h
    case h_2 => cases h
    rename_i ha
    simp only [denL, VL] at hv
    obtain ⟨v, vr, rfl, hv1, hv2⟩ := hv
    obtain ⟨cs, h1, h2⟩ := snap_val hC hm hw hwf.1 hv1 ha h
    split at h2
    case h_2 => cases h2
    rename_i x hx
    obtain ⟨y, g1, g2⟩ := look_ok hC hm hw ss hwf.2 hv2 h2
    exact ⟨(x, y), ⟨v, vr, none', none', rfl, h1 x hx, g1, fun _ h => h.elim, fun _ h => h.elim, fun _ h => h.elim⟩, g2⟩
  | .f (.own c) :: ss, ds, vs, K, r, hwf, hv, h => by simp [decVsK] at h
  | .f (.pt c) :: ss, ds, vs, K, r, hwf, hv, h => by simp [decVsK] at h
  | .f (.st _ _ _) :: ss, ds, vs, K, r, hwf, hv, h => by simp [decVsK] at h
  | .f (.fp _ _) :: ss, ds, vs, K, r, hwf, hv, h => by simp [decVsK] at h
  | .ptr fs :: ss, ds, vs, K, r, hwf, hv, h => by simp [decVsK] at h
  | .inp c :: ss, ds, vs, K, r, hwf, hv, h => by simp [decVsK] at h
  | .iter :: ss, ds, vs, K, r, hwf, hv, h => by simp [decVsK] at h

theorem Fr_fresh (h : Fr (fun k => none' k ∨ w.heap.size ≤ k) w w') : Fr none' w w' :=
  ⟨h.os, h.tape, h.output, h.size, fun b hb _ => h.block b hb (fun q => q.elim (fun q => q.elim) (fun q => by omega))⟩

/-- the world has changed only where the memory has nothing. -/
theorem MRel.stepO {M : Mem} (hm : MRel O I loc M w) (hf : Fr (fun k => own k ∨ w.heap.size ≤ k) w w') (hr : ∀ b, rowSize w b ≤ rowSize w' b) (hI : ∀ k, I k → I' k) (hI2 : ∀ k, I' k → I k ∨ own k ∨ w.heap.size ≤ k) (hI3 : ∀ k, I' k → k < w'.heap.size)
    (h1 : ∀ k, own k → ¬ I k) (h2 : ∀ b g k, b < M.nb → (M.bx b).owned = true → loc b g = .blk k → ¬ own k) : MRel O I' loc M w' ∧ Ext I I' w w' := by
  have hsame : ∀ k, k < w.heap.size → ¬ own k → w'.heap[k]? = w.heap[k]? := fun k hk ho => hf.block k hk (fun q => q.elim ho (fun q => by omega))
  have he : Ext I I' w w' := ⟨hI, fun k hk => hsame k (hm.imm k hk) (fun q => h1 k q hk), hr⟩
  refine ⟨⟨fun b hb => RelB_mono he (.refl _) (fun _ => rfl) (fun ho g k hk => hsame k (hm.own b g k hb ho hk).2.2 (h2 b g k hb ho hk)) (hm.box b hb), hm.free, fun b g k hb ho hk => ?_, hm.inj, hI3, fun k hk => hm.up k (Nat.le_trans hf.size hk)⟩, he⟩
  have := hm.own b g k hb ho hk
  refine ⟨this.1, fun q => ?_, Nat.lt_of_lt_of_le this.2.2 hf.size⟩
  rcases hI2 k q with q | q | q
  · exact this.2.1 q
  · exact h2 b g k hb ho hk q
  · omega

/-! ### arguments -/
def LentP (m : MT T) (loc : Nat → Nat → Loc) (b : Nat) (v : Value) : Prop := b < m.length ∧ m.get b = .lent ∧ ∃ k, v = .pointer (some ⟨k, 0, none⟩) ∧ loc b 0 = .blk k ∧ ∀ g, g ≠ 0 → loc b g = .free
def LentA (m0 m : MT T) (loc : Nat → Nat → Loc) (L : Nat → Nat → Nat) (b c : Nat) (v : Value) : Prop :=
  b < m.length ∧ m.get b = .lent ∧ ∃ g l0, m0.get b = .arr g c l0 ∧ (∀ g', g' < g → loc b g' = .stale) ∧ (∀ g', g < g' → loc b g' = .free) ∧ ∃ a n cap, v = .slice a n cap ∧ L b g = n ∧ ((loc b g = .nil ∧ a = none) ∨ ∃ k o, loc b g = .blk k ∧ a = some ⟨k, o, none⟩)
def Lent (m0 m : MT T) (loc : Nat → Nat → Loc) (L : Nat → Nat → Nat) : List Slot → List Nat → List Value → Prop
  | [], ids, _ => ids = []
  | .ptr _ :: r, ids, vs => ∃ b ir v vr, ids = b :: ir ∧ vs = v :: vr ∧ LentP m loc b v ∧ (∀ b' ∈ ir, b' ≠ b) ∧ Lent m0 m loc L r ir vr
  | .inp c :: r, ids, vs => ∃ b ir v vr, ids = b :: ir ∧ vs = v :: vr ∧ LentA m0 m loc L b c v ∧ (∀ b' ∈ ir, b' ≠ b) ∧ Lent m0 m loc L r ir vr
  | .f _ :: r, ids, vs => ∃ v vr, vs = v :: vr ∧ Lent m0 m loc L r ids vr
  | .iter :: r, ids, vs => ∃ v vr, vs = v :: vr ∧ Lent m0 m loc L r ids vr

/-- a box is lent. -/
theorem Took.lend (hm : MRel O I loc (denM C m) w) (hw : WfM L m) {b : Nat} (hb : b < m.length) (ho : (denB C (m.get b)).owned = true) : Took C O I w loc L m (fun k => ∃ g, loc b g = .blk k) I (m.put b .lent) loc := by
  have hbx : ∀ b', (denM C (m.put b .lent)).bx b' = if b' = b then .lent else (denM C m).bx b' := fun b' => by
    simp only [denM, get_put hb]
    split <;> rfl
  have hnb : (denM C (m.put b .lent)).nb = m.length := by simp [denM, len_put]
  have hne : ∀ {b'}, ((denM C (m.put b .lent)).bx b').owned = true → b' ≠ b ∧ ((denM C m).bx b').owned = true := fun {b'} h => by
    rw [hbx] at h
    by_cases e : b' = b
    · rw [if_pos e] at h; cases h
    · rw [if_neg e] at h; exact ⟨e, h⟩
  refine ⟨⟨fun b' hb' => ?_, fun b' g hb' => ?_, fun b' g k hb' ho' hk => ?_, fun b1 b2 g1 g2 k h1 h2 o1 o2 k1 k2 => ?_, hm.imm, hm.up⟩, WfM_put hb hw trivial, fun _ h => h, fun _ h => .inl h, .refl _, fun k h => ?_, fun k h => ?_, len_put, fun b' h => ⟨?_, fun _ => rfl⟩, fun b' g c l h => ?_⟩
  · rw [hnb] at hb'
    rw [hbx]
    by_cases e : b' = b
    · rw [if_pos e]; trivial
    · rw [if_neg e]; exact hm.box b' hb'
  · rw [hnb] at hb'; exact hm.free b' g hb'
  · rw [hnb] at hb'
    exact hm.own b' g k hb' (hne ho').2 hk
  · rw [hnb] at h1 h2
    exact hm.inj b1 b2 g1 g2 k h1 h2 (hne o1).2 (hne o2).2 k1 k2
  · obtain ⟨g, hg⟩ := h
    exact ⟨(hm.own b g k hb ho hg).2.1, b, g, hb, ho, hg⟩
  · obtain ⟨b', g, q1, q2, q3⟩ := h
    rw [len_put] at q1
    obtain ⟨e, h⟩ := hne (b' := b') q2
    exact ⟨fun ⟨g', hg'⟩ => e (hm.inj b' b g g' k q1 hb h ho q3 hg'), b', g, q1, h, q3⟩
  · rw [get_put hb]
    split
    · rfl
    · exact h
  · rw [get_put hb] at h
    split at h
    · cases h
    · exact h

theorem args_ok (hC : CdOk C) (m0 : MT T) : ∀ (ss : List Slot) {m : MT T} {I : Nat → Prop} {loc : Nat → Nat → Loc} {ds : List (DT T)} {vs : List Value} {K : tySs T ss → List Nat → MT T → Option R} {r : R}, MRel O I loc (denM C m) w → WfM L m → WfL L ds → VL I w (denL C ds) loc vs →
    (∀ b g c l, m.get b = .arr g c l → m0.get b = .arr g c l) → argsK C false ss m ds K = some r →
    ∃ x ids own I' m' loc', Took C O I w loc L m own I' m' loc' ∧ SVSs C I' w ss x vs own ∧ Lent m0 m' loc' L ss ids vs ∧ (∀ b ∈ ids, m.get b ≠ .lent) ∧ K x ids m' = some r
  | [], m, I, loc, ds, vs, K, r, hm, hw, hwf, hv, h0, h => by
    simp only [argsK] at h
    split at h
    · simp only [denL, VL] at hv
      exact ⟨(), [], none', I, m, loc, .refl hm hw, hv, rfl, by simp, h⟩
    · cases h
  | .f (.v t) :: ss, m, I, loc, [], vs, K, r, hm, hw, hwf, hv, h0, h => by simp [argsK] at h
  | .f (.v t) :: ss, m, I, loc, d :: ds, vs, K, r, hm, hw, hwf, hv, h0, h => by
    simp only [argsK] at h
    split at h
    case h_2 => cases h
    rename_i ha
    simp only [denL, VL] at hv
    obtain ⟨v, vr, rfl, hv1, hv2⟩ := hv
    obtain ⟨x, o1, I1, m1, loc1, h1, h2, h3⟩ := dec_val hC hm hw hwf.1 hv1 ha h
    obtain ⟨y, ids, o2, I2, m2, loc2, g1, g2, g3, g4, g5⟩ := args_ok hC m0 ss h1.mem h1.wf hwf.2 (VL_mono (imm_all2 h1.imm0) _ _ _ _ h1.ext hv2) (fun b g c l hb => h0 b g c l (h1.arrs b g c l hb)) h3
    refine ⟨(x, y), ids, _, I2, m2, loc2, h1.trans g1, ⟨v, vr, o1, o2, rfl, SVV.keep (.imm g1.imm0) h2, g2, fun _ h => .inl h, fun _ h => .inr h, h1.disj g1⟩, ⟨v, vr, rfl, g3⟩, fun b hb hl => g4 b hb (h1.lent b hl).1, g5⟩
  | .f (.own c) :: ss, m, I, loc, [], vs, K, r, hm, hw, hwf, hv, h0, h => by simp [argsK] at h
  | .f (.own c) :: ss, m, I, loc, d :: ds, vs, K, r, hm, hw, hwf, hv, h0, h => by
    simp only [argsK] at h
    simp only [denL, VL] at hv
    obtain ⟨v, vr, rfl, hv1, hv2⟩ := hv
    obtain ⟨x, o1, I1, m1, loc1, h1, h2, h3⟩ := dec_own hm hw hwf.1 hv1 h
    obtain ⟨y, ids, o2, I2, m2, loc2, g1, g2, g3, g4, g5⟩ := args_ok hC m0 ss h1.mem h1.wf hwf.2 (VL_mono (imm_all2 h1.imm0) _ _ _ _ h1.ext hv2) (fun b g c l hb => h0 b g c l (h1.arrs b g c l hb)) h3
    exact ⟨(x, y), ids, _, I2, m2, loc2, h1.trans g1, ⟨v, vr, o1, o2, rfl, SVO.keep (.imm g1.imm0) h2, g2, fun _ h => .inl h, fun _ h => .inr h, h1.disj g1⟩, ⟨v, vr, rfl, g3⟩, fun b hb hl => g4 b hb (h1.lent b hl).1, g5⟩
  | .f (.pt c) :: ss, m, I, loc, ds, vs, K, r, hm, hw, hwf, hv, h0, h => by simp [argsK] at h
  | .f (.st _ _ _) :: ss, m, I, loc, ds, vs, K, r, hm, hw, hwf, hv, h0, h => by simp [argsK] at h
  | .f (.fp f t) :: ss, m, I, loc, [], vs, K, r, hm, hw, hwf, hv, h0, h => by simp [argsK] at h
  | .f (.fp f t) :: ss, m, I, loc, d :: ds, vs, K, r, hm, hw, hwf, hv, h0, h => by
    simp only [argsK] at h
    split at h
    case h_2 => cases h
    rename_i ha
    simp only [denL, VL] at hv
    obtain ⟨v, vr, rfl, hv1, hv2⟩ := hv
    obtain ⟨x, o1, I1, m1, loc1, h1, h2, h3⟩ := dec_val hC hm hw hwf.1 hv1 ha h
    obtain ⟨y, ids, o2, I2, m2, loc2, g1, g2, g3, g4, g5⟩ := args_ok hC m0 ss h1.mem h1.wf hwf.2 (VL_mono (imm_all2 h1.imm0) _ _ _ _ h1.ext hv2) (fun b g c l hb => h0 b g c l (h1.arrs b g c l hb)) h3
    exact ⟨(x, y), ids, _, I2, m2, loc2, h1.trans g1, ⟨v, vr, o1, o2, rfl, SVV.keep (.imm g1.imm0) h2, g2, fun _ h => .inl h, fun _ h => .inr h, h1.disj g1⟩, ⟨v, vr, rfl, g3⟩, fun b hb hl => g4 b hb (h1.lent b hl).1, g5⟩
  | .ptr fs :: ss, m, I, loc, [], vs, K, r, hm, hw, hwf, hv, h0, h => by simp [argsK] at h
  | .ptr fs :: ss, m, I, loc, d :: ds, vs, K, r, hm, hw, hwf, hv, h0, h => by
    simp only [argsK] at h
    split at h
    case h_2 => cases h
    rename_i b
    split at h
    case h_2 => cases h
    rename_i cells hb
    simp only [denL, VL] at hv
    obtain ⟨v, vr, rfl, hv1, hv2⟩ := hv
    obtain ⟨hlt, us, q1, q2⟩ := var_at hm hb hv1
    have hr := box_at hm hlt
    rw [hb] at hr
    simp only [denB, RelB] at hr
    obtain ⟨hfr, kk, _, _, _, hk0, _⟩ := hr
    have tk := Took.lend hm hw hlt (by rw [hb]; rfl)
    have hwb := hw b
    rw [hb] at hwb
    obtain ⟨x, o2, I1, m1, loc1, h1, h2, h3⟩ := dec_fs hC fs tk.mem tk.wf hwb q2 h
    have t1 := tk.trans h1
    obtain ⟨y, ids, o3, I2, m2, loc2, g1, g2, g3, g4, g5⟩ := args_ok hC m0 ss t1.mem t1.wf hwf.2 (VL_mono (imm_all2 t1.imm0) _ _ _ _ t1.ext hv2) (fun b g c l hb => h0 b g c l (t1.arrs b g c l hb)) h3
    have hl0 : (m.put b .lent).get b = .lent := by rw [get_put hlt, if_pos rfl]
    have hl1 := h1.lent b hl0
    have hl2 := g1.lent b hl1.1
    have hv0 : v = .pointer (some ⟨kk, 0, none⟩) := by
      have := hv1
      simp only [den, V, hk0] at this
      exact this
    refine ⟨(x, y), b :: ids, _, I2, m2, loc2, t1.trans g1, ⟨v, vr, _, o3, rfl, ⟨us, _, o2, q1, h2.keep (.imm g1.imm0), fun _ h => .inl h, fun _ h => .inr h, tk.disj h1⟩, g2, fun _ h => .inl h, fun _ h => .inr h, t1.disj g1⟩,
      ⟨b, ids, v, vr, rfl, rfl, ⟨by rw [g1.len, t1.len]; exact hlt, hl2.1, kk, hv0, by rw [hl2.2, hl1.2]; exact hk0, fun g hg => by rw [hl2.2, hl1.2]; exact hfr g hg⟩, fun b' hb' e => g4 b' hb' (by rw [e]; exact hl1.1), g3⟩, fun b' hb' hl => ?_, g5⟩
    rcases List.mem_cons.1 hb' with e | e
    · rw [e, hb] at hl; cases hl
    · exact g4 b' e (t1.lent b' hl).1
  | .inp c :: ss, m, I, loc, [], vs, K, r, hm, hw, hwf, hv, h0, h => by simp [argsK] at h
  | .inp c :: ss, m, I, loc, d :: ds, vs, K, r, hm, hw, hwf, hv, h0, h => by
    simp only [argsK] at h
    split at h
    case h_2 => cases h
    rename_i b g c' n
    split at h
    case h_2 => cases h
    rename_i hc
    have hc := Nat.eq_of_beq_eq_true hc
    subst hc
    split at h
    case h_2 => cases h
    rename_i l hl
    have hb := boxA_some hl
    simp only [denL, VL] at hv
    obtain ⟨v, vr, rfl, hv1, hv2⟩ := hv
    have hlt : b < m.length := by
      simp only [den, V] at hv1
      exact lt_len (C := C) (g := g) hm (by intro e; simp [e] at hv1)
    have hr := box_at hm hlt
    rw [hb] at hr
    simp only [denB, RelB] at hr
    have hwb := hw b
    rw [hb] at hwb
    simp only [WfB] at hwb
    have hwn := hwf.1
    simp only [WfD] at hwn
    have hn : n = l.length := by rw [← hwn, hwb]
    have tk := Took.lend hm hw hlt (by rw [hb]; rfl)
    obtain ⟨y, ids, o3, I2, m2, loc2, g1, g2, g3, g4, g5⟩ := args_ok hC m0 ss tk.mem tk.wf hwf.2 hv2 (fun b g c l hb => h0 b g c l (tk.arrs b g c l hb)) h
    have hl0 : (m.put b .lent).get b = .lent := by rw [get_put hlt, if_pos rfl]
    have hl2 := g1.lent b hl0
    have hsv : SVO C I w c' l v (fun k => ∃ g, loc b g = .blk k) ∧ ∃ a cap, v = .slice a n cap ∧ ((loc b g = .nil ∧ a = none) ∨ ∃ k o, loc b g = .blk k ∧ a = some ⟨k, o, none⟩) := by
      simp only [den, V] at hv1
      rcases hr.2 with ⟨h1, h2⟩ | ⟨k, cells, el, fz, h1, h2, h3, h4, h5⟩
      · simp only [h1] at hv1
        obtain ⟨_, q2, q3⟩ := hv1
        subst q2
        exact ⟨.inl ⟨by simpa using h2, q3⟩, none, 0, q3, .inl ⟨h1, rfl⟩⟩
      · simp only [h1] at hv1
        obtain ⟨o, cap, rfl, q1, q2, q3⟩ := hv1
        exact ⟨.inr ⟨k, o, cap, cells, el, fz, by rw [hn], by rw [← hn]; exact q1, by simpa using q2, by simpa [rowSize, h2] using q3, by simpa using h4, h2, h3, ⟨g, h1⟩, h5⟩, _, cap, rfl, .inr ⟨k, o, h1, rfl⟩⟩
    obtain ⟨hs1, a, cap, hs2, hs3⟩ := hsv
    refine ⟨(l, y), b :: ids, _, I2, m2, loc2, tk.trans g1, ⟨v, vr, _, o3, rfl, SVO.keep (.imm g1.imm0) hs1, g2, fun _ h => .inl h, fun _ h => .inr h, tk.disj g1⟩,
      ⟨b, ids, v, vr, rfl, rfl, ⟨by rw [g1.len, tk.len]; exact hlt, hl2.1, g, l, h0 b g _ l hb, fun g' hg => by rw [hl2.2]; exact hr.1.1 g' hg, fun g' hg => by rw [hl2.2]; exact hr.1.2 g' hg, a, n, cap, hs2, hwn, ?_⟩, fun b' hb' e => g4 b' hb' (by rw [e]; exact hl0), g3⟩, fun b' hb' hl => ?_, g5⟩
    · rw [hl2.2]; exact hs3
    · rcases List.mem_cons.1 hb' with e | e
      · rw [e, hb] at hl; cases hl
      · exact g4 b' e (tk.lent b' hl).1
  | .iter :: ss, m, I, loc, ds, vs, K, r, hm, hw, hwf, hv, h0, h => by simp [argsK] at h
end
end Go.Abs

/- Places of a state: taken out of a memory, and laid into one. No condition. -/
import Derived.Test.YtlinfghjilpcdaaTyN
namespace Go.Abs
open Go
set_option linter.unusedSimpArgs false

section
variable {T : Nat → Type} {C : Cd T} {O I I' : Nat → Prop} {w w' : World} {loc : Nat → Nat → Loc} {L : Nat → Nat → Nat} {m : MT T} {R : Type} {own own' : Nat → Prop}

theorem dec_fr (hC : CdOk C) (hm : MRel O I loc (denM C m) w) (hw : WfM L m) {cs : List (DT T)} {vs : List Value} {K : List (DT T) → MT T → Option R} {r : R} (hwf : WfL L cs) (hv : VL I w (denL C cs) loc vs) (h : frK C m cs K = some r) :
    ∃ cs' I' m', Took C O I w loc L m none' I' m' loc ∧ VL I' w (denL C cs') free vs ∧ cleanL cs' = true ∧ K cs' m' = some r := by
  obtain ⟨cs', m', I', g1, g2, g3, g4, g5, g6, g7, g8, h⟩ := frK_ok hC hm hw hwf hv h
  exact ⟨cs', I', m', Took.fz g1 g2 g3 g4 g7 g8, g5, g6, h⟩
theorem dec_v (hC : CdOk C) (hm : MRel O I loc (denM C m) w) (hw : WfM L m) {t : VT} {cs : List (DT T)} {vs : List Value} {K : t.ty T → MT T → Option R} {r : R} (hwf : WfL L cs) (hv : VL I w (denL C cs) loc vs) (h : decVK C m t cs K = some r) :
    ∃ x I' m', Took C O I w loc L m none' I' m' loc ∧ VL I' w (denL C (encC C t x)) free vs ∧ K x m' = some r := by
  unfold decVK at h
  obtain ⟨cs', I', m', h1, h2, h3, h4⟩ := dec_fr hC hm hw hwf hv h
  split at h4
  · rename_i x hx
    exact ⟨x, I', m', h1, decC_ok hC t cs' x hx I' w vs h2, h4⟩
  · cases h4

theorem var_at (hm : MRel O I loc (denM C m) w) {b : Nat} {cs : List (DT T)} {v : Value} (hb : m.get b = .var cs) (hv : V I w (den C (.bp b 0 : DT T)) loc v) :
    b < m.length ∧ ∃ vs, SVP w vs v (fun k => ∃ g, loc b g = .blk k) ∧ VL I w (denL C cs) loc vs := by
  simp only [den, V] at hv
  have hlt : b < m.length := lt_len (C := C) (g := 0) hm (by intro e; simp [e] at hv)
  have hr := box_at hm hlt
  rw [hb] at hr
  simp only [denB, RelB] at hr
  obtain ⟨_, k, cells, el, fz, h1, h2, h3, h4, h5⟩ := hr
  simp only [h1] at hv
  exact ⟨hlt, cells.toList, ⟨k, cells, el, fz, hv, h2, h3, h4, ⟨0, h1⟩, rfl⟩, h5⟩

theorem dec_f (hC : CdOk C) (hm : MRel O I loc (denM C m) w) (hw : WfM L m) {f : Fld} {cs : List (DT T)} {vs : List Value} {K : f.ty T → MT T → Option R} {r : R} (hwf : WfL L cs) (hv : VL I w (denL C cs) loc vs) (h : decFK C m f cs K = some r) :
    ∃ x own I' m' loc', Took C O I w loc L m own I' m' loc' ∧ SVF C I' w f x vs own ∧ K x m' = some r := by
  cases f with
  | v t =>
    obtain ⟨x, I', m', h1, h2, h3⟩ := dec_v hC hm hw hwf hv h
    exact ⟨x, none', I', m', loc, h1, h2, h3⟩
  | own c =>
    simp only [decFK] at h
    split at h
    case h_2 => cases h
    rename_i d
    simp only [denL, VL] at hv
    obtain ⟨v, vr, rfl, hv1, rfl⟩ := hv
    obtain ⟨l, own, I', m', loc', h1, h2, h3⟩ := dec_own hm hw hwf.1 hv1 h
    exact ⟨l, own, I', m', loc', h1, ⟨v, rfl, h2⟩, h3⟩
  | pt t =>
    simp only [decFK] at h
    split at h
    case h_2 => cases h
    rename_i b
    split at h
    case h_2 => cases h
    rename_i cells hb
    simp only [denL, VL] at hv
    obtain ⟨v, vr, rfl, hv1, rfl⟩ := hv
    obtain ⟨hlt, us, q1, q2⟩ := var_at hm hb hv1
    have tk := Took.box hm hw hlt (by rw [hb]; rfl)
    have hwb := hw b
    rw [hb] at hwb
    obtain ⟨x, I', m', h1, h2, h3⟩ := dec_v hC tk.mem tk.wf hwb (VL_mono (imm_all2 tk.imm0) _ _ _ _ tk.ext q2) h
    refine ⟨x, _, I', m', _, tk.trans h1, ⟨v, us, rfl, ?_, h2⟩, h3⟩
    obtain ⟨k, c2, el, fz, p1, p2, p3, p4, p5, p6⟩ := q1
    exact ⟨k, c2, el, fz, p1, p2, p3, p4, .inl p5, p6⟩
  | st a c b =>
    simp only [decFK, decStK] at h
    split at h
    case h_2 => cases h
    rename_i d rest hd
    have hv1 : VL I w (denL C (cs.take (a.sz C))) loc (vs.take (a.sz C)) := by rw [denL_take]; exact VL_take _ hv
    have hv2 : VL I w (denL C (cs.drop (a.sz C))) loc (vs.drop (a.sz C)) := by rw [denL_drop]; exact VL_drop _ hv
    have hw2 := WfL_drop (a.sz C) hwf
    rw [hd] at hv2 hw2
    simp only [denL, VL] at hv2
    obtain ⟨v, z, hz, hv3, hv4⟩ := hv2
    obtain ⟨x, I1, m1, t1, s1, k1⟩ := dec_v hC hm hw (WfL_take _ hwf) hv1 h
    obtain ⟨l, o2, I2, m2, loc2, t2, s2, k2⟩ := dec_own t1.mem t1.wf hw2.1 (V_mono (imm_all2 t1.imm0) _ _ _ _ t1.ext hv3) k1
    obtain ⟨y, I3, m3, t3, s3, k3⟩ := dec_v hC t2.mem t2.wf hw2.2 (VL_mono (imm_all2 t2.imm0) _ _ _ _ t2.ext (VL_mono (imm_all2 t1.imm0) _ _ _ _ t1.ext hv4)) k2
    refine ⟨(x, l, y), _, I3, m3, _, (t1.trans t2).trans t3, ⟨vs.take (a.sz C), v, z, ?_, ?_, ?_, s3⟩, k3⟩
    · rw [← hz]; exact (List.take_append_drop _ _).symm
    · exact VL_mono (imm_all2 t3.imm0) _ free free _ (.refl _) (VL_mono (imm_all2 t2.imm0) _ free free _ (.refl _) s1)
    · have := SVO.keep (own := o2) (Keep.imm t3.imm0) s2
      exact SVO_sub this fun k hk => .inl (.inr hk)
  | fp f t =>
    simp only [decFK] at h
    split at h
    case h_2 => cases h
    rename_i f' b
    split at h
    case h_2 => cases h
    rename_i hf
    have hf := Nat.eq_of_beq_eq_true hf
    subst hf
    split at h
    case h_2 => cases h
    rename_i cells hb
    simp only [denL, VL, den, V] at hv
    obtain ⟨v, vr, rfl, ⟨ws, rfl, hws⟩, rfl⟩ := hv
    obtain ⟨p, pr, rfl, hp, rfl⟩ := hws
    obtain ⟨hlt, us, q1, q2⟩ := var_at hm hb (show V I w (den C (.bp b 0)) loc p by simpa only [den, V] using hp)
    have tk := Took.box hm hw hlt (by rw [hb]; rfl)
    have hwb := hw b
    rw [hb] at hwb
    obtain ⟨x, I', m', h1, h2, h3⟩ := dec_v hC tk.mem tk.wf hwb (VL_mono (imm_all2 tk.imm0) _ _ _ _ tk.ext q2) h
    refine ⟨x, _, I', m', _, tk.trans h1, ⟨p, us, rfl, ?_, h2⟩, h3⟩
    obtain ⟨k, c2, el, fz, p1, p2, p3, p4, p5, p6⟩ := q1
    exact ⟨k, c2, el, fz, p1, p2, p3, p4, .inl p5, p6⟩

theorem dec_fs (hC : CdOk C) : ∀ (fs : List Fld) {m : MT T} {I : Nat → Prop} {loc : Nat → Nat → Loc} {cs : List (DT T)} {vs : List Value} {K : tyFs T fs → MT T → Option R} {r : R}, MRel O I loc (denM C m) w → WfM L m → WfL L cs → VL I w (denL C cs) loc vs → decFsK C fs m cs K = some r →
    ∃ x own I' m' loc', Took C O I w loc L m own I' m' loc' ∧ SVFs C I' w fs x vs own ∧ K x m' = some r
  | [], m, I, loc, cs, vs, K, r, hm, hw, hwf, hv, h => by
    simp only [decFsK] at h
    split at h
    · simp only [denL, VL] at hv
      exact ⟨(), none', I, m, loc, .refl hm hw, hv, h⟩
    · cases h
  | f :: fs, m, I, loc, cs, vs, K, r, hm, hw, hwf, hv, h => by
    simp only [decFsK] at h
    have hv1 : VL I w (denL C (cs.take (f.sz C))) loc (vs.take (f.sz C)) := by rw [denL_take]; exact VL_take _ hv
    have hv2 : VL I w (denL C (cs.drop (f.sz C))) loc (vs.drop (f.sz C)) := by rw [denL_drop]; exact VL_drop _ hv
    obtain ⟨x, o1, I1, m1, loc1, h1, h2, h3⟩ := dec_f hC hm hw (WfL_take _ hwf) hv1 h
    obtain ⟨y, o2, I2, m2, loc2, g1, g2, g3⟩ := dec_fs hC fs h1.mem h1.wf (WfL_drop _ hwf) (VL_mono (imm_all2 h1.imm0) _ _ _ _ h1.ext hv2) h3
    refine ⟨(x, y), _, I2, m2, loc2, h1.trans g1, ⟨_, _, o1, o2, (List.take_append_drop _ _).symm, h2.keep (.imm g1.imm0), g2, fun _ h => .inl h, fun _ h => .inr h, h1.disj g1⟩, g3⟩

/-- a value out of its cells. -/
theorem V_of_cells {I2 : Nat → Prop} {t : VT} {x : t.ty T} {d : DT T} {v : Value} (hf : d.fit = true) (hv : V I w (den C d) loc v) (hc : VL I2 w (denL C (encC C t x)) free v.cells.toList) (ha : (∃ c, t = .agg c) ↔ ∃ cs, d = .agg cs) (hl : (encC C t x).length = d.cells.length) : V I2 w (den C (encV C t x)) free v := by
  by_cases hq : ∃ cs, d = .agg cs
  · obtain ⟨c, rfl⟩ := ha.2 hq
    obtain ⟨cs, rfl⟩ := hq
    simp only [den, V] at hv
    obtain ⟨vs, rfl, h1, _⟩ := hv
    show V I2 w (.agg (denL C (C.enc c x))) free _
    simp only [V]
    exact ⟨vs, rfl, h1, by simpa [Value.cells, encC] using hc⟩
  · have hn : ∀ l, den C d ≠ .agg l := by
      intro l e
      cases d <;> simp [den] at e
      exact hq ⟨_, rfl⟩
    have hone := one_cells hv (den_fit C d hf) hn
    rw [hone] at hc
    have hdc : d.cells = [d] := by
      cases d <;> first | rfl | exact absurd ⟨_, rfl⟩ hq
    rw [hdc] at hl
    have hna : ∀ c, t ≠ .agg c := fun c e => hq (ha.1 ⟨c, e⟩)
    have he : encV C t x = (encC C t x).headD .dead := by
      cases t <;> first | rfl | exact absurd rfl (hna _)
    rw [he]
    match hz : encC C t x, hl with
    | [e], _ =>
      rw [hz] at hc
      simp only [denL, VL, List.headD_cons] at hc ⊢
      obtain ⟨v', vr, q, h1, h2⟩ := hc
      simp only [List.cons.injEq] at q
      rw [q.1]; exact h1

theorem as_fit {d : DT T} {f : Fld} (h : d.as f = true) : d.fit = true := by
  unfold DT.as at h
  split at h <;> simp_all
theorem as_agg {d : DT T} {t : VT} (h : d.as (.v t) = true) : (∃ c, t = .agg c) ↔ ∃ cs, d = .agg cs := by
  simp only [DT.as, Bool.and_eq_true, beq_iff_eq] at h
  have h2 := h.2
  constructor
  · rintro ⟨c, rfl⟩
    simp only [VT.isAgg] at h2
    cases d <;> simp [DT.isAgg] at h2
    exact ⟨_, rfl⟩
  · rintro ⟨cs, rfl⟩
    simp only [DT.isAgg] at h2
    cases t <;> simp [VT.isAgg] at h2
    exact ⟨_, rfl⟩
def Fld.isOne : Fld → Bool
  | .own _ => true
  | .pt _ => true
  | _ => false
theorem as_one {d : DT T} {f : Fld} (h : d.as f = true) (hf : f.isOne = true) : d.cells = [d] := by
  cases f with
  | v t => cases hf
  | own c => simp only [DT.as, Bool.and_eq_true] at h; cases d <;> first | rfl | simp [DT.isAgg] at h
  | pt t => simp only [DT.as, Bool.and_eq_true] at h; cases d <;> first | rfl | simp [DT.isAgg] at h
  | st a c b => cases hf
  | fp f t => cases hf

theorem V_as {I2 : Nat → Prop} {t : VT} {x : t.ty T} {d : DT T} {v : Value} (hf : d.as (.v t) = true) (hv : V I w (den C d) loc v) (hc : VL I2 w (denL C (encC C t x)) free v.cells.toList) : V I2 w (den C (encV C t x)) free v := by
  refine V_of_cells (as_fit hf) hv hc (as_agg hf) ?_
  have h1 := VL_length hc
  have h2 := VL_length (fit_cells (as_fit hf) hv)
  rw [denL_length] at h1 h2
  omega

theorem dec_val (hC : CdOk C) (hm : MRel O I loc (denM C m) w) (hw : WfM L m) {f : Fld} {d : DT T} {v : Value} {K : f.ty T → MT T → Option R} {r : R} (hwf : WfD L d) (hv : V I w (den C d) loc v) (ha : d.as f = true) (h : decFK C m f d.cells K = some r) :
    ∃ x own I' m' loc', Took C O I w loc L m own I' m' loc' ∧ SVV C I' w f x v own ∧ K x m' = some r := by
  have hc := fit_cells (as_fit ha) hv
  obtain ⟨x, own, I', m', loc', h1, h2, h3⟩ := dec_f hC hm hw (WfD_cells hwf) hc h
  refine ⟨x, own, I', m', loc', h1, ?_, h3⟩
  cases f with
  | v t => exact V_as ha hv h2
  | own c =>
    obtain ⟨v', q1, q2⟩ := h2
    have hone : v.cells = #[v] := by
      refine one_cells hv (den_fit C d (as_fit ha)) fun l e => ?_
      have := as_one ha rfl
      cases d <;> simp [den] at e
      simp only [DT.as, DT.isAgg] at ha; simp at ha
    rw [hone] at q1
    simp only [List.cons.injEq, and_true] at q1
    rw [q1]; exact q2
  | pt t =>
    obtain ⟨v', cs, q1, q2, q3⟩ := h2
    have hone : v.cells = #[v] := by
      refine one_cells hv (den_fit C d (as_fit ha)) fun l e => ?_
      cases d <;> simp [den] at e
      simp only [DT.as, DT.isAgg] at ha; simp at ha
    rw [hone] at q1
    simp only [List.cons.injEq, and_true] at q1
    rw [q1]; exact ⟨cs, q2, q3⟩
  | st a c b =>
    simp only [DT.as, Bool.and_eq_true] at ha
    cases d <;> simp [DT.isAgg] at ha
    rename_i cs
    simp only [den, V] at hv
    obtain ⟨vs, rfl, g1, _⟩ := hv
    obtain ⟨u, v, z, q1, q2⟩ := h2
    exact ⟨vs, rfl, g1, u, v, z, by simpa [Value.cells] using q1, q2⟩
  | fp f t =>
    obtain ⟨v', cs, q1, q2, q3⟩ := h2
    have hone : v.cells = #[v] := by
      refine one_cells hv (den_fit C d (as_fit ha)) fun l e => ?_
      cases d <;> simp [den] at e
      simp only [DT.as, DT.isAgg] at ha; simp at ha
    rw [hone] at q1
    simp only [List.cons.injEq, and_true] at q1
    exact ⟨v', cs, q1, q2, q3⟩

theorem dec_s (hC : CdOk C) (hm : MRel O I loc (denM C m) w) (hw : WfM L m) {s : Slot} {d : DT T} {v : Value} {K : s.ty T → MT T → Option R} {r : R} (hwf : WfD L d) (hv : V I w (den C d) loc v) (h : decSK C m s d K = some r) :
    ∃ x own I' m' loc', Took C O I w loc L m own I' m' loc' ∧ SVS C I' w s x v own ∧ K x m' = some r := by
  cases s with
  | f f =>
    simp only [decSK] at h
    split at h
    case h_2 => cases h
    rename_i ha
    exact dec_val hC hm hw hwf hv ha h
  | ptr fs =>
    simp only [decSK] at h
    split at h
    case h_2 => cases h
    rename_i b
    split at h
    case h_2 => cases h
    rename_i cells hb
    obtain ⟨hlt, us, q1, q2⟩ := var_at hm hb hv
    have tk := Took.box hm hw hlt (by rw [hb]; rfl)
    have hwb := hw b
    rw [hb] at hwb
    obtain ⟨x, o2, I', m', loc', h1, h2, h3⟩ := dec_fs hC fs tk.mem tk.wf hwb (VL_mono (imm_all2 tk.imm0) _ _ _ _ tk.ext q2) h
    exact ⟨x, _, I', m', loc', tk.trans h1, ⟨us, _, o2, q1, h2, fun _ h => .inl h, fun _ h => .inr h, tk.disj h1⟩, h3⟩
  | inp c => exact dec_own hm hw hwf hv h
  | iter =>
    simp only [decSK] at h
    split at h
    case h_2 => cases h
    rename_i b
    split at h
    case h_2 => cases h
    rename_i l p hb
    simp only [den, V] at hv
    have hlt : b < m.length := lt_len (C := C) (g := 0) hm (by intro e; simp [e] at hv)
    have hr := box_at hm hlt
    rw [hb] at hr
    simp only [denB, RelB] at hr
    obtain ⟨_, k, h1, h2⟩ := hr
    simp only [h1] at hv
    exact ⟨(l, p), _, I, _, _, Took.box hm hw hlt (by rw [hb]; rfl), ⟨k, hv, h2, ⟨0, h1⟩⟩, h⟩

theorem dec_ss (hC : CdOk C) : ∀ (ss : List Slot) {m : MT T} {I : Nat → Prop} {loc : Nat → Nat → Loc} {ds : List (DT T)} {vs : List Value} {K : tySs T ss → MT T → Option R} {r : R}, MRel O I loc (denM C m) w → WfM L m → WfL L ds → VL I w (denL C ds) loc vs → decSsK C ss m ds K = some r →
    ∃ x own I' m' loc', Took C O I w loc L m own I' m' loc' ∧ SVSs C I' w ss x vs own ∧ K x m' = some r
  | [], m, I, loc, ds, vs, K, r, hm, hw, hwf, hv, h => by
    simp only [decSsK] at h
    split at h
    · simp only [denL, VL] at hv
      exact ⟨(), none', I, m, loc, .refl hm hw, hv, h⟩
    · cases h
  | s :: ss, m, I, loc, [], vs, K, r, hm, hw, hwf, hv, h => by cases h
  | s :: ss, m, I, loc, d :: ds, vs, K, r, hm, hw, hwf, hv, h => by
    simp only [decSsK] at h
    simp only [denL, VL] at hv
    obtain ⟨v, vr, rfl, hv1, hv2⟩ := hv
    obtain ⟨x, o1, I1, m1, loc1, h1, h2, h3⟩ := dec_s hC hm hw hwf.1 hv1 h
    obtain ⟨y, o2, I2, m2, loc2, g1, g2, g3⟩ := dec_ss hC ss h1.mem h1.wf hwf.2 (VL_mono (imm_all2 h1.imm0) _ _ _ _ h1.ext hv2) h3
    exact ⟨(x, y), _, I2, m2, loc2, h1.trans g1, ⟨v, vr, o1, o2, rfl, h2.keep (.imm g1.imm0), g2, fun _ h => .inl h, fun _ h => .inr h, h1.disj g1⟩, g3⟩

theorem dec_fvs (hC : CdOk C) : ∀ (fs : List Fld) {m : MT T} {I : Nat → Prop} {loc : Nat → Nat → Loc} {ds : List (DT T)} {vs : List Value} {K : tyFs T fs → MT T → Option R} {r : R}, MRel O I loc (denM C m) w → WfM L m → WfL L ds → VL I w (denL C ds) loc vs → decFVsK C fs m ds K = some r →
    ∃ x own I' m' loc', Took C O I w loc L m own I' m' loc' ∧ SVVs C I' w fs x vs own ∧ K x m' = some r
  | [], m, I, loc, ds, vs, K, r, hm, hw, hwf, hv, h => by
    simp only [decFVsK] at h
    split at h
    · simp only [denL, VL] at hv
      exact ⟨(), none', I, m, loc, .refl hm hw, hv, h⟩
    · cases h
  | s :: ss, m, I, loc, [], vs, K, r, hm, hw, hwf, hv, h => by cases h
  | s :: ss, m, I, loc, d :: ds, vs, K, r, hm, hw, hwf, hv, h => by
    simp only [decFVsK] at h
    simp only [denL, VL] at hv
    obtain ⟨v, vr, rfl, hv1, hv2⟩ := hv
    split at h
    case h_2 => cases h
    rename_i ha
    obtain ⟨x, o1, I1, m1, loc1, h1, h2, h3⟩ := dec_val hC hm hw hwf.1 hv1 ha h
    obtain ⟨y, o2, I2, m2, loc2, g1, g2, g3⟩ := dec_fvs hC ss h1.mem h1.wf hwf.2 (VL_mono (imm_all2 h1.imm0) _ _ _ _ h1.ext hv2) h3
    exact ⟨(x, y), _, I2, m2, loc2, h1.trans g1, ⟨v, vr, o1, o2, rfl, h2.keep (.imm g1.imm0), g2, fun _ h => .inl h, fun _ h => .inr h, h1.disj g1⟩, g3⟩
end
end Go.Abs

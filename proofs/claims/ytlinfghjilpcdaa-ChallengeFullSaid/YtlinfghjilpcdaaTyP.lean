/- Places of a state laid into a memory. No condition. -/
import Derived.Test.YtlinfghjilpcdaaTyO
namespace Go.Abs
open Go
set_option linter.unusedSimpArgs false

section
variable {T : Nat → Type} {C : Cd T} {O I I' : Nat → Prop} {w w' : World} {loc : Nat → Nat → Loc} {L : Nat → Nat → Nat} {m : MT T} {R : Type} {own own' : Nat → Prop}

structure Put (C : Cd T) (O I : Nat → Prop) (w : World) (loc : Nat → Nat → Loc) (L : Nat → Nat → Nat) (m : MT T) (own : Nat → Prop) (m' : MT T) (loc' : Nat → Nat → Loc) (L' : Nat → Nat → Nat) : Prop where
  mem : MRel O I loc' (denM C m') w
  wf : WfM L' m'
  ext : LocExt loc loc'
  lext : LExt loc L L'
  own : ∀ k, Owned C m' loc' k → Owned C m loc k ∨ own k
  len : m.length ≤ m'.length
  keep : ∀ b, b < m.length → m'.get b = m.get b ∧ ∀ g, loc' b g = loc b g

/-- blocks that may be laid. -/
structure Mine (C : Cd T) (O I : Nat → Prop) (w : World) (loc : Nat → Nat → Loc) (m : MT T) (own : Nat → Prop) : Prop where
  facts : ∀ k, own k → O k ∧ ¬ I k ∧ k < w.heap.size
  apart : ∀ k, own k → ¬ Owned C m loc k
theorem Mine.sub (h : Mine C O I w loc m own) (hs : ∀ k, own' k → own k) : Mine C O I w loc m own' := ⟨fun k hk => h.facts k (hs k hk), fun k hk => h.apart k (hs k hk)⟩
theorem Mine.put {m' : MT T} {loc' : Nat → Nat → Loc} {L' : Nat → Nat → Nat} {o1 o2 : Nat → Prop} (h : Mine C O I w loc m o2) (p : Put C O I w loc L m o1 m' loc' L') (hd : ∀ k, o1 k → ¬ o2 k) : Mine C O I w loc' m' o2 :=
  ⟨h.facts, fun k hk hq => by
    rcases p.own k hq with q | q
    · exact h.apart k hk q
    · exact hd k q hk⟩
theorem Put.refl (hm : MRel O I loc (denM C m) w) (hw : WfM L m) : Put C O I w loc L m none' m loc L := ⟨hm, hw, .refl _, .refl _ _, fun _ h => .inl h, Nat.le_refl _, fun _ _ => ⟨rfl, fun _ => rfl⟩⟩
theorem LocExt.free_of {loc loc' : Nat → Nat → Loc} (h : LocExt loc loc') {b g : Nat} (hf : loc b g ≠ .free) : loc' b g ≠ .free := by
  rcases h b g with q | q | q
  · exact absurd q hf
  · rw [q]; simp
  · rw [q]; exact hf
theorem LExt.trans {L' L'' : Nat → Nat → Nat} {loc' : Nat → Nat → Loc} (h1 : LExt loc L L') (he : LocExt loc loc') (h2 : LExt loc' L' L'') : LExt loc L L'' := fun b g hf => (h2 b g (he.free_of hf)).trans (h1 b g hf)
theorem Put.trans {m1 m2 : MT T} {loc1 loc2 : Nat → Nat → Loc} {L1 L2 : Nat → Nat → Nat} {o1 o2 : Nat → Prop} (a : Put C O I w loc L m o1 m1 loc1 L1) (b : Put C O I w loc1 L1 m1 o2 m2 loc2 L2) : Put C O I w loc L m (fun k => o1 k ∨ o2 k) m2 loc2 L2 :=
  ⟨b.mem, b.wf, a.ext.trans b.ext, a.lext.trans a.ext b.lext, fun k h => by
    rcases b.own k h with q | q
    · rcases a.own k q with q | q
      · exact .inl q
      · exact .inr (.inl q)
    · exact .inr (.inr q), Nat.le_trans a.len b.len, fun q h => ⟨(b.keep q (Nat.lt_of_lt_of_le h a.len)).1.trans (a.keep q h).1, fun g => ((b.keep q (Nat.lt_of_lt_of_le h a.len)).2 g).trans ((a.keep q h).2 g)⟩⟩
theorem Put.sub {m' : MT T} {loc' : Nat → Nat → Loc} {L' : Nat → Nat → Nat} (a : Put C O I w loc L m own' m' loc' L') (h : ∀ k, own' k → own k) : Put C O I w loc L m own m' loc' L' :=
  ⟨a.mem, a.wf, a.ext, a.lext, fun k q => (a.own k q).imp id (h k), a.len, a.keep⟩

/-- one more box. -/
theorem Put.add (hm : MRel O I loc (denM C m) w) (hw : WfM L m) (x : BoxT T) (l : Loc) (n : Nat) (hk : ∀ k, l = .blk k → (denB C x).owned = true → own k) (ho : Mine C O I w loc m own) (hwx : WfB (updL L m.length 0 n) m.length x)
    (hx : RelB I w (locNew loc m.length l) m.length (denB C x)) : Put C O I w loc L m own (m ++ [x]) (locNew loc m.length l) (updL L m.length 0 n) := by
  have hle : LocExt loc (locNew loc m.length l) := locNew_ext hm l
  have hb1 : ∀ b, b ≠ m.length → (denM C (m ++ [x])).bx b = (denM C m).bx b := fun b e => by simp only [denM, get_add, if_neg e]
  have hb2 : (denM C (m ++ [x])).bx m.length = denB C x := by simp only [denM, get_add, if_true]
  have hl1 : ∀ b g, b ≠ m.length → locNew loc m.length l b g = loc b g := fun b g e => by unfold locNew; rw [if_neg e]
  have hl2 : ∀ g k, locNew loc m.length l m.length g = .blk k → l = .blk k := fun g k h => by
    unfold locNew at h
    rw [if_pos rfl] at h
    split at h
    · exact h
    · cases h
  have hnb : (denM C (m ++ [x])).nb = m.length + 1 := by simp [denM]
  have own2 : ∀ b g k, b < m.length + 1 → ((denM C (m ++ [x])).bx b).owned = true → locNew loc m.length l b g = .blk k → (b ≠ m.length ∧ b < m.length ∧ ((denM C m).bx b).owned = true ∧ loc b g = .blk k) ∨ (b = m.length ∧ own k) := fun b g k hb h1 h2 => by
    by_cases e : b = m.length
    · subst e
      rw [hb2] at h1
      exact .inr ⟨rfl, hk k (hl2 g k h2) h1⟩
    · rw [hb1 b e] at h1
      rw [hl1 b g e] at h2
      exact .inl ⟨e, by omega, h1, h2⟩
  refine ⟨⟨fun b hb => ?_, fun b g hb => ?_, fun b g k hb h1 h2 => ?_, fun b b' g g' k hb hb' h1 h1' h2 h2' => ?_, hm.imm, hm.up⟩, WfM_addL hm hw hwx, hle, LExt.upd (hm.free _ _ (Nat.le_refl _)), fun k h => ?_, by simp, fun b hb => ⟨by rw [get_add, if_neg (by omega)], fun g => hl1 b g (by omega)⟩⟩
  · rw [hnb] at hb
    by_cases e : b = m.length
    · subst e; rw [hb2]; exact hx
    · rw [hb1 b e]
      exact RelB_mono (.refl _ _) hle (fun g => hl1 b g e) (fun _ _ _ _ => rfl) (hm.box b (by show b < m.length; omega))
  · rw [hnb] at hb
    rw [hl1 b g (by omega)]
    exact hm.free b g (by show m.length ≤ b; omega)
  · rw [hnb] at hb
    rcases own2 b g k hb h1 h2 with ⟨_, q1, q2, q3⟩ | ⟨_, q⟩
    · exact hm.own b g k q1 q2 q3
    · exact ho.facts k q
  · rw [hnb] at hb hb'
    rcases own2 b g k hb h1 h2 with ⟨_, q1, q2, q3⟩ | ⟨e, q⟩
    · rcases own2 b' g' k hb' h1' h2' with ⟨_, p1, p2, p3⟩ | ⟨e', p⟩
      · exact hm.inj b b' g g' k q1 p1 q2 p2 q3 p3
      · exact absurd ⟨b, g, q1, q2, q3⟩ (ho.apart k p)
    · rcases own2 b' g' k hb' h1' h2' with ⟨_, p1, p2, p3⟩ | ⟨e', p⟩
      · exact absurd ⟨b', g', p1, p2, p3⟩ (ho.apart k q)
      · rw [e, e']
  · obtain ⟨b, g, q1, q2, q3⟩ := h
    rw [List.length_append, List.length_cons, List.length_nil] at q1
    rcases own2 b g k q1 q2 q3 with ⟨_, p1, p2, p3⟩ | ⟨_, p⟩
    · exact .inl ⟨b, g, p1, p2, p3⟩
    · exact .inr p

theorem put_own (hm : MRel O I loc (denM C m) w) (hw : WfM L m) {c : Nat} {l : List (T c)} {v : Value} (hs : SVO C I w c l v own) (ho : Mine C O I w loc m own) :
    ∃ loc' L', Put C O I w loc L m own (m ++ [.arr 0 c l]) loc' L' ∧ V I w (den C (.bw m.length 0 c l.length : DT T)) loc' v ∧ WfD L' (.bw m.length 0 c l.length : DT T) := by
  rcases hs with ⟨rfl, rfl⟩ | ⟨k, o, cap, cells, el, fz, rfl, h2, h3, h4, h4', h5, h6, h7, h8⟩
  · refine ⟨_, _, Put.add hm hw (.arr 0 c []) .nil 0 (fun k h => by cases h) ho (by simp [WfB, updL]) ?_, ?_, by simp [WfD, updL]⟩
    · simp only [denB, RelB]
      exact ⟨⟨fun g hg => by omega, fun g hg => by simp [locNew]; omega⟩, .inl ⟨by simp [locNew], rfl⟩⟩
    · simp [den, V, locNew]
  · refine ⟨_, _, Put.add hm hw (.arr 0 c l) (.blk k) l.length (fun k' h _ => by cases h; exact h7) ho (by simp [WfB, updL]) ?_, ?_, by simp [WfD, updL]⟩
    · simp only [denB, RelB]
      exact ⟨⟨fun g hg => by omega, fun g hg => by simp [locNew]; omega⟩, .inr ⟨k, cells, el, fz, by simp [locNew], h5, h6, by simpa using h4', h8⟩⟩
    · simp only [den, V, locNew, if_true]
      exact ⟨o, cap, rfl, h2, by rcases h3 with h | h <;> simp [h], by rw [rowSize, h5]; simpa using h4⟩

theorem put_var (hm : MRel O I loc (denM C m) w) (hw : WfM L m) {cs : List (DT T)} {vs : List Value} {v : Value} (hs : SVP w vs v own) (hv : VL I w (denL C cs) loc vs) (hwf : WfL L cs) (ho : Mine C O I w loc m own) :
    ∃ loc' L', Put C O I w loc L m own (m ++ [.var cs]) loc' L' ∧ V I w (den C (.bp m.length 0 : DT T)) loc' v := by
  obtain ⟨k, cells, el, fz, rfl, h2, h3, h4, h5, h6⟩ := hs
  have hle : LocExt loc (locNew loc m.length (.blk k)) := locNew_ext hm _
  refine ⟨_, _, Put.add hm hw (.var cs) (.blk k) 0 (fun k' h _ => by cases h; exact h5) ho (WfL_ext (LExt.upd (hm.free _ _ (Nat.le_refl _))) cs vs hv hwf) ?_, ?_⟩
  · simp only [denB, RelB]
    refine ⟨fun g hg => by simp [locNew, hg], k, cells, el, fz, by simp [locNew], h2, h3, h4, ?_⟩
    rw [h6]; exact VL_mono (.refl _ _) _ _ _ _ hle hv
  · simp [den, V, locNew]

theorem put_f (hC : CdOk C) (hm : MRel O I loc (denM C m) w) (hw : WfM L m) {f : Fld} {x : f.ty T} {vs : List Value} (hs : SVF C I w f x vs own) (ho : Mine C O I w loc m own) :
    ∃ loc' L', Put C O I w loc L m own (m ++ (encF C m.length f x).2) loc' L' ∧ VL I w (denL C (encF C m.length f x).1) loc' vs ∧ WfL L' (encF C m.length f x).1 := by
  cases f with
  | v t => exact ⟨loc, L, by simpa [encF] using (Put.refl hm hw).sub (fun _ h => h.elim), VL_free hs, cleanL_wf _ (encC_clean hC t x)⟩
  | own c =>
    obtain ⟨v, rfl, h⟩ := hs
    obtain ⟨loc', L', h1, h2, h3⟩ := put_own hm hw h ho
    exact ⟨loc', L', h1, by simp only [encF, denL, VL]; exact ⟨v, [], rfl, h2, rfl⟩, ⟨h3, trivial⟩⟩
  | pt t =>
    obtain ⟨v, cs, rfl, h1, h2⟩ := hs
    obtain ⟨loc', L', g1, g2⟩ := put_var hm hw h1 (VL_free h2) (cleanL_wf _ (encC_clean hC t x)) ho
    exact ⟨loc', L', g1, by simp only [encF, denL, VL]; exact ⟨v, [], rfl, g2, rfl⟩, ⟨trivial, trivial⟩⟩
  | st a c b =>
    obtain ⟨u, v, z, rfl, h1, h2, h3⟩ := hs
    obtain ⟨loc', L', g1, g2, g3⟩ := put_own hm hw h2 ho
    refine ⟨loc', L', g1, ?_, ?_⟩
    · simp only [encF, denL_append, denL]
      refine VL_append (VL_free h1) ?_
      simp only [VL]
      exact ⟨v, z, rfl, g2, VL_free h3⟩
    · simp only [encF, WfL_iff, List.mem_append, List.mem_cons]
      rintro d (hd | rfl | hd)
      · exact WfL_iff.1 (cleanL_wf _ (encC_clean hC a x.1)) d hd
      · exact g3
      · exact WfL_iff.1 (cleanL_wf _ (encC_clean hC b x.2.2)) d hd
  | fp f t =>
    obtain ⟨v, cs, rfl, h1, h2⟩ := hs
    obtain ⟨loc', L', g1, g2⟩ := put_var hm hw h1 (VL_free h2) (cleanL_wf _ (encC_clean hC t x)) ho
    exact ⟨loc', L', g1, by simp only [encF, denL, VL, den, V]; exact ⟨_, [], rfl, ⟨[v], rfl, v, [], rfl, by simpa only [den, V] using g2, rfl⟩, rfl⟩, ⟨⟨trivial, trivial⟩, trivial⟩⟩

theorem put_fs (hC : CdOk C) : ∀ (fs : List Fld) {m : MT T} {loc : Nat → Nat → Loc} {L : Nat → Nat → Nat} {x : tyFs T fs} {vs : List Value} {own : Nat → Prop}, MRel O I loc (denM C m) w → WfM L m → SVFs C I w fs x vs own → Mine C O I w loc m own →
    ∃ loc' L', Put C O I w loc L m own (m ++ (encFs C m.length fs x).2) loc' L' ∧ VL I w (denL C (encFs C m.length fs x).1) loc' vs ∧ WfL L' (encFs C m.length fs x).1
  | [], m, loc, L, x, vs, own, hm, hw, hs, ho => ⟨loc, L, by simpa [encFs] using (Put.refl hm hw).sub (fun _ h => h.elim), by have h : vs = [] := hs; simp [encFs, denL, VL, h], trivial⟩
  | f :: fs, m, loc, L, x, vs, own, hm, hw, hs, ho => by
    obtain ⟨a, b, o1, o2, rfl, h1, h2, h3, h4, h5⟩ := hs
    obtain ⟨loc1, L1, p1, p2, p3⟩ := put_f hC hm hw h1 (ho.sub h3)
    obtain ⟨loc2, L2, q1, q2, q3⟩ := put_fs hC fs p1.mem p1.wf (h2.keep (.imm fun _ h => h)) ((ho.sub h4).put p1 h5)
    have hlen : (m ++ (encF C m.length f x.1).2).length = m.length + (encF C m.length f x.1).2.length := by simp
    rw [hlen] at q1 q2 q3
    refine ⟨loc2, L2, ?_, ?_, ?_⟩
    · have := (p1.trans q1).sub (own := own) (fun k h => h.elim (h3 k) (h4 k))
      simpa [encFs, List.append_assoc] using this
    · simp only [encFs, denL_append]
      exact VL_append (VL_mono (.refl _ _) _ _ _ _ q1.ext p2) q2
    · simp only [encFs, WfL_iff, List.mem_append]
      rintro d (hd | hd)
      · exact WfL_iff.1 (WfL_ext q1.lext _ _ p2 p3) d hd
      · exact WfL_iff.1 q3 d hd

theorem encV_wf (hC : CdOk C) (t : VT) (x : t.ty T) : WfD L (encV C t x) := by
  have hc := encC_clean hC t x
  cases t with
  | agg c => exact cleanL_wf (L := L) _ hc
  | nil => trivial
  | cons a b =>
    show WfD L ((encC C (.cons a b) x).headD .dead)
    cases h : encC C (.cons a b) x with
    | nil => trivial
    | cons d r => rw [h] at hc; simp only [cleanL, Bool.and_eq_true] at hc; exact clean_wf d hc.1
  | fn f cs => exact cleanL_wf (L := L) _ (encC_clean hC cs x)
  | _ => trivial

theorem put_v (hC : CdOk C) (hm : MRel O I loc (denM C m) w) (hw : WfM L m) {f : Fld} {x : f.ty T} {v : Value} (hs : SVV C I w f x v own) (ho : Mine C O I w loc m own) :
    ∃ loc' L', Put C O I w loc L m own (m ++ (encFV C m.length f x).2) loc' L' ∧ V I w (den C (encFV C m.length f x).1) loc' v ∧ WfD L' (encFV C m.length f x).1 := by
  cases f with
  | v t => exact ⟨loc, L, by simpa [encFV] using (Put.refl hm hw).sub (fun _ h => h.elim), V_free hs, encV_wf hC t x⟩
  | own c =>
    obtain ⟨loc', L', h1, h2, h3⟩ := put_own hm hw hs ho
    exact ⟨loc', L', h1, h2, h3⟩
  | pt t =>
    obtain ⟨cs, h1, h2⟩ := hs
    obtain ⟨loc', L', g1, g2⟩ := put_var hm hw h1 (VL_free h2) (cleanL_wf _ (encC_clean hC t x)) ho
    exact ⟨loc', L', g1, g2, trivial⟩
  | st a c b =>
    obtain ⟨vs, rfl, q, u, v, z, rfl, h1, h2, h3⟩ := hs
    obtain ⟨loc', L', g1, g2, g3⟩ := put_own hm hw h2 ho
    refine ⟨loc', L', g1, ?_, ?_⟩
    · simp only [encFV, den, V, denL_append, denL]
      refine ⟨_, rfl, q, VL_append (VL_free h1) ?_⟩
      simp only [VL]
      exact ⟨v, z, rfl, g2, VL_free h3⟩
    · show WfL L' _
      simp only [WfL_iff, List.mem_append, List.mem_cons]
      rintro d (hd | rfl | hd)
      · exact WfL_iff.1 (cleanL_wf _ (encC_clean hC a x.1)) d hd
      · exact g3
      · exact WfL_iff.1 (cleanL_wf _ (encC_clean hC b x.2.2)) d hd
  | fp f t =>
    obtain ⟨p, cs, rfl, h1, h2⟩ := hs
    obtain ⟨loc', L', g1, g2⟩ := put_var hm hw h1 (VL_free h2) (cleanL_wf _ (encC_clean hC t x)) ho
    exact ⟨loc', L', g1, by simp only [encFV, den, denL, V, VL]; exact ⟨[p], rfl, p, [], rfl, by simpa only [den, V] using g2, rfl⟩, ⟨trivial, trivial⟩⟩

theorem put_vs (hC : CdOk C) : ∀ (fs : List Fld) {m : MT T} {loc : Nat → Nat → Loc} {L : Nat → Nat → Nat} {x : tyFs T fs} {vs : List Value} {own : Nat → Prop}, MRel O I loc (denM C m) w → WfM L m → SVVs C I w fs x vs own → Mine C O I w loc m own →
    ∃ loc' L', Put C O I w loc L m own (m ++ (encFVs C m.length fs x).2) loc' L' ∧ VL I w (denL C (encFVs C m.length fs x).1) loc' vs ∧ WfL L' (encFVs C m.length fs x).1
  | [], m, loc, L, x, vs, own, hm, hw, hs, ho => ⟨loc, L, by simpa [encFVs] using (Put.refl hm hw).sub (fun _ h => h.elim), by have h : vs = [] := hs; simp [encFVs, denL, VL, h], trivial⟩
  | f :: fs, m, loc, L, x, vs, own, hm, hw, hs, ho => by
    obtain ⟨v, vr, o1, o2, rfl, h1, h2, h3, h4, h5⟩ := hs
    obtain ⟨loc1, L1, p1, p2, p3⟩ := put_v hC hm hw h1 (ho.sub h3)
    obtain ⟨loc2, L2, q1, q2, q3⟩ := put_vs hC fs p1.mem p1.wf (h2.keep (.imm fun _ h => h)) ((ho.sub h4).put p1 h5)
    have hlen : (m ++ (encFV C m.length f x.1).2).length = m.length + (encFV C m.length f x.1).2.length := by simp
    rw [hlen] at q1 q2 q3
    refine ⟨loc2, L2, ?_, ?_, ?_⟩
    · have := (p1.trans q1).sub (own := own) (fun k h => h.elim (h3 k) (h4 k))
      simpa [encFVs, List.append_assoc] using this
    · simp only [encFVs, denL, VL]
      exact ⟨v, vr, rfl, V_mono (.refl _ _) _ _ _ _ q1.ext p2, q2⟩
    · simp only [encFVs, WfL]
      exact ⟨WfD_ext q1.lext _ _ p2 p3, q3⟩

theorem put_s (hC : CdOk C) (hm : MRel O I loc (denM C m) w) (hw : WfM L m) {s : Slot} {x : s.ty T} {v : Value} (hs : SVS C I w s x v own) (ho : Mine C O I w loc m own) :
    ∃ loc' L', Put C O I w loc L m own (m ++ (encS C m.length s x).2) loc' L' ∧ V I w (den C (encS C m.length s x).1) loc' v ∧ WfD L' (encS C m.length s x).1 := by
  cases s with
  | f f => exact put_v hC hm hw hs ho
  | ptr fs =>
    obtain ⟨cs, o1, o2, h1, h2, h3, h4, h5⟩ := hs
    obtain ⟨loc1, L1, p1, p2, p3⟩ := put_fs hC fs hm hw h2 (ho.sub h4)
    obtain ⟨loc2, L2, q1, q2⟩ := put_var p1.mem p1.wf h1 p2 p3 ((ho.sub h3).put p1 (fun k a b => h5 k b a))
    have hlen : (m ++ (encFs C m.length fs x).2).length = m.length + (encFs C m.length fs x).2.length := by simp
    rw [hlen] at q2
    refine ⟨loc2, L2, ?_, q2, trivial⟩
    have := (p1.trans q1).sub (own := own) (fun k h => h.elim (h4 k) (h3 k))
    simpa [encS, List.append_assoc] using this
  | inp c => exact put_own hm hw hs ho
  | iter =>
    obtain ⟨k, rfl, h2, h3⟩ := hs
    refine ⟨_, _, Put.add hm hw (.iter x.1 x.2) (.blk k) 0 (fun k' h _ => by cases h; exact h3) ho trivial ?_, ?_, trivial⟩
    · simp only [denB, RelB]
      exact ⟨fun g hg => by simp [locNew, hg], k, by simp [locNew], h2⟩
    · simp [encS, den, V, locNew]

theorem put_ss (hC : CdOk C) : ∀ (ss : List Slot) {m : MT T} {loc : Nat → Nat → Loc} {L : Nat → Nat → Nat} {x : tySs T ss} {vs : List Value} {own : Nat → Prop}, MRel O I loc (denM C m) w → WfM L m → SVSs C I w ss x vs own → Mine C O I w loc m own →
    ∃ loc' L', Put C O I w loc L m own (m ++ (encSs C m.length ss x).2) loc' L' ∧ VL I w (denL C (encSs C m.length ss x).1) loc' vs ∧ WfL L' (encSs C m.length ss x).1
  | [], m, loc, L, x, vs, own, hm, hw, hs, ho => ⟨loc, L, by simpa [encSs] using (Put.refl hm hw).sub (fun _ h => h.elim), by have h : vs = [] := hs; simp [encSs, denL, VL, h], trivial⟩
  | f :: fs, m, loc, L, x, vs, own, hm, hw, hs, ho => by
    obtain ⟨v, vr, o1, o2, rfl, h1, h2, h3, h4, h5⟩ := hs
    obtain ⟨loc1, L1, p1, p2, p3⟩ := put_s hC hm hw h1 (ho.sub h3)
    obtain ⟨loc2, L2, q1, q2, q3⟩ := put_ss hC fs p1.mem p1.wf (h2.keep (.imm fun _ h => h)) ((ho.sub h4).put p1 h5)
    have hlen : (m ++ (encS C m.length f x.1).2).length = m.length + (encS C m.length f x.1).2.length := by simp
    rw [hlen] at q1 q2 q3
    refine ⟨loc2, L2, ?_, ?_, ?_⟩
    · have := (p1.trans q1).sub (own := own) (fun k h => h.elim (h3 k) (h4 k))
      simpa [encSs, List.append_assoc] using this
    · simp only [encSs, denL, VL]
      exact ⟨v, vr, rfl, V_mono (.refl _ _) _ _ _ _ q1.ext p2, q2⟩
    · simp only [encSs, WfL]
      exact ⟨WfD_ext q1.lext _ _ p2 p3, q3⟩
end
end Go.Abs

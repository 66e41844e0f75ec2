/- What comes back from a call; calls by contracts. No condition. -/
import Derived.Test.YtlinfghjilpcdaaTyQ
namespace Go.Abs
open Go
set_option linter.unusedSimpArgs false

section
variable {T : Nat → Type} {C : Cd T} {O I I' : Nat → Prop} {w w' : World} {loc : Nat → Nat → Loc} {L : Nat → Nat → Nat} {m m0 : MT T} {R : Type} {own own' : Nat → Prop} {P : Program} {G : Nat → Option (List D)}

theorem putBack (hm : MRel O I loc (denM C m) w) (hw : WfM L m) {b : Nat} {x : BoxT T} (hb : b < m.length) (hl : m.get b = .lent) (hx : RelB I w loc b (denB C x)) (hwx : WfB L b x) (ho : Mine C O I w loc m own) (hk : ∀ g k, loc b g = .blk k → own k) :
    MRel O I loc (denM C (m.put b x)) w ∧ WfM L (m.put b x) ∧ ∀ k, Owned C (m.put b x) loc k → Owned C m loc k ∨ own k := by
  have hbx : ∀ b', (denM C (m.put b x)).bx b' = if b' = b then denB C x else (denM C m).bx b' := fun b' => by
    simp only [denM, get_put hb]
    split <;> rfl
  have hnb : (denM C (m.put b x)).nb = m.length := by simp [denM, len_put]
  have own2 : ∀ b' g k, ((denM C (m.put b x)).bx b').owned = true → loc b' g = .blk k → (b' ≠ b ∧ ((denM C m).bx b').owned = true) ∨ (b' = b ∧ own k) := fun b' g k h1 h2 => by
    rw [hbx] at h1
    by_cases e : b' = b
    · subst e; exact .inr ⟨rfl, hk g k h2⟩
    · rw [if_neg e] at h1; exact .inl ⟨e, h1⟩
  refine ⟨⟨fun b' hb' => ?_, fun b' g hb' => ?_, fun b' g k hb' h1 h2 => ?_, fun b1 b2 g1 g2 k h1 h2 o1 o2 k1 k2 => ?_, hm.imm, hm.up⟩, WfM_put hb hw hwx, fun k h => ?_⟩
  · rw [hnb] at hb'
    rw [hbx]
    by_cases e : b' = b
    · subst e; rw [if_pos rfl]; exact hx
    · rw [if_neg e]; exact hm.box b' hb'
  · rw [hnb] at hb'; exact hm.free b' g hb'
  · rw [hnb] at hb'
    rcases own2 b' g k h1 h2 with ⟨_, q⟩ | ⟨_, q⟩
    · exact hm.own b' g k hb' q h2
    · exact ho.facts k q
  · rw [hnb] at h1 h2
    rcases own2 b1 g1 k o1 k1 with ⟨_, q⟩ | ⟨e, q⟩
    · rcases own2 b2 g2 k o2 k2 with ⟨_, p⟩ | ⟨e', p⟩
      · exact hm.inj b1 b2 g1 g2 k h1 h2 q p k1 k2
      · exact absurd ⟨b1, g1, h1, q, k1⟩ (ho.apart k p)
    · rcases own2 b2 g2 k o2 k2 with ⟨_, p⟩ | ⟨e', p⟩
      · exact absurd ⟨b2, g2, h2, p, k2⟩ (ho.apart k q)
      · rw [e, e']
  · obtain ⟨b', g, q1, q2, q3⟩ := h
    rw [len_put] at q1
    rcases own2 b' g k q2 q3 with ⟨_, p⟩ | ⟨_, p⟩
    · exact .inl ⟨b', g, q1, p, q3⟩
    · exact .inr p

theorem Lent.mono {m' : MT T} {loc' : Nat → Nat → Loc} {L' : Nat → Nat → Nat} (hlen : m.length ≤ m'.length) (hL : LExt loc L L') : ∀ {ss : List Slot} {ids : List Nat} {vs : List Value}, (∀ b ∈ ids, m'.get b = m.get b ∧ ∀ g, loc' b g = loc b g) → Lent m0 m loc L ss ids vs → Lent m0 m' loc' L' ss ids vs
  | [], ids, vs, h, hl => hl
  | .ptr fs :: r, ids, vs, h, hl => by
    obtain ⟨b, ir, v, vr, rfl, rfl, ⟨h1, h2, k, h3, h4, h5⟩, hn, hr⟩ := hl
    obtain ⟨q1, q2⟩ := h b (by simp)
    exact ⟨b, ir, v, vr, rfl, rfl, ⟨Nat.lt_of_lt_of_le h1 hlen, by rw [q1]; exact h2, k, h3, by rw [q2]; exact h4, fun g hg => by rw [q2]; exact h5 g hg⟩, hn, Lent.mono hlen hL (fun b hb => h b (by simp [hb])) hr⟩
  | .inp c :: r, ids, vs, h, hl => by
    obtain ⟨b, ir, v, vr, rfl, rfl, ⟨h1, h2, g, l0, h3, h4, h5, a, n, cap, h6, h7, h8⟩, hn, hr⟩ := hl
    obtain ⟨q1, q2⟩ := h b (by simp)
    refine ⟨b, ir, v, vr, rfl, rfl, ⟨Nat.lt_of_lt_of_le h1 hlen, by rw [q1]; exact h2, g, l0, h3, fun g' hg => by rw [q2]; exact h4 g' hg, fun g' hg => by rw [q2]; exact h5 g' hg, a, n, cap, h6, ?_, ?_⟩, hn, Lent.mono hlen hL (fun b hb => h b (by simp [hb])) hr⟩
    · rw [← h7]
      refine hL b g ?_
      rcases h8 with ⟨h, _⟩ | ⟨k, o, h, _⟩ <;> rw [h] <;> simp
    · rw [q2]; exact h8
  | .f _ :: r, ids, vs, h, hl => by
    obtain ⟨v, vr, rfl, hr⟩ := hl
    exact ⟨v, vr, rfl, Lent.mono hlen hL h hr⟩
  | .iter :: r, ids, vs, h, hl => by
    obtain ⟨v, vr, rfl, hr⟩ := hl
    exact ⟨v, vr, rfl, Lent.mono hlen hL h hr⟩

theorem lent_lt : ∀ {ss : List Slot} {ids : List Nat} {vs : List Value}, Lent m0 m loc L ss ids vs → ∀ b ∈ ids, m.length ≤ b → False
  | [], ids, vs, h, b, hb, _ => by
    have : ids = [] := h
    subst this; simp at hb
  | .ptr fs :: r, ids, vs, h, b, hb, hh => by
    obtain ⟨b', ir, v, vr, rfl, rfl, h1, _, hr⟩ := h
    rcases List.mem_cons.1 hb with e | e
    · subst e; have := h1.1; omega
    · exact lent_lt hr b e hh
  | .inp c :: r, ids, vs, h, b, hb, hh => by
    obtain ⟨b', ir, v, vr, rfl, rfl, h1, _, hr⟩ := h
    rcases List.mem_cons.1 hb with e | e
    · subst e; have := h1.1; omega
    · exact lent_lt hr b e hh
  | .f _ :: r, ids, vs, h, b, hb, hh => by
    obtain ⟨v, vr, rfl, hr⟩ := h
    exact lent_lt hr b hb hh
  | .iter :: r, ids, vs, h, b, hb, hh => by
    obtain ⟨v, vr, rfl, hr⟩ := h
    exact lent_lt hr b hb hh

theorem back_ok (hC : CdOk C) (m0 : MT T) : ∀ (ss : List Slot) {m m2 : MT T} {loc : Nat → Nat → Loc} {L : Nat → Nat → Nat} {ids : List Nat} {x : tyO T ss} {args : List Value} {o1 : Nat → Prop}, MRel O I loc (denM C m) w → WfM L m → SVOuts C I w ss x args o1 → Mine C O I w loc m o1 → Lent m0 m loc L ss ids args → backO C m0 ss ids x m = some m2 →
    ∃ loc' L', MRel O I loc' (denM C m2) w ∧ WfM L' m2 ∧ LocExt loc loc' ∧ LExt loc L L' ∧ (∀ k, Owned C m2 loc' k → Owned C m loc k ∨ o1 k) ∧ m.length ≤ m2.length
  | [], m, m2, loc, L, ids, x, args, o1, hm, hw, hs, ho, hl, h => by
    simp only [backO, Option.some.injEq] at h
    subst h
    exact ⟨loc, L, hm, hw, .refl _, .refl _ _, fun _ h => .inl h, Nat.le_refl _⟩
  | .f _ :: r, m, m2, loc, L, ids, x, args, o1, hm, hw, hs, ho, hl, h => by
    obtain ⟨v, vr, rfl, hs⟩ := hs
    obtain ⟨v', vr', e, hl⟩ := hl
    cases e
    exact back_ok hC m0 r hm hw hs ho hl h
  | .iter :: r, m, m2, loc, L, ids, x, args, o1, hm, hw, hs, ho, hl, h => by
    obtain ⟨v, vr, rfl, hs⟩ := hs
    obtain ⟨v', vr', e, hl⟩ := hl
    cases e
    exact back_ok hC m0 r hm hw hs ho hl h
  | .ptr fs :: r, m, m2, loc, L, ids, x, args, o1, hm, hw, hs, ho, hl, h => by
    obtain ⟨v, vr, oa, ob, rfl, ⟨cs, p1, p2, s1, s2, s3, s4, s5⟩, hs, a1, a2, a3⟩ := hs
    obtain ⟨b, ir, v', vr', rfl, e, ⟨l1, l2, k, l3, l4, l5⟩, hn, hl⟩ := hl
    cases e
    simp only [backO] at h
    obtain ⟨loc1, L1, q1, q2, q3⟩ := put_fs hC fs hm hw s2 ((ho.sub a1).sub s4)
    have hk := q1.keep b l1
    have hb1 : b < (m ++ (encFs C m.length fs x.1).2).length := Nat.lt_of_lt_of_le l1 q1.len
    obtain ⟨kk, cells, el, fz, t1, t2, t3, t4, t5, t6⟩ := s1
    have hkk : k = kk := by rw [l3] at t1; cases t1; rfl
    subst hkk
    have hmine : Mine C O I w loc1 (m ++ (encFs C m.length fs x.1).2) p1 := ((ho.sub a1).sub s3).put q1 (fun k u v => s5 k v u)
    obtain ⟨b1, b2, b3⟩ := putBack (x := .var (encFs C m.length fs x.1).1) q1.mem q1.wf hb1 (hk.1.trans l2) (by
      simp only [denB, RelB]
      exact ⟨fun g hg => by rw [hk.2]; exact l5 g hg, k, cells, el, fz, by rw [hk.2]; exact l4, t2, t3, t4, by rw [t6]; exact q2⟩) q3 hmine (fun g k' hg => by
      rw [hk.2] at hg
      by_cases e : g = 0
      · subst e; rw [l4] at hg; cases hg; exact t5
      · rw [l5 g e] at hg; cases hg)
    have hown : ∀ k, Owned C ((m ++ (encFs C m.length fs x.1).2).put b (.var (encFs C m.length fs x.1).1)) loc1 k → Owned C m loc k ∨ oa k := fun k h => by
      rcases b3 k h with h | h
      · exact (q1.own k h).imp id (s4 k)
      · exact .inr (s3 k h)
    have hlen : m.length ≤ ((m ++ (encFs C m.length fs x.1).2).put b (.var (encFs C m.length fs x.1).1)).length := by rw [len_put]; exact q1.len
    obtain ⟨loc2, L2, c1, c2, c3, c4, c5, c6⟩ := back_ok hC m0 r b1 b2 hs ⟨fun k h => ho.facts k (a2 k h), fun k h hq => by
      rcases hown k hq with q | q
      · exact ho.apart k (a2 k h) q
      · exact a3 k q h⟩ (hl.mono hlen q1.lext fun b' hb' => by
        have hne := hn b' hb'
        have hb'l : b' < m.length ∨ m.length ≤ b' := Nat.lt_or_ge _ _
        rcases hb'l with hh | hh
        · rw [get_put hb1, if_neg hne]; exact q1.keep b' hh
        · exact absurd hb' (fun hb' => lent_lt hl b' hb' hh)) h
    exact ⟨loc2, L2, c1, c2, q1.ext.trans c3, q1.lext.trans q1.ext c4, fun k h => by
      rcases c5 k h with h | h
      · exact (hown k h).imp id (a1 k)
      · exact .inr (a2 k h), Nat.le_trans hlen c6⟩
  | .inp c :: r, m, m2, loc, L, ids, x, args, o1, hm, hw, hs, ho, hl, h => by
    obtain ⟨v, vr, oa, ob, rfl, s1, hs, a1, a2, a3⟩ := hs
    obtain ⟨b, ir, v', vr', rfl, e, ⟨l1, l2, g, l0, l3, l4, l5, a, n, cap, l6, l7, l8⟩, hn, hl⟩ := hl
    cases e
    simp only [backO, l3] at h
    have hlen : x.1.length = n := by
      rcases s1 with ⟨h1, h2⟩ | ⟨k, o, cap', cells, el, fz, t1, _⟩
      · rw [h2] at l6; cases l6; rw [h1]; rfl
      · rw [t1] at l6; cases l6; rfl
    obtain ⟨b1, b2, b3⟩ := putBack (x := .arr g c x.1) hm hw l1 l2 (by
      simp only [denB, RelB]
      refine ⟨⟨l4, l5⟩, ?_⟩
      rcases s1 with ⟨h1, h2⟩ | ⟨k, o, cap', cells, el, fz, t1, t2, t3, t4, t4', t5, t6, t7, t8⟩
      · rw [h2] at l6; cases l6
        rcases l8 with ⟨q, _⟩ | ⟨k, o, _, q⟩
        · exact .inl ⟨q, by rw [h1]; rfl⟩
        · cases q
      · rw [t1] at l6; cases l6
        rcases l8 with ⟨_, q⟩ | ⟨k', o', q, q'⟩
        · cases q
        · cases q'
          exact .inr ⟨k, cells, el, fz, q, t5, t6, by simpa using t4', t8⟩) (by simp only [WfB]; rw [l7, hlen]) (ho.sub a1) (fun g' k' hg => by
      have hg' : g' = g := by
        rcases Nat.lt_trichotomy g' g with h | h | h
        · rw [l4 g' h] at hg; cases hg
        · exact h
        · rw [l5 g' h] at hg; cases hg
      subst hg'
      rcases s1 with ⟨h1, h2⟩ | ⟨k, o, cap', cells, el, fz, t1, t2, t3, t4, t4', t5, t6, t7, t8⟩
      · rw [h2] at l6; cases l6
        rcases l8 with ⟨q, _⟩ | ⟨k, o, _, q⟩
        · rw [q] at hg; cases hg
        · cases q
      · rw [t1] at l6; cases l6
        rcases l8 with ⟨_, q⟩ | ⟨k2, o', q, q'⟩
        · cases q
        · cases q'
          rw [q] at hg; cases hg
          exact t7)
    obtain ⟨loc2, L2, c1, c2, c3, c4, c5, c6⟩ := back_ok hC m0 r b1 b2 hs ⟨fun k h => ho.facts k (a2 k h), fun k h hq => by
      rcases b3 k hq with q | q
      · exact ho.apart k (a2 k h) q
      · exact a3 k q h⟩ (hl.mono (by rw [len_put]; exact Nat.le_refl _) (.refl _ _) fun b' hb' => by rw [get_put l1, if_neg (hn b' hb')]; exact ⟨rfl, fun _ => rfl⟩) h
    exact ⟨loc2, L2, c1, c2, c3, c4, fun k h => by
      rcases c5 k h with h | h
      · exact (b3 k h).imp id (a1 k)
      · exact .inr (a2 k h), by rw [len_put] at c6; exact c6⟩

/-! ### calls -/
/-- contracts that hold. -/
structure EnvOk (P : Program) (E : Env T) : Prop where
  cd : CdOk E.C
  tys : TysOk P E.Y
  fl : FlOk E.C E.fl
  fns : ∀ f ds S, E.F f ds = some S → SoundT P E.C (fun g => (E.G g).map (denL E.C)) f S

def GD (E : Env T) : Nat → Option (List D) := fun g => (E.G g).map (denL E.C)

/-- an operation is followed. -/
def FollowsT (P : Program) (E : Env T) (O I : Nat → Prop) (loc : Nat → Nat → Loc) (L : Nat → Nat → Nat) (w : World) (o : Oper) (r : Result Next) (d : DT T) (m' : MT T) : Prop :=
  ∀ (a : Act) (next : Act → World → Prop) (Q : Exit → Act → World → Prop), (∀ v w' I' loc' L', MRel O I' loc' (denM E.C m') w' → WfM L' m' → Glob (GD E) I' w' → V I' w' (den E.C d) loc' v → WfD L' d → Ext I I' w w' → (∀ k, I' k → I k ∨ O k) → LocExt loc loc' → LExt loc L L' → Fr O w w' → next (a.put o.dst v) w') →
    o.upon P a next Q r

theorem FollowsT.of_res {E : Env T} {o : Oper} {r : Result Next} {d : DT T} {m' : MT T} (hG : Glob (GD E) I w) (h : ResT E.C O I loc L w r d m') : FollowsT P E O I loc L w o r d m' := by
  obtain ⟨v, w', I', loc', L', h1, h2, h3, h4, h5, h6, h7, h8, h9, h10⟩ := h
  intro a next Q hn
  have := hn v w' I' loc' L' h2 h3 (Glob_mono hG h6) h4 h5 h6 h7 h8 h9 h10
  rcases h1 with rfl | ⟨rfl, rfl⟩
  · exact this
  · exact this
theorem FollowsT.of_D {E : Env T} {o : Oper} {r : Result Next} {d : DT T} (hm : MRel O I loc (denM E.C m) w) (hw : WfM L m) (hd : WfD L d) (h : Follows P ⟨GD E, fun _ => none⟩ O I loc w o r (den E.C d) (denM E.C m)) : FollowsT P E O I loc L w o r d m := by
  intro a next Q hn
  refine h a next Q fun v w' I' loc' h1 h2 h3 h4 h5 h6 h7 => ?_
  exact hn v w' I' loc' L h1 hw h2 h3 hd h4 (fun k hk => (h5 k hk).imp id (hm.up k)) h6 (.refl _ _) h7

theorem resV_V {fs : List Fld} {x : tyFs T fs} {vs : List Value} {base : Nat} {loc' : Nat → Nat → Loc} (h : VL I w (denL C (encFVs C base fs x).1) loc' vs) (hw : WfL L (encFVs C base fs x).1) : V I w (den C (oneOf (encFVs C base fs x).1)) loc' (resV vs) ∧ WfD L (oneOf (encFVs C base fs x).1) := by
  match hq : (encFVs C base fs x).1 with
  | [] => rw [hq] at h hw; simp only [denL, VL] at h; subst h; exact ⟨by simp only [oneOf, den, denL, V, resV]; exact ⟨[], rfl, rfl⟩, hw⟩
  | [d] =>
    rw [hq] at h hw
    simp only [denL, VL] at h
    obtain ⟨v, vr, rfl, h1, rfl⟩ := h
    exact ⟨h1, hw.1⟩
  | d :: e :: r =>
    rw [hq] at h hw
    have h2 := h
    simp only [denL, VL] at h2
    obtain ⟨v, vr, rfl, h1, v2, vr2, rfl, h3, h4⟩ := h2
    refine ⟨?_, hw⟩
    simp only [oneOf, den, V, resV]
    exact ⟨_, rfl, h⟩

theorem all_flat {fl : Nat → Bool} : ∀ {rs : List Fld}, rs.all (fun r => r.isV && r.flat fl) = true → rs.all (Fld.flat fl) = true ∧ ∀ (C : Cd T) (base : Nat) (x : tyFs T rs), (encFVs C base rs x).2 = [] ∧ ∀ base', (encFVs C base rs x).1 = (encFVs C base' rs x).1
  | [], h => ⟨rfl, fun C base x => ⟨rfl, fun _ => rfl⟩⟩
  | f :: r, h => by
    simp only [List.all_cons, Bool.and_eq_true] at h
    obtain ⟨⟨h1, h2⟩, h3⟩ := h
    obtain ⟨g1, g2⟩ := all_flat h3
    refine ⟨by simp only [List.all_cons, h2, g1, Bool.and_self], fun C base x => ?_⟩
    cases f with
    | v t =>
      refine ⟨by simp only [encFVs, encFV, List.nil_append]; exact (g2 C _ x.2).1, fun base' => ?_⟩
      simp only [encFVs, encFV]
      rw [(g2 C _ x.2).2 (base' + ([] : List (BoxT T)).length)]
    | own c => cases h1
    | pt t => cases h1
    | st a c b => cases h1
    | fp f t => cases h1

theorem call_look {E : Env T} (hE : EnvOk P E) (hm : MRel O I loc (denM E.C m) w) (hw : WfM L m) (hG : Glob (GD E) I w) {e : Operand → DT T} {ρ : Operand → Value} (he : ∀ x, V I w (den E.C (e x)) loc (ρ x)) (hwe : ∀ x, WfD L (e x)) {f : Nat} (hfn : e (.func f) = .fn f []) {args : Array Operand} {at' : Array TypeId} {dst : Option Tmp} {ty : TypeId} {pos : String} {af : Array Edge} {gd : Option (Nat × Bool)} {K : DT T → Option R} {r : R}
    (h : callR E f (args.toList.map e) m K = some r) : ∃ d, FollowsT P E O I loc L w ⟨dst, .call ⟨.value (.func f), args, at'⟩, ty, pos, af, gd⟩ ((execOp ρ ⟨dst, .call ⟨.value (.func f), args, at'⟩, ty, pos, af, gd⟩).run P w) d m ∧ K d = some r := by
  unfold callR at h
  split at h
  case h_2 => cases h
  rename_i S hS
  split at h
  case h_2 => cases h
  rename_i hfl
  simp only [Bool.and_eq_true] at hfl
  have hwl : WfL L (args.toList.map e) := WfL_iff.2 fun d hd => by
    simp only [List.mem_map] at hd
    obtain ⟨x, _, rfl⟩ := hd; exact hwe x
  have hvl : VL I w (denL E.C (args.toList.map e)) loc (args.toList.map ρ) := by
    rw [denL_map, List.map_map]
    exact VL_map he _
  obtain ⟨x, h1, h2⟩ := look_ok hE.cd hm hw S.ps hwl hvl h
  rw [Option.bind_eq_some_iff] at h2
  obtain ⟨res, h3, h4⟩ := h2
  refine ⟨_, ?_, h4⟩
  obtain ⟨hb, hsnd⟩ := hE.fns f _ S hS
  have hv := he (.func f)
  rw [hfn] at hv
  simp only [den, denL, V, VL] at hv
  obtain ⟨us, hv1, rfl⟩ := hv
  rw [run_call hv1 hb]
  intro a next Q hn
  simp only [Oper.upon, List.append_nil]
  refine (hsnd (fun k => k < w.heap.size) none' w _ x res (fun _ h => h) (fun _ h => h.elim) (Glob_mono hG (imm_all2 hm.imm)) h1 h3).mono ?_
  rintro _ w' ⟨vs, I', o1, o2, rfl, f1, f2, f3, f4, f5, f6, f7, f8, f9⟩
  obtain ⟨g1, g2⟩ := all_flat (T := T) hfl.2
  have hfr := Fr_fresh f1
  have hm2 := hm.step hfr
  have hx := Ext_of_Fr hfr hm.imm (fun _ h => h)
  have f9' : SVVs E.C I w' S.rs res.2 vs o2 := SVVs_flat hE.cd hE.fl g1 f9
  obtain ⟨loc', L', p1, p2, p3⟩ := put_vs (O := O) hE.cd S.rs (m := ([] : MT T)) (loc := free) (L := fun _ _ => 0) (own := o2) ⟨fun b hb => absurd hb (Nat.not_lt_zero _), fun _ _ _ => rfl, fun b _ _ hb => absurd hb (Nat.not_lt_zero _), fun b _ _ _ _ hb => absurd hb (Nat.not_lt_zero _), hm2.imm, hm2.up⟩ (fun b => trivial) f9'
    ⟨fun k hk => by
      obtain ⟨q1, q2, q3⟩ := f6 k (.inr hk)
      refine ⟨?_, fun hI => ?_, q3⟩
      · rcases q1 with q | q
        · exact q.elim
        · exact hm.up k q
      · exact q2 (f3 k (hm.imm k hI)), fun k _ ⟨b, g, q1, _⟩ => absurd q1 (Nat.not_lt_zero _)⟩
  have e0 := (g2 E.C 0 res.2).1
  simp only [List.length_nil] at p1 p2 p3
  rw [e0] at p1
  have hl0 : loc' = free := by funext b g; exact p1.mem.free b g (Nat.zero_le _)
  subst hl0
  obtain ⟨r1, r2⟩ := resV_V p2 p3
  refine hn _ w' I loc L hm2 hw (Glob_mono hG hx) (V_free r1) (free_wfD _ _ r1) hx (fun _ h => .inl h) (.refl _) (.refl _ _) hfr.weaken

theorem argsV_ok (hC : CdOk C) (hm : MRel O I loc (denM C m) w) (hw : WfM L m) : ∀ (ss : List Slot) {ds : List (DT T)} {vs : List Value} {K : tySs T ss → List Nat → MT T → Option R} {r : R}, ss.all Slot.isV = true → WfL L ds → VL I w (denL C ds) loc vs → argsK C true ss m ds K = some r →
    ∃ x, SVSs C (fun k => k < w.heap.size) w ss x vs none' ∧ K x [] m = some r
  | [], ds, vs, K, r, ha, hwf, hv, h => by
    simp only [argsK] at h
    split at h
    · simp only [denL, VL] at hv
      exact ⟨(), hv, h⟩
    · cases h
  | .f (.v t) :: ss, [], vs, K, r, ha, hwf, hv, h => by simp [argsK] at h
  | .f (.v t) :: ss, d :: ds, vs, K, r, hall, hwf, hv, h => by
    simp only [argsK] at h
    split at h
    case h_2 => cases h
    rename_i ha
    simp only [denL, VL] at hv
    obtain ⟨v, vr, rfl, hv1, hv2⟩ := hv
    obtain ⟨cs, h1, h2⟩ := snap_val hC hm hw hwf.1 hv1 ha h
    split at h2
    case h_2 => cases h2
    rename_i x hx
    simp only [List.all_cons, Bool.and_eq_true] at hall
    obtain ⟨y, g1, g2⟩ := argsV_ok hC hm hw ss hall.2 hwf.2 hv2 h2
    exact ⟨(x, y), ⟨v, vr, none', none', rfl, h1 x hx, g1, fun _ h => h.elim, fun _ h => h.elim, fun _ h => h.elim⟩, g2⟩
  | .f (.own c) :: ss, ds, vs, K, r, ha, hwf, hv, h => by simp [Slot.isV, Fld.isV] at ha
  | .f (.pt c) :: ss, ds, vs, K, r, ha, hwf, hv, h => by simp [Slot.isV, Fld.isV] at ha
  | .f (.st _ _ _) :: ss, ds, vs, K, r, ha, hwf, hv, h => by simp [Slot.isV, Fld.isV] at ha
  | .f (.fp _ _) :: ss, ds, vs, K, r, ha, hwf, hv, h => by simp [Slot.isV, Fld.isV] at ha
  | .ptr fs :: ss, ds, vs, K, r, ha, hwf, hv, h => by simp [Slot.isV] at ha
  | .inp c :: ss, ds, vs, K, r, ha, hwf, hv, h => by simp [Slot.isV] at ha
  | .iter :: ss, ds, vs, K, r, ha, hwf, hv, h => by simp [Slot.isV] at ha

theorem noOuts : ∀ {ss : List Slot} {x : tySs T ss} {y : tyO T ss} {vs : List Value} {J own : Nat → Prop} {I2 : Nat → Prop} {w2 : World}, ss.all Slot.isV = true → SVSs C J w ss x vs own → SVOuts C I2 w2 ss y vs none' ∧ Lent m0 m loc L ss [] vs ∧ backO C m0 ss [] y m = some m
  | [], x, y, vs, J, own, I2, w2, _, _ => ⟨trivial, rfl, rfl⟩
  | .f f :: ss, x, y, vs, J, own, I2, w2, ha, h => by
    simp only [List.all_cons, Bool.and_eq_true] at ha
    obtain ⟨v, vr, o1, o2, rfl, _, h2, _⟩ := h
    obtain ⟨g1, g2, g3⟩ := noOuts (ss := ss) (y := y) (I2 := I2) (w2 := w2) ha.2 h2
    exact ⟨⟨v, vr, rfl, g1⟩, ⟨v, vr, rfl, g2⟩, g3⟩
  | .ptr fs :: ss, x, y, vs, J, own, I2, w2, ha, h => by simp [Slot.isV] at ha
  | .inp c :: ss, x, y, vs, J, own, I2, w2, ha, h => by simp [Slot.isV] at ha
  | .iter :: ss, x, y, vs, J, own, I2, w2, ha, h => by simp [Slot.isV] at ha

theorem call_write {E : Env T} (hE : EnvOk P E) (hm : MRel O I loc (denM E.C m) w) (hw : WfM L m) (hG : Glob (GD E) I w) {e : Operand → DT T} {ρ : Operand → Value} (he : ∀ x, V I w (den E.C (e x)) loc (ρ x)) (hwe : ∀ x, WfD L (e x)) {f : Operand} {k : Nat} {cap : List (DT T)} (hfn : e f = .fn k cap) {args : Array Operand} {at' : Array TypeId} {dst : Option Tmp} {ty : TypeId} {pos : String} {af : Array Edge} {gd : Option (Nat × Bool)} {K : DT T → MT T → Option R} {r : R}
    (h : callW E k (args.toList.map e ++ cap) m K = some r) : ∃ d m', FollowsT P E O I loc L w ⟨dst, .call ⟨.value f, args, at'⟩, ty, pos, af, gd⟩ ((execOp ρ ⟨dst, .call ⟨.value f, args, at'⟩, ty, pos, af, gd⟩).run P w) d m' ∧ K d m' = some r := by
  unfold callW at h
  split at h
  case h_2 => cases h
  rename_i S hS
  have hv := he f
  rw [hfn] at hv
  have hwf := hwe f
  rw [hfn] at hwf
  simp only [WfD] at hwf
  simp only [den, V] at hv
  obtain ⟨us, hv1, hv2⟩ := hv
  have hwl : WfL L (args.toList.map e ++ cap) := WfL_iff.2 fun d hd => by
    simp only [List.mem_append, List.mem_map] at hd
    rcases hd with ⟨x, _, rfl⟩ | hd
    · exact hwe x
    · exact WfL_iff.1 hwf d hd
  have hvl : VL I w (denL E.C (args.toList.map e ++ cap)) loc (args.toList.map ρ ++ us) := by
    rw [denL_append]
    refine VL_append ?_ hv2
    rw [denL_map, List.map_map]
    exact VL_map he _
  obtain ⟨hb, hsnd⟩ := hE.fns k _ S hS
  rw [run_call hv1 hb]
  -- what the call hands back is laid into the memory
  have fin : ∀ {I1 Ic I' own o1 o2 : Nat → Prop} {m1 m2 : MT T} {loc1 : Nat → Nat → Loc} {ids : List Nat} {vs : List Value} {res : tyO T S.ps × tyFs T S.rs} {w' : World}, Took E.C O I w loc L m own I1 m1 loc1 → Lent m m1 loc1 L S.ps ids (args.toList.map ρ ++ us) →
      Fr (fun k => own k ∨ w.heap.size ≤ k) w w' → (∀ b, rowSize w b ≤ rowSize w' b) → (∀ k, I1 k → I' k) → (∀ k, I' k → I1 k ∨ own k ∨ w.heap.size ≤ k) → (∀ k, I' k → k < w'.heap.size) → (∀ k, o1 k ∨ o2 k → (own k ∨ w.heap.size ≤ k) ∧ ¬ I' k ∧ k < w'.heap.size) → (∀ k, o1 k → ¬ o2 k) →
      SVOuts E.C I' w' S.ps res.1 (args.toList.map ρ ++ us) o1 → SVVs E.C I' w' S.rs res.2 vs o2 → backO E.C m S.ps ids res.1 m1 = some m2 →
      ∃ loc' L', MRel O I' loc' (denM E.C (m2 ++ (encFVs E.C m2.length S.rs res.2).2)) w' ∧ WfM L' (m2 ++ (encFVs E.C m2.length S.rs res.2).2) ∧ V I' w' (den E.C (oneOf (encFVs E.C m2.length S.rs res.2).1)) loc' (resV vs) ∧ WfD L' (oneOf (encFVs E.C m2.length S.rs res.2).1) ∧ Ext I I' w w' ∧ (∀ k, I' k → I k ∨ O k) ∧ LocExt loc loc' ∧ LExt loc L L' ∧ Fr O w w' := by
    intro I1 Ic I' own o1 o2 m1 m2 loc1 ids vs res w' tk hl f1 f2 f3 f4 f5 f6 f7 f8 f9 hbk
    have hoI : ∀ k, own k → ¬ I1 k := fun k h => (tk.got k h).1
    have hOwn : ∀ k, own k → O k ∧ k < w.heap.size := fun k h => ⟨((tk.got k h).2.facts hm).1, ((tk.got k h).2.facts hm).2.2⟩
    obtain ⟨q1, q2⟩ := tk.mem.stepO f1 f2 f3 f4 f5 hoI (fun b g k hb ho hk q => (tk.rest k ⟨b, g, hb, ho, hk⟩).1 q)
    have hmine : ∀ {o : Nat → Prop}, (∀ k, o k → o1 k ∨ o2 k) → Mine E.C O I' w' loc1 m1 o := fun {o} ho => ⟨fun k hk => by
        obtain ⟨u1, u2, u3⟩ := f6 k (ho k hk)
        refine ⟨?_, u2, u3⟩
        rcases u1 with u | u
        · exact (hOwn k u).1
        · exact hm.up k u, fun k hk hq => by
        obtain ⟨u1, u2, u3⟩ := f6 k (ho k hk)
        rcases u1 with u | u
        · exact (tk.rest k hq).1 u
        · have := (hq.facts tk.mem).2.2; omega⟩
    obtain ⟨loc2, L2, c1, c2, c3, c4, c5, c6⟩ := back_ok hE.cd m S.ps q1 tk.wf f8 (hmine fun k h => .inl h) hl hbk
    obtain ⟨loc3, L3, d1, d2, d3⟩ := put_vs hE.cd S.rs c1 c2 f9 ⟨(hmine (o := o2) fun k h => .inr h).facts, fun k hk hq => by
      rcases c5 k hq with q | q
      · exact (hmine (o := o2) fun k h => .inr h).apart k hk q
      · exact f7 k q hk⟩
    obtain ⟨r1, r2⟩ := resV_V d2 d3
    refine ⟨loc3, L3, d1.mem, d1.wf, r1, r2, (imm_all2 tk.imm0).trans q2, fun k hk => ?_, (tk.ext.trans c3).trans d1.ext, ?_, ?_⟩
    · rcases f4 k hk with h | h | h
      · rcases tk.imm1 k h with h | h
        · exact .inl h
        · exact .inr (h.facts hm).1
      · exact .inr (hOwn k h).1
      · exact .inr (hm.up k h)
    · have := c4.trans c3 d1.lext
      exact fun b g hne => this b g (tk.ext.free_of hne)
    · exact ⟨f1.os, f1.tape, f1.output, f1.size, fun b hb hO => f1.block b hb (fun q => q.elim (fun q => hO (hOwn b q).1) (fun q => by omega))⟩
  cases hsn : (S.ps.all Slot.isV && S.rs.all (Fld.flat E.fl)) with
  | false =>
    rw [hsn] at h
    obtain ⟨x, ids, own, I1, m1, loc1, tk, h2, h3, h4, h5⟩ := args_ok hE.cd m S.ps hm hw hwl hvl (fun b g c l h => h) h
    rw [Option.bind_eq_some_iff] at h5
    obtain ⟨res, h6, h7⟩ := h5
    split at h7
    case h_2 => cases h7
    rename_i m2 hbk
    refine ⟨_, _, ?_, h7⟩
    intro a next Q hn
    simp only [Oper.upon]
    refine (hsnd I1 own w _ x res tk.mem.imm (fun k h => ⟨(tk.got k h).1, ((tk.got k h).2.facts hm).2.2⟩) (Glob_mono hG (imm_all2 tk.imm0)) h2 h6).mono ?_
    rintro _ w' ⟨vs, I', o1, o2, rfl, f1, f2, f3, f4, f5, f6, f7, f8, f9⟩
    obtain ⟨loc', L', z1, z2, z3, z4, z5, z6, z7, z8, z9⟩ := fin (Ic := I) tk h3 f1 f2 f3 f4 f5 f6 f7 f8 f9 hbk
    exact hn _ w' I' loc' L' z1 z2 (Glob_mono hG z5) z3 z4 z5 z6 z7 z8 z9
  | true =>
    rw [hsn] at h
    simp only [Bool.and_eq_true] at hsn
    obtain ⟨x, h2, h5⟩ := argsV_ok hE.cd hm hw S.ps hsn.1 hwl hvl h
    rw [Option.bind_eq_some_iff] at h5
    obtain ⟨res, h6, h7⟩ := h5
    split at h7
    case h_2 => cases h7
    rename_i m2 hbk
    refine ⟨_, _, ?_, h7⟩
    intro a next Q hn
    simp only [Oper.upon]
    refine (hsnd (fun k => k < w.heap.size) none' w _ x res (fun _ h => h) (fun _ h => h.elim) (Glob_mono hG (imm_all2 hm.imm)) h2 h6).mono ?_
    rintro _ w' ⟨vs, I', o1, o2, rfl, f1, f2, f3, f4, f5, f6, f7, f8, f9⟩
    obtain ⟨n1, n2, _⟩ := noOuts (C := E.C) (m0 := m) (m := m) (loc := loc) (L := L) (y := res.1) (I2 := I) (w2 := w') hsn.1 h2
    obtain ⟨loc', L', z1, z2, z3, z4, z5, z6, z7, z8, z9⟩ := fin (Ic := I) (I' := I) (o1 := none') (o2 := o2) (Took.refl hm hw) n2 f1 f2 (fun _ h => h) (fun _ h => .inl h) (fun k hk => Nat.lt_of_lt_of_le (hm.imm k hk) f1.size)
      (fun k hk => by
        have hk : o2 k := hk.elim (fun q => q.elim) id
        obtain ⟨u1, u2, u3⟩ := f6 k (.inr hk)
        exact ⟨u1, fun hI => u2 (f3 k (hm.imm k hI)), u3⟩) (fun _ h => h.elim) n1 (SVVs_flat hE.cd hE.fl hsn.2 f9) hbk
    exact hn _ w' I loc' L' z1 z2 (Glob_mono hG z5) z3 z4 z5 z6 z7 z8 z9
end
end Go.Abs

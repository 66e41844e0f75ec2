/- Drawn regions: an operation on its own part of the memory is followed. No condition. -/
import Derived.Test.YtlinfghjilpcdaaTyY
namespace Go.Abs
open Go
set_option linter.unusedSimpArgs false
set_option linter.unusedVariables false
set_option maxHeartbeats 800000

section
variable {T : Nat → Type} {P : Program} {E : Env T} {O I0 I I' : Nat → Prop} {w0 w w' : World} {n : Nat} {kp : List (Nat × Value)} {loc loc' : Nat → Nat → Loc} {L L' : Nat → Nat → Nat} {a : Act} {R : Type} {C : Cd T} {m : MT T}

theorem blt_iff {b N : Nat} : Nat.blt b N = true ↔ b < N := by
  show Nat.ble (b + 1) N = true ↔ b < N
  rw [Nat.ble_eq]; omega
theorem inGap_iff {base wd b : Nat} : inGap base wd b = true ↔ base ≤ b ∧ b < base + wd := by
  unfold inGap
  rw [Bool.and_eq_true, blt_iff, Nat.ble_eq]
theorem renG_lt {N base b : Nat} (h : b < N) : renG N base b = b := by
  unfold renG; rw [blt_iff.2 h]
theorem renG_ge {N base b : Nat} (h : N ≤ b) : renG N base b = base + (b - N) := by
  unfold renG
  cases hb : Nat.blt b N with
  | true => have := blt_iff.1 hb; omega
  | false => rfl
theorem okG_cases {Φ : List Nat} {N base wd b : Nat} (h : okG Φ N base wd b = true) : (b < N ∧ has Φ b = true ∧ inGap base wd b = false) ∨ (N ≤ b ∧ b < N + wd) := by
  unfold okG at h
  cases hb : Nat.blt b N with
  | true =>
    rw [hb] at h
    simp only [Bool.and_eq_true, Bool.not_eq_true'] at h
    exact .inl ⟨blt_iff.1 hb, h.1, h.2⟩
  | false =>
    rw [hb] at h
    refine .inr ⟨?_, blt_iff.1 h⟩
    rcases Nat.lt_or_ge b N with q | q
    · rw [blt_iff.2 q] at hb; cases hb
    · exact q

theorem ren_lent {x : BoxT T} {ρ : Nat → Nat} (h : x.ren ρ = .lent) : x = .lent := by cases x <;> simp_all [BoxT.ren]

/-- what the check says. -/
structure Chk (Φ : List Nat) (N base wd : Nat) (d : DT T) (m m' : MT T) : Prop where
  ids : ∀ b ∈ d.ids, okG Φ N base wd b = true
  len : m'.length ≤ N + wd
  gap : base + wd ≤ N
  box : ∀ b ∈ Φ, (∀ q ∈ (m'.get b).ids, okG Φ N base wd q = true) ∧ m.get b ≠ .lent ∧ m'.get b ≠ .lent
  new : ∀ j, j < wd → (∀ q ∈ (m'.get (N + j)).ids, okG Φ N base wd q = true) ∧ m.get (base + j) = .lent ∧ m'.get (N + j) ≠ .lent
theorem chk_ok {Φ : List Nat} {N base wd : Nat} {d : DT T} {m m' : MT T} (h : chkG Φ N base wd d m m' = true) : Chk Φ N base wd d m m' := by
  simp only [chkG, Bool.and_eq_true, List.all_eq_true, Bool.not_eq_true'] at h
  obtain ⟨⟨h1, h2, h3⟩, h4, h5⟩ := h
  have nl : ∀ x : BoxT T, x.isLent = false → x ≠ .lent := fun x hx e => by rw [e] at hx; cases hx
  exact ⟨h1, Nat.le_of_ble_eq_true h2, Nat.le_of_ble_eq_true h3, fun b hb => ⟨(h4 b hb).1, nl _ (h4 b hb).2.1, nl _ (h4 b hb).2.2⟩, fun j hj => by
    have := h5 j (by simpa using hj)
    exact ⟨this.1, isLent_iff.1 this.2.1, nl _ this.2.2⟩⟩

def locG (Φ : List Nat) (N base wd : Nat) (loc loc' : Nat → Nat → Loc) : Nat → Nat → Loc := fun b g =>
  if b < N then if inGap base wd b = true then loc' (N + (b - base)) g else if has Φ b = true then loc' b g else loc b g else .free
def lenG (Φ : List Nat) (N base wd : Nat) (L L' : Nat → Nat → Nat) : Nat → Nat → Nat := fun b g =>
  if inGap base wd b = true then L' (N + (b - base)) g else if has Φ b = true then L' b g else L b g

/-- AN OPERATION ON ITS OWN PART OF THE MEMORY. -/
theorem frame_ok (hE : EnvOk P E) {σ : SF T} (h : RelT E O I0 w0 n kp I loc L σ a w) (hlent : ∀ b, σ.m.get b = .lent → ∀ g, loc b g = .free) {o : Oper} {Φ : List Nat} {base wd : Nat} {d : DT T} {m' m2 : MT T}
    (hs : semT E o.op (evT E.G σ.t) (keepM Φ 0 σ.m) = some (d, m')) (hc : Chk Φ σ.m.length base wd d σ.m m') (hlen : m2.length = σ.m.length)
    (hm2 : ∀ b, b < σ.m.length → m2.get b = if inGap base wd b = true then (m'.get (σ.m.length + (b - base))).ren (renG σ.m.length base) else if has Φ b = true then (m'.get b).ren (renG σ.m.length base) else σ.m.get b)
    (hd : ∀ k, o.dst = some k → k < n ∧ ∀ p ∈ kp, p.1 ≠ k) {K : Act → World → Prop} {Q : Exit → Act → World → Prop}
    (hK : ∀ a' w' I' loc' L', RelT E O I0 w0 n kp I' loc' L' (({ σ with m := m2 } : SF T).put o.dst (d.ren (renG σ.m.length base))) a' w' → (∀ b, m2.get b = .lent → ∀ g, loc' b g = .free) → K a' w') :
    o.upon P a K Q ((execOp a.eval o).run P w) := by
  generalize hN : σ.m.length = N at *
  let O' : Nat → Prop := fun k => O k ∧ ∀ b g, b < N → has Φ b = false → (denB E.C (σ.m.get b)).owned = true → loc b g ≠ .blk k
  have hm := h.mem
  have kget : ∀ b, b < N → (keepM Φ 0 σ.m).get b = if has Φ b = true then σ.m.get b else .lent := fun b hb => by
    have := keep_get Φ 0 σ.m b (by omega)
    rwa [Nat.zero_add] at this
  have hbx : ∀ b, (denM E.C σ.m).bx b = denB E.C (σ.m.get b) := fun _ => rfl
  have kown : ∀ b, b < N → (denB E.C ((keepM Φ 0 σ.m).get b)).owned = true → has Φ b = true ∧ (denB E.C (σ.m.get b)).owned = true := fun b hb ho => by
    rw [kget b hb] at ho
    split at ho
    · rename_i hq; exact ⟨hq, ho⟩
    · cases ho
  have hkm : MRel O' I loc (denM E.C (keepM Φ 0 σ.m)) w := by
    have hnb : (denM E.C (keepM Φ 0 σ.m)).nb = N := by simp [denM, keep_len, hN]
    have hnb0 : (denM E.C σ.m).nb = N := by simp [denM, hN]
    refine ⟨fun b hb => ?_, fun b g hb => ?_, fun b g k hb ho hk => ?_, fun b b' g g' k h1 h2 o1 o2 k1 k2 => ?_, hm.imm, fun k hk => ⟨hm.up k hk, fun b g hb hq ho e => ?_⟩⟩
    · rw [hnb] at hb
      show RelB I w loc b (denB E.C ((keepM Φ 0 σ.m).get b))
      rw [kget b hb]
      split
      · exact hm.box b (by rw [hnb0]; exact hb)
      · trivial
    · rw [hnb] at hb; exact hm.free b g (by rw [hnb0]; exact hb)
    · rw [hnb] at hb
      obtain ⟨q1, q2⟩ := kown b hb ho
      obtain ⟨p1, p2, p3⟩ := hm.own b g k (by rw [hnb0]; exact hb) q2 hk
      refine ⟨⟨p1, fun b' g' hb' hq' ho' e => ?_⟩, p2, p3⟩
      have := hm.inj b b' g g' k (by rw [hnb0]; exact hb) (by rw [hnb0]; exact hb') q2 ho' hk e
      rw [this, hq'] at q1; cases q1
    · rw [hnb] at h1 h2
      exact hm.inj b b' g g' k (by rw [hnb0]; exact h1) (by rw [hnb0]; exact h2) (kown b h1 o1).2 (kown b' h2 o2).2 k1 k2
    · have := (hm.own b g k (by rw [hnb0]; exact hb) ho e).2.2
      omega
  have hkw : WfM L (keepM Φ 0 σ.m) := fun b => by
    by_cases hb : b < N
    · rw [kget b hb]
      split
      · exact h.wfm b
      · trivial
    · rw [get_ge (by rw [keep_len]; omega)]; trivial
  have hR : RelT E O' I w n kp I loc L ⟨σ.t, keepM Φ 0 σ.m⟩ a w := ⟨h.size, h.defers, h.tmp, h.wf, hkm, hkw, h.glob, .refl _ _, fun _ => Nat.le_refl _, fun _ h => h, fun _ h => .inl h, h.kept⟩
  unfold semT at hs
  obtain ⟨d1, m1, hf, he⟩ := opK_ok hE hR hs
  simp only [Option.some.injEq, Prod.mk.injEq] at he
  obtain ⟨e1, e2⟩ := he
  replace e1 := e1.symm
  replace e2 := e2.symm
  subst e1
  subst e2
  refine hf a K Q fun v w' I' loc' L' z1 z2 z3 z4 z5 z6 z7 z8 z9 z10 => ?_
  -- where the boxes lie now
  have hok : ∀ b, okG Φ N base wd b = true → ∀ g, locG Φ N base wd loc loc' (renG N base b) g = loc' b g := fun b hb g => by
    rcases okG_cases hb with ⟨h1, h2, h3⟩ | ⟨h1, h2⟩
    · rw [renG_lt h1]; unfold locG
      rw [if_pos h1, if_neg (by rw [h3]; simp), if_pos h2]
    · rw [renG_ge h1]; unfold locG
      have := hc.gap
      rw [if_pos (by omega), if_pos (inGap_iff.2 ⟨by omega, by omega⟩)]
      congr 1; omega
  have hokL : ∀ b, okG Φ N base wd b = true → ∀ g, lenG Φ N base wd L L' (renG N base b) g = L' b g := fun b hb g => by
    rcases okG_cases hb with ⟨h1, h2, h3⟩ | ⟨h1, h2⟩
    · rw [renG_lt h1]; unfold lenG
      rw [if_neg (by rw [h3]; simp), if_pos h2]
    · rw [renG_ge h1]; unfold lenG
      rw [if_pos (inGap_iff.2 ⟨by omega, by omega⟩)]
      congr 1; omega
  have gapLent : ∀ b, inGap base wd b = true → σ.m.get b = .lent := fun b hb => by
    obtain ⟨h1, h2⟩ := inGap_iff.1 hb
    have := (hc.new (b - base) (by omega)).2.1
    rwa [show base + (b - base) = b by omega] at this
  have gapFree : ∀ b, inGap base wd b = true → ∀ g, loc b g = .free := fun b hb => hlent b (gapLent b hb)
  have hle : LocExt loc (locG Φ N base wd loc loc') := fun b g => by
    unfold locG
    split
    · split
      · rename_i hg; exact .inl (gapFree b hg g)
      · split
        · exact z8 b g
        · exact .inr (.inr rfl)
    · rename_i hb
      exact .inl (hm.free b g (by simp [denM]; omega))
  have hLe : LExt loc L (lenG Φ N base wd L L') := fun b g hne => by
    unfold lenG
    split
    · rename_i hg; exact absurd (gapFree b hg g) hne
    · split
      · exact z9 b g hne
      · rfl
  have box' : ∀ b, RelB I' w' loc' b (denB E.C (m'.get b)) := fun b => by
    by_cases hb : b < m'.length
    · exact z1.box b hb
    · rw [get_ge (by omega)]
      exact fun g => .inr (z1.free b g (by simp [denM]; omega))
  have lt' : ∀ b, (denB E.C (m'.get b)).owned = true → b < m'.length := fun b ho => by
    rcases Nat.lt_or_ge b m'.length with q | q
    · exact q
    · rw [get_ge q] at ho; cases ho
  -- the three kinds of boxes
  have three : ∀ b, b < N → (∃ b1, m2.get b = (m'.get b1).ren (renG N base) ∧ (∀ g, locG Φ N base wd loc loc' b g = loc' b1 g) ∧ (∀ g, lenG Φ N base wd L L' b g = L' b1 g) ∧ (∀ q ∈ (m'.get b1).ids, okG Φ N base wd q = true) ∧ m'.get b1 ≠ .lent ∧
        ((inGap base wd b = true ∧ b1 = N + (b - base)) ∨ (inGap base wd b = false ∧ has Φ b = true ∧ b1 = b))) ∨
      (inGap base wd b = false ∧ has Φ b = false ∧ m2.get b = σ.m.get b ∧ (∀ g, locG Φ N base wd loc loc' b g = loc b g) ∧ ∀ g, lenG Φ N base wd L L' b g = L b g) := fun b hb => by
    have e := hm2 b hb
    cases hg : inGap base wd b with
    | true =>
      rw [hg, if_pos rfl] at e
      obtain ⟨h1, h2⟩ := inGap_iff.1 hg
      have hn := hc.new (b - base) (by omega)
      exact .inl ⟨N + (b - base), e, fun g => by unfold locG; rw [if_pos hb, hg, if_pos rfl], fun g => by unfold lenG; rw [hg, if_pos rfl], hn.1, hn.2.2, .inl ⟨rfl, rfl⟩⟩
    | false =>
      rw [hg] at e
      simp only [Bool.false_eq_true, if_false] at e
      cases hp : has Φ b with
      | true =>
        rw [hp, if_pos rfl] at e
        have hn := hc.box b (has_iff.1 hp)
        exact .inl ⟨b, e, fun g => by unfold locG; rw [if_pos hb, hg, hp]; simp, fun g => by unfold lenG; rw [hg, hp]; simp, hn.1, hn.2.2, .inr ⟨rfl, rfl, rfl⟩⟩
      | false =>
        rw [hp] at e
        simp only [Bool.false_eq_true, if_false] at e
        exact .inr ⟨rfl, rfl, e, fun g => by unfold locG; rw [if_pos hb, hg, hp]; simp, fun g => by unfold lenG; rw [hg, hp]; simp⟩
  have src_inj : ∀ b b', b < N → b' < N → ∀ b1 b1', ((inGap base wd b = true ∧ b1 = N + (b - base)) ∨ (inGap base wd b = false ∧ has Φ b = true ∧ b1 = b)) → ((inGap base wd b' = true ∧ b1' = N + (b' - base)) ∨ (inGap base wd b' = false ∧ has Φ b' = true ∧ b1' = b')) → b1 = b1' → b = b' := by
    rintro b b' hb hb' b1 b1' (⟨q1, q2⟩ | ⟨q1, _, q2⟩) (⟨p1, p2⟩ | ⟨p1, _, p2⟩) e
    · have := inGap_iff.1 q1; have := inGap_iff.1 p1; omega
    · omega
    · omega
    · omega
  have nb2 : (denM E.C m2).nb = N := by simp [denM, hlen]
  have old : ∀ b g k, b < N → has Φ b = false → (denB E.C (σ.m.get b)).owned = true → loc b g = .blk k → ¬ O' k := fun b g k hb hq ho hk hO => hO.2 b g hb hq ho hk
  have hI2 : ∀ k, I' k → I k ∨ O k := fun k hk => (z7 k hk).imp id (·.1)
  have hfr : Fr O w w' := ⟨z10.os, z10.tape, z10.output, z10.size, fun b hb hO => z10.block b hb (fun q => hO q.1)⟩
  have hmem : MRel O I' (locG Φ N base wd loc loc') (denM E.C m2) w' := by
    refine ⟨fun b hb => ?_, fun b g hb => ?_, fun b g k hb ho hk => ?_, fun b b' g g' k h1 h2 o1 o2 k1 k2 => ?_, z1.imm, fun k hk => (z1.up k hk).1⟩
    · rw [nb2] at hb
      show RelB I' w' _ b (denB E.C (m2.get b))
      rcases three b hb with ⟨b1, e1, e2, e3, e4, e5, e6⟩ | ⟨q1, q2, e1, e2, e3⟩
      · rw [e1]
        exact RelB_ren e2 (fun q hq => hok q (e4 q hq)) (box' b1)
      · rw [e1]
        refine RelB_mono z6 hle e2 (fun ho g k hk => ?_) (hm.box b (by simp [denM]; omega))
        have hlt := (hm.own b g k (by simp [denM]; omega) ho hk).2.2
        exact z10.block k hlt (old b g k hb q2 ho hk)
    · rw [nb2] at hb
      unfold locG
      rw [if_neg (by omega)]
    · rw [nb2] at hb
      have ho' : (denB E.C (m2.get b)).owned = true := ho
      rcases three b hb with ⟨b1, e1, e2, e3, e4, e5, e6⟩ | ⟨q1, q2, e1, e2, e3⟩
      · rw [e1, owned_ren] at ho'
        rw [e2] at hk
        have := z1.own b1 g k (lt' b1 ho') ho' hk
        exact ⟨this.1.1, this.2⟩
      · rw [e1] at ho'
        rw [e2] at hk
        have := hm.own b g k (by simp [denM]; omega) ho' hk
        refine ⟨this.1, fun hI => ?_, Nat.lt_of_lt_of_le this.2.2 z10.size⟩
        rcases z7 k hI with q | q
        · exact this.2.1 q
        · exact old b g k hb q2 ho' hk q
    · rw [nb2] at h1 h2
      have o1' : (denB E.C (m2.get b)).owned = true := o1
      have o2' : (denB E.C (m2.get b')).owned = true := o2
      rcases three b h1 with ⟨b1, e1, e2, e3, e4, e5, e6⟩ | ⟨q1, q2, e1, e2, e3⟩ <;> rcases three b' h2 with ⟨b1', e1', e2', e3', e4', e5', e6'⟩ | ⟨q1', q2', e1', e2', e3'⟩
      · rw [e1, owned_ren] at o1'; rw [e1', owned_ren] at o2'
        rw [e2] at k1; rw [e2'] at k2
        exact src_inj b b' h1 h2 b1 b1' e6 e6' (z1.inj b1 b1' g g' k (lt' _ o1') (lt' _ o2') o1' o2' k1 k2)
      · rw [e1, owned_ren] at o1'; rw [e1'] at o2'
        rw [e2] at k1; rw [e2'] at k2
        exact absurd (z1.own b1 g k (lt' _ o1') o1' k1).1 (old b' g' k h2 q2' o2' k2)
      · rw [e1] at o1'; rw [e1', owned_ren] at o2'
        rw [e2] at k1; rw [e2'] at k2
        exact absurd (z1.own b1' g' k (lt' _ o2') o2' k2).1 (old b g k h1 q2 o1' k1)
      · rw [e1] at o1'; rw [e1'] at o2'
        rw [e2] at k1; rw [e2'] at k2
        exact hm.inj b b' g g' k (by simp [denM]; omega) (by simp [denM]; omega) o1' o2' k1 k2
  have hwfm : WfM (lenG Φ N base wd L L') m2 := fun b => by
    by_cases hb : b < N
    · rcases three b hb with ⟨b1, e1, e2, e3, e4, e5, e6⟩ | ⟨q1, q2, e1, e2, e3⟩
      · rw [e1]; exact WfB_ren e3 (fun q hq => hokL q (e4 q hq)) (z2 b1)
      · rw [e1]; exact WfM_ext hm hLe h.wfm b (by omega)
    · rw [get_ge (by omega)]; trivial
  have := h.put (m' := m2) (w' := w') (I' := I') (loc' := locG Φ N base wd loc loc') (L' := lenG Φ N base wd L L') (d := d.ren (renG N base)) (v := v) o.dst hd hmem hwfm z3
    (V_ren d v (fun b hb => hok b (hc.ids b hb)) z4) (WfD_ren d (fun b hb => hokL b (hc.ids b hb)) z5) z6 hI2 hle hLe hfr
  refine hK _ _ _ _ _ this fun b hb g => ?_
  by_cases hlt : b < N
  · rcases three b hlt with ⟨b1, e1, e2, e3, e4, e5, e6⟩ | ⟨q1, q2, e1, e2, e3⟩
    · rw [e1] at hb
      exact absurd (ren_lent hb) e5
    · rw [e2]; exact hlent b (by rw [← e1]; exact hb) g
  · unfold locG; rw [if_neg hlt]
end
end Go.Abs

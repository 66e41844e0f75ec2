/- Drawn regions whose operations work on parts of the memory that are apart. No condition. -/
import Derived.Test.YtlinfghjilpcdaaTyYc
namespace Go.Abs
open Go
set_option linter.unusedSimpArgs false
set_option linter.unusedVariables false

section
variable {T : Nat → Type} {P : Program} {E : Env T} {O I0 I I' : Nat → Prop} {w0 w w' : World} {n : Nat} {kp : List (Nat × Value)} {loc loc' : Nat → Nat → Loc} {L L' : Nat → Nat → Nat} {a : Act} {R : Type} {ops : Array Oper} {acc : List (List Nat × Nat)}

def LentFree (m : MT T) (loc : Nat → Nat → Loc) : Prop := ∀ b, m.get b = .lent → ∀ g, loc b g = .free

theorem put_mem (σ : SF T) (dst : Option Nat) (d : DT T) : (σ.put dst d).m = σ.m := by cases dst <;> rfl

theorem semG_ok (hE : EnvOk P E) {σ : SF T} (h : RelT E O I0 w0 n kp I loc L σ a w) (hl : LentFree σ.m loc) {o : Oper} {Φ : List Nat} {base : Nat} {d : DT T} {m2 : MT T} (hs : semG E o.op (evT E.G σ.t) σ.m Φ base = some (d, m2))
    (hd : ∀ k, o.dst = some k → k < n ∧ ∀ p ∈ kp, p.1 ≠ k) {K : Act → World → Prop} {Q : Exit → Act → World → Prop}
    (hK : ∀ a' w' I' loc' L', RelT E O I0 w0 n kp I' loc' L' (({ σ with m := m2 } : SF T).put o.dst d) a' w' → LentFree m2 loc' → K a' w') : o.upon P a K Q ((execOp a.eval o).run P w) := by
  unfold semG semGK at hs
  split at hs
  · rename_i hc
    unfold opK at hs
    rw [hc] at hs
    simp only at hs
    obtain ⟨d1, h1, h2, h3⟩ := nK_ok (L := L) hE.tys hE.cd (fun x => (evT_ok h x).2) hs
    simp only [Option.some.injEq, Prod.mk.injEq] at h3
    obtain ⟨rfl, rfl⟩ := h3
    obtain ⟨v, hv1, hv2⟩ := semN_ok (P := P) (o := o) (fun x => (evT_ok h x).1) h1
    rw [hv1]
    exact hK _ _ _ _ _ (h.put o.dst hd h.mem h.wfm h.glob hv2 h2 (.refl _ _) (fun _ h => .inl h) (.refl _) (.refl _ _) (.refl _ _)) hl
  · rename_i hc
    rw [opK_law, Option.bind_eq_some_iff] at hs
    obtain ⟨⟨d1, m1⟩, h1, h2⟩ := hs
    simp only at h2
    split at h2
    case h_2 => cases h2
    rename_i hk
    simp only [Option.some.injEq, Prod.mk.injEq] at h2
    obtain ⟨rfl, rfl⟩ := h2
    have hck := chk_ok hk
    have hm1 := semT_r hc h1
    have ids_lt : ∀ b, okG Φ σ.m.length 0 0 b = true → renG σ.m.length 0 b = b := fun b hb => by
      rcases okG_cases hb with ⟨q, _⟩ | ⟨q1, q2⟩
      · exact renG_lt q
      · omega
    have hdr : d1.ren (renG σ.m.length 0) = d1 := ren_id d1 fun b hb => ids_lt b (hck.ids b hb)
    have := frame_ok hE h hl (m2 := σ.m) (Q := Q) (K := K) h1 hck rfl (fun b hb => by
      have hg : inGap 0 0 b = false := by
        cases hq : inGap 0 0 b with
        | false => rfl
        | true => have := inGap_iff.1 hq; omega
      rw [hg]
      simp only [Bool.false_eq_true, if_false]
      split
      · rename_i hp
        have hm' : m1.get b = σ.m.get b := by
          rw [hm1, keep_get Φ 0 σ.m b hb, Nat.zero_add, if_pos hp]
        rw [box_ren_id fun q hq => ids_lt q ((hck.box b (has_iff.1 hp)).1 q hq), hm']
      · rfl) hd (by rw [hdr]; exact hK)
    exact this
  · rename_i hc
    rw [opK_law, Option.bind_eq_some_iff] at hs
    obtain ⟨⟨d1, m1⟩, h1, h2⟩ := hs
    simp only at h2
    split at h2
    case h_2 => cases h2
    rename_i hk
    simp only [Option.some.injEq, Prod.mk.injEq] at h2
    obtain ⟨rfl, rfl⟩ := h2
    exact frame_ok hE h hl h1 (chk_ok hk) (merge_len _ _ _ _ _ _ _) (fun b hb => by rw [merge_get _ _ _ _ _ _ _ _ hb, Nat.zero_add]) hd hK

theorem stepOG_ok (hE : EnvOk P E) {σ : SF T} (h : RelT E O I0 w0 n kp I loc L σ a w) (hl : LentFree σ.m loc) {i : Nat} {o : Oper} (hi : ops[i]? = some o) (hd : ∀ k, o.dst = some k → k < n ∧ ∀ p ∈ kp, p.1 ≠ k) {σ' : SF T} (hs : stepOG E ops acc i o σ = some σ')
    {K : Act → World → Prop} {Q : Exit → Act → World → Prop} (hK : ∀ a' w' I' loc' L', RelT E O I0 w0 n kp I' loc' L' σ' a' w' → LentFree σ'.m loc' → K a' w') : wpOp P ops Q i K a w := by
  unfold stepOG at hs
  unfold wpOp
  simp only [hi]
  split at hs
  · cases hs
  · rename_i hg
    rw [gdT_ok h hg]
    simp only [Option.some.injEq] at hs; subst hs
    simp only [Bool.false_eq_true, if_false]
    refine hK _ _ I loc L ?_ (by rw [put_mem]; exact hl)
    exact h.put (d := .tup []) (v := undef) o.dst hd h.mem h.wfm h.glob (by simp only [den, denL, V, VL]; exact ⟨[], rfl, rfl⟩) trivial (.refl _ _) (fun _ h => .inl h) (.refl _) (.refl _ _) (.refl _ _)
  · rename_i hg
    rw [gdT_ok h hg]
    simp only [if_true]
    split at hs
    case h_2 => cases hs
    rename_i d m' hsem
    simp only [Option.some.injEq] at hs; subst hs
    left
    exact semG_ok hE h hl hsem hd fun a' w' I' loc' L' z1 z2 => hK a' w' I' loc' L' z1 (by rw [put_mem]; exact z2)

theorem runOpsG_ok (hE : EnvOk P E) (hd : ∀ (i : Nat) (o : Oper) (k : Nat), ops[i]? = some o → o.dst = some k → k < n ∧ ∀ p ∈ kp, p.1 ≠ k) {Q : Exit → Act → World → Prop} : ∀ (l : List Nat) {σ σ' : SF T} {I : Nat → Prop} {loc : Nat → Nat → Loc} {L : Nat → Nat → Nat} {a : Act} {w : World},
    RelT E O I0 w0 n kp I loc L σ a w → LentFree σ.m loc → runOpsG E ops acc l σ = some σ' → (∀ a' w' I' loc' L', RelT E O I0 w0 n kp I' loc' L' σ' a' w' → LentFree σ'.m loc' → Q .normal a' w') → wpOps P ops Q l a w
  | [], σ, σ', I, loc, L, a, w, h, hl, hr, hQ => by
    simp only [runOpsG, Option.some.injEq] at hr; subst hr
    exact hQ _ _ _ _ _ h hl
  | i :: r, σ, σ', I, loc, L, a, w, h, hl, hr, hQ => by
    simp only [runOpsG] at hr
    split at hr
    case h_2 => cases hr
    rename_i o ho
    split at hr
    case h_2 => cases hr
    rename_i σ1 hs
    rw [wpOps_cons]
    exact stepOG_ok hE h hl ho (fun k hk => hd i o k ho hk) hs fun a' w' I' loc' L' h' hl' => runOpsG_ok hE hd r h' hl' hr hQ

/-! ### the text's order -/
theorem runGK_ok : ∀ (l : List Oper) (is : List Nat) (base : Nat) (acc : List (List Nat × Nat)) (σ : ST T) (K : List (List Nat × Nat) → ST T → Option R) (r : R), l.map some = is.map (ops[·]?) → is = List.range' acc.length l.length → runGK E ops l base acc σ K = some r →
    ∃ acc' σ', (∀ j, j < acc.length → acc'[j]? = acc[j]?) ∧ runOpsG E ops acc' is σ.f = some σ'.f ∧ K acc' σ' = some r
  | [], is, base, acc, σ, K, r, hl, hi, h => by
    have : is = [] := by simpa using hl.symm
    subst this
    exact ⟨acc, σ, fun _ _ => rfl, rfl, h⟩
  | o :: l, is, base, acc, σ, K, r, hl, hi, h => by
    simp only [List.length_cons, List.range'_succ] at hi
    subst hi
    simp only [List.map_cons, List.cons.injEq] at hl
    obtain ⟨ho, hl⟩ := hl
    have nx : ∀ (p : List Nat × Nat) (σ1 : ST T), runGK E ops l (base + widthG E o.op) (acc ++ [p]) σ1 K = some r → ∃ acc' σ', (∀ j, j < acc.length → acc'[j]? = acc[j]?) ∧ acc'.getD acc.length ([], 0) = p ∧ runOpsG E ops acc' (List.range' (acc.length + 1) l.length) σ1.f = some σ'.f ∧ K acc' σ' = some r := fun p σ1 h => by
      obtain ⟨acc', σ', g1, g2, g3⟩ := runGK_ok l _ _ (acc ++ [p]) σ1 K r hl (by simp) h
      refine ⟨acc', σ', fun j hj => ?_, ?_, g2, g3⟩
      · rw [g1 j (by simp; omega), List.getElem?_append_left hj]
      · rw [List.getD_eq_getElem?_getD, g1 acc.length (by simp)]
        simp
    have step : ∀ σ1 : ST T, σ1.f = σ.f → gdT ops o σ.f.t = some true → stepGK E o base σ1 (fun Φ σ' => runGK E ops l (base + widthG E o.op) (acc ++ [(Φ, base)]) σ' K) = some r →
        ∃ acc' σ', (∀ j, j < acc.length → acc'[j]? = acc[j]?) ∧ runOpsG E ops acc' (acc.length :: List.range' (acc.length + 1) l.length) σ.f = some σ'.f ∧ K acc' σ' = some r := by
      intro σ1 h1 hg h
      unfold stepGK at h
      rw [semGK_law, Option.bind_eq_some_iff] at h
      obtain ⟨⟨d, m'⟩, h2, h3⟩ := h
      obtain ⟨acc', σ', g1, g2, g3, g4⟩ := nx _ _ h3
      refine ⟨acc', σ', g1, ?_, g4⟩
      have h2' : semG E o.op (evT E.G σ.f.t) σ.f.m (acc'.getD acc.length ([], 0)).1 (acc'.getD acc.length ([], 0)).2 = some (d, m') := by rw [← h1, g2]; exact h2
      simp only [runOpsG, ← ho, stepOG, hg, h2']
      rw [put_toF] at g3
      have : ({ σ.f with m := m' } : SF T) = (⟨σ1.ts, m'⟩ : ST T).f := by rw [← h1]; rfl
      rw [this]; exact g3
    have skip : ∀ σ1 : ST T, σ1.f = σ.f → gdT ops o σ.f.t = some false → runGK E ops l (base + widthG E o.op) (acc ++ [([], base)]) (ST.put σ1 o.dst (.tup [])) K = some r →
        ∃ acc' σ', (∀ j, j < acc.length → acc'[j]? = acc[j]?) ∧ runOpsG E ops acc' (acc.length :: List.range' (acc.length + 1) l.length) σ.f = some σ'.f ∧ K acc' σ' = some r := by
      intro σ1 h1 hg h
      obtain ⟨acc', σ', g1, g2, g3, g4⟩ := nx _ _ h
      refine ⟨acc', σ', g1, ?_, g4⟩
      simp only [runOpsG, ← ho, stepOG, hg]
      rw [put_toF, h1] at g3
      exact g3
    have same : ∀ (k : Nat) (d : DT T), tget σ.ts k = d → (⟨(k, d) :: σ.ts, σ.m⟩ : ST T).f = σ.f := fun k d hd => by
      simp only [ST.f, tget_cons]
      rw [← hd, updSameT]
    simp only [runGK] at h
    split at h
    · rename_i hg
      exact step σ rfl (by simp [gdT, hg]) h
    · rename_i k hg
      split at h
      · rename_i b hb
        cases b with
        | true => exact step _ (same k _ hb) (by simp [gdT, hg, ST.f, hb]) h
        | false => exact skip _ (same k _ hb) (by simp [gdT, hg, ST.f, hb]) h
      · rename_i hb
        exact skip _ rfl (by simp [gdT, hg, ST.f, hb]) h
      · cases h
    · rename_i k hg
      split at h
      · rename_i b hb
        cases b with
        | true => exact skip _ (same k _ hb) (by simp [gdT, hg, ST.f, hb]) h
        | false => exact step _ (same k _ hb) (by simp [gdT, hg, ST.f, hb]) h
      · rename_i hb
        exact skip _ rfl (by simp [gdT, hg, ST.f, hb]) h
      · cases h
    · cases h

/-! ### a region's beginning and end -/
theorem clear_len : ∀ (m : MT T), (clearM m).length = m.length
  | [] => rfl
  | x :: r => by simp [clearM, clear_len r]
theorem clear_get : ∀ (m : MT T) (b : Nat), (clearM m).get b = if (m.get b).isLent = true then .gone else m.get b
  | [], b => by simp [clearM, MT.get, BoxT.isLent]
  | x :: r, 0 => by
    simp only [clearM, get_cons_zero]
    cases x <;> simp [BoxT.isLent]
  | x :: r, b + 1 => by
    simp only [clearM, get_cons_succ]
    exact clear_get r b
theorem RelT.clear {σ : SF T} (h : RelT E O I0 w0 n kp I loc L σ a w) (hl : LentFree σ.m loc) : RelT E O I0 w0 n kp I loc L ⟨σ.t, clearM σ.m⟩ a w := by
  have hm := h.mem
  have hnb : (denM E.C (clearM σ.m)).nb = (denM E.C σ.m).nb := by simp [denM, clear_len]
  have ho : ∀ b, ((denM E.C (clearM σ.m)).bx b).owned = true → ((denM E.C σ.m).bx b).owned = true := fun b q => by
    simp only [denM] at q ⊢
    rw [clear_get] at q
    split at q
    · cases q
    · exact q
  refine ⟨h.size, h.defers, h.tmp, h.wf, ⟨fun b hb => ?_, fun b g hb => hm.free b g (by rw [← hnb]; exact hb), fun b g k hb q hk => hm.own b g k (by rw [← hnb]; exact hb) (ho b q) hk, fun b b' g g' k h1 h2 o1 o2 => hm.inj b b' g g' k (by rw [← hnb]; exact h1) (by rw [← hnb]; exact h2) (ho b o1) (ho b' o2), hm.imm, hm.up⟩, fun b => ?_, h.glob, h.fr, h.rows, h.imm0, h.imm1, h.kept⟩
  · rw [hnb] at hb
    show RelB I w loc b (denB E.C ((clearM σ.m).get b))
    rw [clear_get]
    split
    · rename_i hq; exact fun g => .inr (hl b (isLent_iff.1 hq) g)
    · exact hm.box b hb
  · rw [clear_get]
    split
    · trivial
    · exact h.wfm b

theorem get_app {m : MT T} {k b : Nat} : MT.get (m ++ List.replicate k .lent) b = if b < m.length then m.get b else if b < m.length + k then .lent else .gone := by
  unfold MT.get
  rw [List.getD_eq_getElem?_getD, List.getElem?_append]
  split
  · simp [List.getD]
  · rw [List.getElem?_replicate]
    split
    · rw [if_pos (by omega)]; rfl
    · rw [if_neg (by omega)]; rfl
theorem RelT.gaps {σ : SF T} (h : RelT E O I0 w0 n kp I loc L σ a w) (hn : (List.all σ.m fun x => !x.isLent) = true) (k : Nat) : RelT E O I0 w0 n kp I loc L ⟨σ.t, σ.m ++ List.replicate k .lent⟩ a w ∧ LentFree (σ.m ++ List.replicate k .lent) loc := by
  have hm := h.mem
  have nl : ∀ b, b < σ.m.length → σ.m.get b ≠ .lent := fun b hb e => by
    have := List.all_eq_true.1 hn (σ.m.get b) (by
      unfold MT.get
      rw [List.getD_eq_getElem?_getD, List.getElem?_eq_getElem hb]
      exact List.getElem_mem hb)
    rw [e] at this; cases this
  have hfree : ∀ b g, σ.m.length ≤ b → loc b g = .free := fun b g hb => hm.free b g (by simpa [denM] using hb)
  have low : ∀ b, b < σ.m.length + k → ((denM E.C (σ.m ++ List.replicate k .lent)).bx b).owned = true → b < σ.m.length ∧ ((denM E.C σ.m).bx b).owned = true := fun b hb q => by
    simp only [denM, get_app] at q ⊢
    split at q
    · rename_i hq; exact ⟨hq, q⟩
    · first | (cases q; done) | (split at q <;> cases q)
  have hnb : (denM E.C (σ.m ++ List.replicate k .lent)).nb = σ.m.length + k := by simp [denM]
  have hnb0 : (denM E.C σ.m).nb = σ.m.length := rfl
  refine ⟨⟨h.size, h.defers, h.tmp, h.wf, ⟨fun b hb => ?_, fun b g hb => hfree b g (by rw [hnb] at hb; omega), fun b g q hb o hk => ?_, fun b b' g g' q h1 h2 o1 o2 k1 k2 => ?_, hm.imm, hm.up⟩, fun b => ?_, h.glob, h.fr, h.rows, h.imm0, h.imm1, h.kept⟩, fun b hb g => ?_⟩
  · show RelB I w loc b (denB E.C (MT.get (σ.m ++ List.replicate k .lent) b))
    rw [get_app]
    split
    · rename_i hq; exact hm.box b hq
    · split
      · trivial
      · exact fun g => .inr (hfree b g (by omega))
  · rw [hnb] at hb
    obtain ⟨q1, q2⟩ := low b hb o
    exact hm.own b g q q1 q2 hk
  · rw [hnb] at h1 h2
    obtain ⟨q1, q2⟩ := low b h1 o1
    obtain ⟨p1, p2⟩ := low b' h2 o2
    exact hm.inj b b' g g' q q1 p1 q2 p2 k1 k2
  · show WfB L b (MT.get (σ.m ++ List.replicate k .lent) b)
    rw [get_app]
    split
    · exact h.wfm b
    · split <;> trivial
  · rw [get_app] at hb
    split at hb
    · rename_i hq; exact absurd hb (nl b hq)
    · exact hfree b g (by omega)

/-- A REGION. -/
theorem regionG_ok (hmix : P.follows .mixedOrders = true) (hE : EnvOk P E) (hd : ∀ (i : Nat) (o : Oper) (k : Nat), ops[i]? = some o → o.dst = some k → k < n ∧ ∀ p ∈ kp, p.1 ≠ k) {σ : ST T} (h : RelT E O I0 w0 n kp I loc L σ.f a w) {K : ST T → Option R} {r : R} (hr : regionG E ops σ K = some r) {id : Nat} {draw : Bool} {Q : Exit → Act → World → Prop}
    (hQ : ∀ τ a' w' I' loc' L', RelT E O I0 w0 n kp I' loc' L' τ.f a' w' → K τ = some r → Q .normal a' w') : (Code.region id ops draw).wp P Q a w := by
  unfold regionG at hr
  split at hr
  case h_2 => cases hr
  rename_i hn
  obtain ⟨acc, τ, _, h1, h2⟩ := runGK_ok ops.toList (List.range ops.size) _ [] _ _ r (range_map ops) (by simp [List.range_eq_range']) hr
  split at h2
  case h_2 => cases h2
  rename_i hp
  have fin : ∀ (l : List Nat) (a : Act) (w : World), RelT E O I0 w0 n kp I loc L σ.f a w → runOpsG E ops acc l (⟨σ.ts, σ.m ++ List.replicate (widths E ops.toList) .lent⟩ : ST T).f = some τ.f → wpOps P ops Q l a w := fun l a w h hl => by
    obtain ⟨g1, g2⟩ := h.gaps hn (widths E ops.toList)
    exact runOpsG_ok hE hd l g1 g2 hl fun a' w' I' loc' L' z1 z2 => hQ ⟨τ.ts, clearM τ.m⟩ _ _ _ _ _ (z1.clear z2) h2
  cases draw with
  | false => exact wp_region (fin _ _ _ h h1)
  | true => exact wp_region_draw fun t => fin _ _ _ h.drew (run_scheduleG hmix hp t h1)
end
end Go.Abs

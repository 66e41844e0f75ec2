/- Drawn regions: operations on parts of the memory that are apart may be exchanged. No condition. -/
import Derived.Test.YtlinfghjilpcdaaTyYb
namespace Go.Abs
open Go
set_option linter.unusedSimpArgs false
set_option linter.unusedVariables false

section
variable {T : Nat → Type} {P : Program} {E : Env T} {ops : Array Oper} {R : Type} {m : MT T} {acc : List (List Nat × Nat)}

def semG (E : Env T) (o : Op) (e : Operand → DT T) (m : MT T) (Φ : List Nat) (base : Nat) : Option (DT T × MT T) := semGK E o e m Φ base fun d m => some (d, m)
theorem semGK_law (o : Op) (e : Operand → DT T) (m : MT T) (Φ : List Nat) (base : Nat) (K : DT T → MT T → Option R) : semGK E o e m Φ base K = (semG E o e m Φ base).bind fun p => K p.1 p.2 := by
  unfold semG semGK
  split
  · rw [opK_law, opK_law (R := DT T × MT T), Option.bind_assoc]; rfl
  · rw [opK_law, opK_law (R := DT T × MT T), Option.bind_assoc]
    congr 1; funext p
    split <;> rfl
  · rw [opK_law, opK_law (R := DT T × MT T), Option.bind_assoc]
    congr 1; funext p
    split <;> rfl

theorem semG_n {o : Op} {e : Operand → DT T} {m m' : MT T} {d : DT T} {Φ : List Nat} {base : Nat} (hc : clsT E o = .n) (h : semG E o e m Φ base = some (d, m')) : m' = m ∧ ∀ m2, semG E o e m2 Φ base = some (d, m2) := by
  have eq : ∀ m2, semG E o e m2 Φ base = semT E o e m2 := fun m2 => by unfold semG semGK; rw [hc]; rfl
  rw [eq] at h
  obtain ⟨h1, h2⟩ := semT_n hc h
  exact ⟨h1, fun m2 => by rw [eq]; exact h2 m2⟩

theorem MT_ext {m1 m2 : MT T} (hl : m1.length = m2.length) (h : ∀ b, b < m1.length → m1.get b = m2.get b) : m1 = m2 := by
  apply List.ext_getElem hl
  intro i h1 h2
  have := h i h1
  simpa [MT.get, List.getD, h1, h2] using this
theorem keep_congr {Φ : List Nat} {m1 m2 : MT T} (hl : m2.length = m1.length) (h : ∀ b ∈ Φ, m2.get b = m1.get b) : keepM Φ 0 m2 = keepM Φ 0 m1 := by
  refine MT_ext (by rw [keep_len, keep_len, hl]) fun b hb => ?_
  rw [keep_len] at hb
  rw [keep_get Φ 0 m2 b hb, keep_get Φ 0 m1 b (by omega)]
  split
  · rename_i hq; exact h b (by rw [Nat.zero_add] at hq; exact has_iff.1 hq)
  · rfl
theorem chk_congr {Φ : List Nat} {N base wd : Nat} {d : DT T} {m1 m2 m' : MT T} (h : ∀ b ∈ Φ, m2.get b = m1.get b) (hg : ∀ j, j < wd → m2.get (base + j) = m1.get (base + j)) : chkG Φ N base wd d m2 m' = chkG Φ N base wd d m1 m' := by
  unfold chkG
  congr 1
  congr 1
  · rw [Bool.eq_iff_iff, List.all_eq_true, List.all_eq_true]
    constructor
    · intro q b hb; rw [← h b hb]; exact q b hb
    · intro q b hb; rw [h b hb]; exact q b hb
  · rw [Bool.eq_iff_iff, List.all_eq_true, List.all_eq_true]
    constructor
    · intro q j hj; rw [← hg j (by simpa using hj)]; exact q j hj
    · intro q j hj; rw [hg j (by simpa using hj)]; exact q j hj

theorem semG_r {o : Op} {e : Operand → DT T} {m m' : MT T} {d : DT T} {Φ : List Nat} {base : Nat} (hc : clsT E o = .r) (h : semG E o e m Φ base = some (d, m')) :
    m' = m ∧ ∀ m2 : MT T, m2.length = m.length → (∀ b ∈ Φ, m2.get b = m.get b) → semG E o e m2 Φ base = some (d, m2) := by
  unfold semG semGK at *
  rw [hc] at h ⊢
  simp only at h ⊢
  rw [opK_law, Option.bind_eq_some_iff] at h
  obtain ⟨⟨d1, m1⟩, h1, h2⟩ := h
  simp only at h2
  split at h2
  · rename_i hk
    simp only [Option.some.injEq, Prod.mk.injEq] at h2
    obtain ⟨rfl, rfl⟩ := h2
    refine ⟨rfl, fun m2 hl ha => ?_⟩
    rw [opK_law, keep_congr hl ha, h1]
    simp only [Option.bind_some]
    rw [hl, chk_congr ha (fun j hj => by omega), hk]
  · cases h2

def full (Φ : List Nat) (base wd : Nat) : List Nat := Φ ++ (List.range wd).map (base + ·)
theorem mem_full {Φ : List Nat} {base wd b : Nat} : b ∈ full Φ base wd ↔ b ∈ Φ ∨ inGap base wd b = true := by
  unfold full
  rw [List.mem_append, inGap_iff]
  constructor
  · rintro (h | h)
    · exact .inl h
    · simp only [List.mem_map, List.mem_range] at h
      obtain ⟨j, hj, rfl⟩ := h
      exact .inr ⟨by omega, by omega⟩
  · rintro (h | h)
    · exact .inl h
    · right
      simp only [List.mem_map, List.mem_range]
      exact ⟨b - base, by omega, by omega⟩

theorem semG_w {o : Op} {e : Operand → DT T} {m m' : MT T} {d : DT T} {Φ : List Nat} {base : Nat} (hc : clsT E o = .w) (h : semG E o e m Φ base = some (d, m')) :
    m'.length = m.length ∧ (∀ b, b ∉ full Φ base (wdOf o) → m'.get b = m.get b) ∧ ∀ m2 : MT T, m2.length = m.length → (∀ b ∈ full Φ base (wdOf o), m2.get b = m.get b) →
      ∃ m2' : MT T, semG E o e m2 Φ base = some (d, m2') ∧ m2'.length = m2.length ∧ (∀ b ∈ full Φ base (wdOf o), m2'.get b = m'.get b) ∧ ∀ b, b ∉ full Φ base (wdOf o) → m2'.get b = m2.get b := by
  unfold semG semGK at *
  rw [hc] at h ⊢
  simp only at h ⊢
  rw [opK_law, Option.bind_eq_some_iff] at h
  obtain ⟨⟨d1, m1⟩, h1, h2⟩ := h
  simp only at h2
  split at h2
  case h_2 => cases h2
  rename_i hk
  simp only [Option.some.injEq, Prod.mk.injEq] at h2
  obtain ⟨rfl, rfl⟩ := h2
  have out : ∀ (q : MT T) b, b ∉ full Φ base (wdOf o) → (mergeM Φ m.length base (wdOf o) m1 0 q).get b = q.get b := fun q b hb => by
    rw [mem_full] at hb
    by_cases hlt : b < q.length
    · rw [merge_get _ _ _ _ _ _ _ _ hlt, Nat.zero_add, if_neg (fun h => hb (.inr h)), if_neg (fun h => hb (.inl (has_iff.1 h)))]
    · rw [get_ge (by rw [merge_len]; omega), get_ge (by omega)]
  refine ⟨merge_len _ _ _ _ _ _ _, out m, fun m2 hl ha => ?_⟩
  have ha1 : ∀ b ∈ Φ, m2.get b = m.get b := fun b hb => ha b (mem_full.2 (.inl hb))
  refine ⟨mergeM Φ m.length base (wdOf o) m1 0 m2, ?_, merge_len _ _ _ _ _ _ _, fun b hb => ?_, out m2⟩
  · rw [opK_law, keep_congr hl ha1, h1]
    simp only [Option.bind_some]
    rw [hl, chk_congr ha1 (fun j hj => ha _ (mem_full.2 (.inr (inGap_iff.2 ⟨by omega, by omega⟩)))), hk]
  · by_cases hlt : b < m.length
    · rw [merge_get _ _ _ _ _ _ _ _ (by omega), merge_get _ _ _ _ _ _ _ _ hlt]
      split
      · rfl
      · split
        · rfl
        · exact ha b hb
    · rw [get_ge (by rw [merge_len]; omega), get_ge (by rw [merge_len]; omega)]

def stepOG (E : Env T) (ops : Array Oper) (acc : List (List Nat × Nat)) (i : Nat) (o : Oper) (σ : SF T) : Option (SF T) :=
  match gdT ops o σ.t with
  | none => none
  | some false => some (σ.put o.dst (.tup []))
  | some true => match semG E o.op (evT E.G σ.t) σ.m (acc.getD i ([], 0)).1 (acc.getD i ([], 0)).2 with
    | some (d, m') => some ({ σ with m := m' }.put o.dst d)
    | none => none
def runOpsG (E : Env T) (ops : Array Oper) (acc : List (List Nat × Nat)) : List Nat → SF T → Option (SF T)
  | [], σ => some σ
  | i :: r, σ => match ops[i]? with
    | some o => match stepOG E ops acc i o σ with
      | some σ' => runOpsG E ops acc r σ'
      | none => none
    | none => none

theorem semG_congr {e e' : Operand → DT T} {m : MT T} {o : Op} {Φ : List Nat} {base : Nat} (h : ∀ x ∈ o.operands, e x = e' x) : semG E o e m Φ base = semG E o e' m Φ base := by
  have key : ∀ (m : MT T) {R : Type} (K : DT T → MT T → Option R), opK E o e m K = opK E o e' m K := fun m R K => (opK_law o e m K).trans (by rw [semT_congr h]; exact (opK_law o e' m K).symm)
  unfold semG semGK
  split <;> exact key _ _
theorem sem_putG {σ : SF T} {dst : Option Nat} {d : DT T} {o : Oper} {m : MT T} {Φ : List Nat} {base : Nat} (h : ∀ k, dst = some k → k ∉ o.looksAt ops) : semG E o.op (evT E.G (σ.put dst d).t) m Φ base = semG E o.op (evT E.G σ.t) m Φ base :=
  semG_congr fun x hx => ev_putT fun k hk e => h k hk (mem_looks (by rw [← e]; exact hx))

theorem disj_spec {a b : List Nat} (h : disj a b = true) : ∀ x ∈ a, x ∉ b := fun x hx hb => by
  have := List.all_eq_true.1 h x hx
  rw [has_iff.2 hb] at this
  cases this
theorem fullG_eq {o : Oper} {i : Nat} (hc : clsT E o.op = .w) : fullG E acc o i = full (acc.getD i ([], 0)).1 (acc.getD i ([], 0)).2 (wdOf o.op) := by
  unfold fullG widthG full
  rw [hc]
theorem fullG_r {o : Oper} {i : Nat} (hc : clsT E o.op = .r) : fullG E acc o i = (acc.getD i ([], 0)).1 := by
  unfold fullG widthG
  rw [hc]
  simp

/-- two operations that are apart may be exchanged. -/
theorem step_commG {i j : Nat} {x y : Oper} {σ σ1 σ2 : SF T} (hi : indepG E ops acc j x i y = true) (h1 : stepOG E ops acc j x σ = some σ1) (h2 : stepOG E ops acc i y σ1 = some σ2) :
    ∃ τ, stepOG E ops acc i y σ = some τ ∧ stepOG E ops acc j x τ = some σ2 := by
  unfold indepG at hi
  simp only [Bool.and_eq_true, Bool.or_eq_true, Bool.not_eq_true'] at hi
  obtain ⟨hap, hcl⟩ := hi
  obtain ⟨a1, a2, a3⟩ := Oper.apart_spec hap
  have a2' : ∀ k, y.dst = some k → x.dst ≠ some k := fun k hk e => a2 k e hk
  unfold stepOG at h1 h2
  -- x
  split at h1
  · cases h1
  · -- x is passed over
    rename_i hgx
    simp only [Option.some.injEq] at h1; subst h1
    rw [gd_putST a1] at h2
    split at h2
    · cases h2
    · rename_i hgy
      simp only [Option.some.injEq] at h2; subst h2
      refine ⟨σ.put y.dst (.tup []), by simp [stepOG, hgy], ?_⟩
      unfold stepOG
      rw [gd_putST a3, hgx]
      simp only
      rw [SF.put_comm σ _ _ a2']
    · rename_i hgy
      rw [sem_putG a1] at h2
      split at h2
      case h_2 => cases h2
      rename_i d m' hs
      simp only [Option.some.injEq] at h2; subst h2
      have hs' : semG E y.op (evT E.G σ.t) σ.m (acc.getD i ([], 0)).1 (acc.getD i ([], 0)).2 = some (d, m') := by
        rw [← hs]; cases x.dst <;> rfl
      refine ⟨({ σ with m := m' } : SF T).put y.dst d, by simp only [stepOG, hgy, hs'], ?_⟩
      unfold stepOG
      rw [gd_putST a3]
      simp only [hgx]
      have := put_putT σ.t m' m' σ.m (DT.tup []) d a2'
      have hm2 : (({ σ with m := m' } : SF T).put y.dst d).m = m' := by cases y.dst <;> rfl
      have e : (({ σ with m := m' } : SF T).put y.dst d) = ({ t := (({ σ with m := m' } : SF T).put y.dst d).t, m := m' } : SF T) := by cases y.dst <;> rfl
      rw [e]
      exact congrArg some this
  · -- x runs
    rename_i hgx
    split at h1
    case h_2 => cases h1
    rename_i dx mx hsx
    simp only [Option.some.injEq] at h1; subst h1
    rw [gd_putST a1] at h2
    simp only at h2
    split at h2
    · cases h2
    · rename_i hgy
      simp only [Option.some.injEq] at h2; subst h2
      refine ⟨σ.put y.dst (.tup []), by simp [stepOG, hgy], ?_⟩
      unfold stepOG
      rw [gd_putST a3, hgx]
      simp only
      rw [sem_putG a3]
      have : (σ.put y.dst (DT.tup [])).m = σ.m := by cases y.dst <;> rfl
      rw [this, hsx]
      simp only [Option.some.injEq]
      have h3 := put_putT σ.t σ.m mx mx dx (DT.tup []) a2'
      have e : (({ σ with m := mx } : SF T).put x.dst dx) = ({ t := (({ σ with m := mx } : SF T).put x.dst dx).t, m := mx } : SF T) := by cases x.dst <;> rfl
      rw [e]
      exact h3
    · rename_i hgy
      rw [sem_putG a1] at h2
      have hmx : (({ σ with m := mx } : SF T).put x.dst dx).m = mx := by cases x.dst <;> rfl
      rw [hmx] at h2
      split at h2
      case h_2 => cases h2
      rename_i dy my hsy
      simp only [Option.some.injEq] at h2; subst h2
      have key : ∃ m1, semG E y.op (evT E.G σ.t) σ.m (acc.getD i ([], 0)).1 (acc.getD i ([], 0)).2 = some (dy, m1) ∧ semG E x.op (evT E.G σ.t) m1 (acc.getD j ([], 0)).1 (acc.getD j ([], 0)).2 = some (dx, my) := by
        have dis : (clsT E x.op).clash (clsT E y.op) = true → ∀ b ∈ fullG E acc x j, b ∉ fullG E acc y i := fun hcl' => by
          rcases hcl with q | q
          · rw [hcl'] at q; cases q
          · exact disj_spec q
        cases hcx : clsT E x.op with
        | n =>
          obtain ⟨e1, e2⟩ := semG_n hcx hsx
          subst e1
          exact ⟨my, hsy, e2 my⟩
        | r =>
          obtain ⟨e1, e2⟩ := semG_r hcx hsx
          subst e1
          cases hcy : clsT E y.op with
          | n => obtain ⟨e3, _⟩ := semG_n hcy hsy; subst e3; exact ⟨_, hsy, hsx⟩
          | r => obtain ⟨e3, _⟩ := semG_r hcy hsy; subst e3; exact ⟨_, hsy, hsx⟩
          | w =>
            have dis := dis (by rw [hcx, hcy]; rfl)
            rw [fullG_r hcx, fullG_eq hcy] at dis
            obtain ⟨f1, f2, _⟩ := semG_w hcy hsy
            exact ⟨my, hsy, e2 my f1 fun b hb => f2 b (dis b hb)⟩
        | w =>
          obtain ⟨f1, f2, f3⟩ := semG_w hcx hsx
          cases hcy : clsT E y.op with
          | n => obtain ⟨e3, e4⟩ := semG_n hcy hsy; subst e3; exact ⟨σ.m, e4 _, hsx⟩
          | r =>
            have dis := dis (by rw [hcx, hcy]; rfl)
            rw [fullG_r hcy, fullG_eq hcx] at dis
            obtain ⟨e3, e4⟩ := semG_r hcy hsy
            subst e3
            exact ⟨σ.m, e4 σ.m f1.symm fun b hb => (f2 b (fun q => dis b q hb)).symm, hsx⟩
          | w =>
            have dis := dis (by rw [hcx, hcy]; rfl)
            rw [fullG_eq hcy, fullG_eq hcx] at dis
            obtain ⟨g1, g2, g3⟩ := semG_w hcy hsy
            obtain ⟨m1, k1, k2, k3, k4⟩ := g3 σ.m f1.symm fun b hb => (f2 b (fun q => dis b q hb)).symm
            obtain ⟨m3, l1, l2, l3, l4⟩ := f3 m1 k2 fun b hb => k4 b (dis b hb)
            refine ⟨m1, k1, ?_⟩
            have : m3 = my := MT_ext (by omega) fun b hb => by
              by_cases hx : b ∈ full (acc.getD j ([], 0)).1 (acc.getD j ([], 0)).2 (wdOf x.op)
              · rw [l3 b hx, g2 b (dis b hx)]
              · rw [l4 b hx]
                by_cases hy : b ∈ full (acc.getD i ([], 0)).1 (acc.getD i ([], 0)).2 (wdOf y.op)
                · exact k3 b hy
                · rw [k4 b hy, g2 b hy, f2 b hx]
            rw [← this]; exact l1
      obtain ⟨m1, k1, k2⟩ := key
      refine ⟨({ σ with m := m1 } : SF T).put y.dst dy, by simp only [stepOG, hgy, k1], ?_⟩
      unfold stepOG
      rw [gd_putST a3]
      simp only [hgx]
      rw [sem_putG a3]
      have hm1 : (({ σ with m := m1 } : SF T).put y.dst dy).m = m1 := by cases y.dst <;> rfl
      simp only [hm1, k2, Option.some.injEq]
      exact put_putT σ.t m1 my mx dx dy a2'

theorem runOpsG_front {i : Nat} {oi : Oper} (hoi : ops[i]? = some oi) : ∀ (l r : List Nat) (σ σ' : SF T), (∀ j ∈ l, ∃ oj, ops[j]? = some oj ∧ indepG E ops acc j oj i oi = true) → runOpsG E ops acc (l ++ i :: r) σ = some σ' → runOpsG E ops acc (i :: (l ++ r)) σ = some σ'
  | [], r, σ, σ', _, h => h
  | j :: l, r, σ, σ', hl, h => by
    obtain ⟨oj, hoj, hin⟩ := hl j (by simp)
    simp only [List.cons_append, runOpsG, hoj] at h
    split at h
    case h_2 => cases h
    rename_i σ1 h1
    have h2 := runOpsG_front hoi l r σ1 σ' (fun k hk => hl k (by simp [hk])) h
    simp only [runOpsG, hoi] at h2
    split at h2
    case h_2 => cases h2
    rename_i σ2 h3
    obtain ⟨τ, h4, h5⟩ := step_commG hin h1 h3
    simp only [List.cons_append, runOpsG, hoi, h4, hoj, h5]
    exact h2

theorem pairsG_spec (hp : pairsOkG E ops acc = true) {i : Nat} {oi : Oper} (hi : ops[i]? = some oi) :
    (∀ e ∈ oi.after, Region.binds .any e = true → e.on < i) ∧ ∀ j, j < i → ∃ oj, ops[j]? = some oj ∧ (((masks ops.toList []).getD i 0).testBit j = true ∨ indepG E ops acc j oj i oi = true) := by
  have hlt : i < ops.size := by
    rcases Nat.lt_or_ge i ops.size with h | h
    · exact h
    · rw [Array.getElem?_eq_none h] at hi; cases hi
  unfold pairsOkG at hp
  have := List.all_eq_true.1 hp i (by simpa using hlt)
  simp only [pairsAtG, hi, Bool.and_eq_true] at this
  obtain ⟨h1, h2⟩ := this
  refine ⟨fun e he hb => ?_, fun j hj => ?_⟩
  · have := Array.all_eq_true'.1 h1 e he
    simpa [hb] using this
  · have := List.all_eq_true.1 h2 j (by simpa using hj)
    split at this
    · rename_i oj hoj
      exact ⟨oj, hoj, by simpa using this⟩
    · cases this

theorem run_goG (hp : pairsOkG E ops acc = true) : ∀ (fuel t : Nat) (listed : Array Bool) (σ σ' : SF T), listed.size = ops.size → (left ops.size listed).length ≤ fuel →
    (∀ (k : Nat) (o : Oper), ops[k]? = some o → listed.getD k false = true → ∀ e ∈ o.after, Region.binds .any e = true → listed.getD e.on false = true) →
    runOpsG E ops acc (left ops.size listed) σ = some σ' → runOpsG E ops acc (Region.linearise.go .any ops fuel t listed []) σ = some σ'
  | 0, t, listed, σ, σ', hsz, hf, hcl, h => by
    have : left ops.size listed = [] := List.eq_nil_of_length_eq_zero (by omega)
    rw [this] at h
    simpa [Region.linearise.go] using h
  | fuel + 1, t, listed, σ, σ', hsz, hf, hcl, h => by
    simp only [Region.linearise.go]
    change runOpsG E ops acc (match (Region.ready .any ops listed)[t % (Region.ready .any ops listed).length]? with
      | some i => Region.linearise.go .any ops fuel (t / (Region.ready .any ops listed).length) (listed.setIfInBounds i true) [i]
      | none => [].reverse) σ = some σ'
    have hready : ∀ i, i ∈ Region.ready .any ops listed ↔ i ∈ left ops.size listed ∧ ∃ o, ops[i]? = some o ∧ ∀ e ∈ o.after, Region.binds .any e = true → listed.getD e.on false = true := by
      intro i
      unfold Region.ready
      simp only [List.mem_filter, List.mem_range, Bool.and_eq_true, Bool.not_eq_true', mem_left]
      constructor
      · rintro ⟨h1, h2, h3⟩
        refine ⟨⟨h1, h2⟩, ops[i], by simp [h1], fun e he hb => ?_⟩
        simp only [Array.getElem?_eq_getElem h1, Option.map_some, Option.getD_some, Array.all_eq_true'] at h3
        have := h3 e he
        simpa [hb] using this
      · rintro ⟨⟨h1, h2⟩, o, ho, h3⟩
        refine ⟨h1, h2, ?_⟩
        simp only [ho, Option.map_some, Option.getD_some, Array.all_eq_true']
        intro e he
        cases hb : Region.binds .any e with
        | false => simp
        | true => simp [h3 e he hb]
    cases hi : (Region.ready .any ops listed)[t % (Region.ready .any ops listed).length]? with
    | none =>
      have hnil : Region.ready .any ops listed = [] := by
        cases hr : Region.ready .any ops listed with
        | nil => rfl
        | cons x xs =>
          rw [hr] at hi
          have hlt : t % (x :: xs).length < (x :: xs).length := Nat.mod_lt _ (by simp)
          rw [List.getElem?_eq_getElem hlt] at hi
          cases hi
      have hl : left ops.size listed = [] := by
        cases hr : left ops.size listed with
        | nil => rfl
        | cons x xs =>
          exfalso
          have hx : x ∈ left ops.size listed := by rw [hr]; simp
          obtain ⟨hxl, hxf⟩ := mem_left.1 hx
          have hox : ops[x]? = some ops[x] := by simp [hxl]
          have : x ∈ Region.ready .any ops listed := by
            rw [hready]
            refine ⟨hx, ops[x], hox, fun e he hb => ?_⟩
            have hlt := (pairsG_spec hp hox).1 e he hb
            -- e.on < x and x is the least that is left
            rcases hle : listed.getD e.on true with _ | _
            · have hme : e.on ∈ left ops.size listed := mem_left.2 ⟨by omega, hle⟩
              obtain ⟨l, r, e1, e2, _⟩ := left_split hsz hme
              have : x = (l ++ e.on :: r).head (by simp) := by
                have := congrArg List.head? (hr.symm.trans e1)
                simp at this
                cases l with
                | nil => simpa using this
                | cons y ys => simpa using this
              cases l with
              | nil => simp at this; omega
              | cons y ys =>
                simp at this
                have := (e2 y (by simp)).1
                omega
            · have : e.on < listed.size := by rw [hsz]; omega
              simp [Array.getD_eq_getD_getElem?, this] at hle ⊢
              exact hle
          rw [hnil] at this
          cases this
      rw [hl] at h
      simpa using h
    | some i =>
      simp only []
      have hir := (hready i).1 (List.mem_of_getElem? hi)
      obtain ⟨hil, oi, hoi, hdep⟩ := hir
      obtain ⟨l, r, e1, e2, e3⟩ := left_split hsz hil
      rw [linearise_go_acc, List.reverse_singleton, List.singleton_append]
      rw [e1] at h
      have hfr := runOpsG_front hoi l r σ σ' (fun j hj => by
        obtain ⟨hji, hjf⟩ := e2 j hj
        obtain ⟨oj, hoj, hor⟩ := (pairsG_spec hp hoi).2 j hji
        refine ⟨oj, hoj, hor.resolve_left fun hre => ?_⟩
        have := masks_good ops.toList [] (fun k _ => by simp) (fun k hk => by simp at hk) (fun k _ => by simp) i listed hcl oi hoi hdep j hre
        have hjl : j < listed.size := by
          rw [hsz]
          rcases Nat.lt_or_ge j ops.size with h | h
          · exact h
          · rw [Array.getElem?_eq_none h] at hoj; cases hoj
        simp [Array.getD_eq_getD_getElem?, hjl] at this hjf
        rw [this] at hjf; cases hjf) h
      simp only [runOpsG, hoi] at hfr ⊢
      split at hfr
      case h_2 => cases hfr
      rename_i σ1 h1
      have hlen : (left ops.size listed).length = (l ++ r).length + 1 := by rw [e1]; simp; omega
      refine run_goG hp fuel _ _ σ1 σ' (by simpa using hsz) (by rw [e3]; omega) (fun k o hk hlk e he hb => ?_) (by rw [e3]; exact hfr)
      have hset : ∀ q, listed.getD q false = true → (listed.setIfInBounds i true).getD q false = true := fun q hq => by
        simp only [Array.getD_eq_getD_getElem?, Array.getElem?_setIfInBounds] at hq ⊢
        by_cases hqi : i = q
        · subst hqi
          rw [if_pos rfl]
          by_cases hqs : i < listed.size
          · simp [hqs]
          · simp [hqs] at hq
        · rw [if_neg hqi]; exact hq
      by_cases hki : k = i
      · subst hki
        rw [hoi] at hk; cases hk
        exact hset _ (hdep e he hb)
      · refine hset _ (hcl k o hk ?_ e he hb)
        simpa [Array.getD_eq_getD_getElem?, Array.getElem?_setIfInBounds, Ne.symm hki] using hlk

theorem run_scheduleG (hmix : P.follows .mixedOrders = true) (hp : pairsOkG E ops acc = true) (t : Nat) {σ σ' : SF T} (h : runOpsG E ops acc (List.range ops.size) σ = some σ') :
    runOpsG E ops acc (Region.schedule (P.follows .mixedOrders) ops t) σ = some σ' := by
  simp only [Region.schedule, hmix, Bool.true_or, if_true, Region.linearise]
  have hl : left ops.size (Array.replicate ops.size false) = List.range ops.size := by
    unfold left
    rw [List.filter_eq_self]
    intro i hi
    simp only [List.mem_range] at hi
    simp [Array.getD_eq_getD_getElem?, hi]
  refine run_goG hp ops.size t _ σ σ' (by simp) (by rw [hl]; simp) (fun k o hk hlk => ?_) (by rw [hl]; exact h)
  simp [Array.getD_eq_getD_getElem?] at hlk
  by_cases hk2 : k < ops.size
  · simp [hk2] at hlk
  · simp [hk2] at hlk
end
end Go.Abs

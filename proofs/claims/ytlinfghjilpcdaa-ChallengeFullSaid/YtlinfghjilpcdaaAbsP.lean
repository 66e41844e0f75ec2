/- Regions of operations, in their text's order and in every order that a region may draw. No condition. -/
import Derived.Test.YtlinfghjilpcdaaAbsO
namespace Go.Abs
open Go
set_option linter.unusedSimpArgs false

structure Rel (Sp : Specs) (O I0 : Nat → Prop) (w0 : World) (n : Nat) (I : Nat → Prop) (loc : Nat → Nat → Loc) (σ : S) (a : Act) (w : World) : Prop where
  size : a.tmps.size = n
  defers : a.defers = []
  tmp : ∀ i, V I w (σ.t i) loc (a.tmps.getD i undef)
  mem : MRel O I loc σ.m w
  glob : Glob Sp.glob I w
  fr : Fr O w0 w
  imm0 : ∀ k, I0 k → I k
  imm1 : ∀ k, I k → I0 k ∨ w0.heap.size ≤ k

/-- the slot and the sign of a guard. -/
def gslot (ops : Array Oper) (o : Oper) : Option (Option Nat × Bool) :=
  match o.guard with
  | none => none
  | some (j, want) => some ((ops[j]?).bind (·.dst), want)

def gd (ops : Array Oper) (o : Oper) (t : Nat → D) : Option Bool :=
  match gslot ops o with
  | none => some true
  | some (some k, want) => match t k with
    | .bool b => some (b == want)
    | _ => none
  | some (none, _) => none

def stepO (P : Program) (Sp : Specs) (ops : Array Oper) (o : Oper) (σ : S) : Option S :=
  match gd ops o σ.t with
  | none => none
  | some false => some (σ.put o.dst .dead)
  | some true => match sem P Sp o.op (ev Sp σ.t) σ.m with
    | some (d, m') => some ({ σ with m := m' }.put o.dst d)
    | none => none

def runOps (P : Program) (Sp : Specs) (ops : Array Oper) : List Nat → S → Option S
  | [], σ => some σ
  | i :: r, σ => match ops[i]? with
    | some o => match stepO P Sp ops o σ with
      | some σ' => runOps P Sp ops r σ'
      | none => none
    | none => none

section
variable {P : Program} {Sp : Specs} {O I0 I : Nat → Prop} {w0 w : World} {n : Nat} {loc : Nat → Nat → Loc} {σ : S} {a : Act}

theorem ev_ok (h : Rel Sp O I0 w0 n I loc σ a w) (x : Operand) : V I w (ev Sp σ.t x) loc (a.eval x) := by
  cases x with
  | tmp t => exact h.tmp t
  | const v => exact ofV_V v
  | global g =>
    simp only [ev, Act.eval]
    split
    · rename_i cs hg
      simp only [V]
      exact ⟨g, 0, rfl, h.glob g cs hg⟩
    · trivial
  | func f => simp only [ev, Act.eval, V]; exact ⟨[], rfl, by simp [VL]⟩

theorem Rel.put (h : Rel Sp O I0 w0 n I loc σ a w) {m' : Mem} {w' : World} {I' : Nat → Prop} {loc' : Nat → Nat → Loc} {d : D} {v : Value} (dst : Option Nat) (hd : ∀ k, dst = some k → k < n)
    (hm : MRel O I' loc' m' w') (hG : Glob Sp.glob I' w') (hv : V I' w' d loc' v) (he : Ext I I' w w') (hI : ∀ k, I' k → I k ∨ w.heap.size ≤ k) (hl : LocExt loc loc') (hf : Fr O w w') :
    Rel Sp O I0 w0 n I' loc' ({ σ with m := m' }.put dst d) (a.put dst v) w' := by
  have hold : ∀ i, V I' w' (σ.t i) loc' (a.tmps.getD i undef) := fun i => V_mono he _ loc loc' _ hl (h.tmp i)
  have hi1 : ∀ k, I' k → I0 k ∨ w0.heap.size ≤ k := fun k hk => by
    rcases hI k hk with h1 | h1
    · exact h.imm1 k h1
    · exact .inr (Nat.le_trans h.fr.size h1)
  cases dst with
  | none => exact ⟨h.size, h.defers, hold, hm, hG, h.fr.trans hf, fun k hk => he.imm k (h.imm0 k hk), hi1⟩
  | some k =>
    have hk := hd k rfl
    refine ⟨by simp [Act.put, h.size], h.defers, fun i => ?_, hm, hG, h.fr.trans hf, fun k hk => he.imm k (h.imm0 k hk), hi1⟩
    simp only [S.put, Act.put, upd]
    by_cases e : i = k
    · subst e
      rw [if_pos rfl]
      have : (a.tmps.setIfInBounds i v).getD i undef = v := by
        simp [Array.getD_eq_getD_getElem?, Array.getElem?_setIfInBounds, h.size, hk]
      rw [this]; exact hv
    · rw [if_neg e]
      have : (a.tmps.setIfInBounds k v).getD i undef = a.tmps.getD i undef := by
        simp [Array.getD_eq_getD_getElem?, Array.getElem?_setIfInBounds, Ne.symm e]
      rw [this]; exact hold i

theorem gd_ok (h : Rel Sp O I0 w0 n I loc σ a w) {ops : Array Oper} {o : Oper} {b : Bool} (hg : gd ops o σ.t = some b) : Region.wanted o (yielded ops a.tmps) = b := by
  unfold gd gslot at hg
  unfold Region.wanted
  cases hgd : o.guard with
  | none => simp only [hgd, Option.some.injEq] at hg; subst hg; rfl
  | some p =>
    obtain ⟨j, want⟩ := p
    simp only [hgd] at hg
    cases hk : (ops[j]?).bind (·.dst) with
    | none => simp [hk] at hg
    | some k =>
      simp only [hk] at hg
      cases hd : σ.t k <;> simp only [hd] at hg <;> try cases hg
      rename_i q
      have hv := h.tmp k
      rw [hd] at hv; simp only [V] at hv
      have hy : a.tmps[k]? = some (.bool q) := by
        rw [Array.getD_eq_getD_getElem?] at hv
        cases hz : a.tmps[k]? with
        | none => rw [hz] at hv; simp [undef] at hv
        | some x => rw [hz] at hv; simp at hv; rw [hv]
      simp only [yielded, hk, Option.bind_some, hy]
      cases q <;> cases want <;> rfl

theorem stepO_ok (hSp : SpecsOk P Sp) (h : Rel Sp O I0 w0 n I loc σ a w) {ops : Array Oper} {i : Nat} {o : Oper} (hi : ops[i]? = some o) (hd : ∀ k, o.dst = some k → k < n) {σ' : S} (hs : stepO P Sp ops o σ = some σ')
    {K : Act → World → Prop} {Q : Exit → Act → World → Prop} (hK : ∀ a' w' I' loc', Rel Sp O I0 w0 n I' loc' σ' a' w' → K a' w') : wpOp P ops Q i K a w := by
  unfold stepO at hs
  unfold wpOp
  simp only [hi]
  split at hs
  · cases hs
  · rename_i hg
    rw [gd_ok h hg]
    simp only [Option.some.injEq] at hs; subst hs
    simp only [Bool.false_eq_true, if_false]
    refine hK _ _ I loc ?_
    have := h.put (d := .dead) (v := undef) o.dst hd h.mem h.glob trivial (.refl _ _) (fun _ h => .inl h) (.refl _) (.refl _ _)
    exact this
  · rename_i hg
    rw [gd_ok h hg]
    simp only [if_true]
    split at hs
    case h_2 => cases hs
    rename_i d m' hsem
    simp only [Option.some.injEq] at hs; subst hs
    left
    refine sem_ok hSp h.mem h.glob (ev_ok h) hsem a K Q fun v w' I' loc' h1 h2 h3 h4 h5 h6 h7 => ?_
    exact hK _ _ I' loc' (h.put o.dst hd h1 h2 h3 h4 h5 h6 h7)

theorem runOps_ok (hSp : SpecsOk P Sp) {ops : Array Oper} (hd : ∀ (i : Nat) (o : Oper) (k : Nat), ops[i]? = some o → o.dst = some k → k < n) {Q : Exit → Act → World → Prop} : ∀ (l : List Nat) {σ σ' : S} {I : Nat → Prop} {loc : Nat → Nat → Loc} {a : Act} {w : World},
    Rel Sp O I0 w0 n I loc σ a w → runOps P Sp ops l σ = some σ' → (∀ a' w' I' loc', Rel Sp O I0 w0 n I' loc' σ' a' w' → Q .normal a' w') → wpOps P ops Q l a w
  | [], σ, σ', I, loc, a, w, h, hr, hQ => by
    simp only [runOps, Option.some.injEq] at hr; subst hr
    exact hQ _ _ _ _ h
  | i :: r, σ, σ', I, loc, a, w, h, hr, hQ => by
    simp only [runOps] at hr
    split at hr
    case h_2 => cases hr
    rename_i o ho
    split at hr
    case h_2 => cases hr
    rename_i σ1 hs
    rw [wpOps_cons]
    exact stepO_ok hSp h ho (fun k hk => hd i o k ho hk) hs fun a' w' I' loc' h' => runOps_ok hSp hd r h' hr hQ
end

/-! ### orders -/

def Cls.clash : Cls → Cls → Bool
  | .w, .w => true
  | .w, .r => true
  | .r, .w => true
  | _, _ => false

def indep (P : Program) (Sp : Specs) (ops : Array Oper) (x y : Oper) : Bool := x.apart ops y && !(cls P Sp x.op).clash (cls P Sp y.op)

/-- what must be carried out ahead of an operation: a bit each. -/
def maskE (acc : List Nat) : List Edge → Nat
  | [] => 0
  | e :: r => if Region.binds .any e = true then 2 ^ e.on ||| acc.getD e.on 0 ||| maskE acc r else maskE acc r
def masks : List Oper → List Nat → List Nat
  | [], acc => acc
  | o :: r, acc => masks r (acc ++ [maskE acc o.after.toList])

def pairsAt (P : Program) (Sp : Specs) (ops : Array Oper) (ms : List Nat) (i : Nat) : Bool :=
  match ops[i]? with
    | some oi => (oi.after.all fun e => !Region.binds .any e || decide (e.on < i)) &&
        (List.range i).all fun j => match ops[j]? with
          | some oj => (ms.getD i 0).testBit j || indep P Sp ops oj oi
          | none => false
    | none => false
def pairsOk (P : Program) (Sp : Specs) (ops : Array Oper) : Bool :=
  (List.range ops.size).all (pairsAt P Sp ops (masks ops.toList []))

section
variable {P : Program} {Sp : Specs} {ops : Array Oper}

theorem semN_congr {e e' : Operand → D} {o : Op} (h : ∀ x ∈ o.operands, e x = e' x) : semN P o e = semN P o e' := by
  cases o <;> simp only [Op.operands] at h <;> simp only [semN]
  case build t ps =>
    have : (ps.toList.map fun p => (p.1, e p.2)) = (ps.toList.map fun p => (p.1, e' p.2)) := List.map_congr_left fun p hp => by
      rw [h p.2 (by simp; exact ⟨p.1, by simpa using hp⟩)]
    rw [this]
  case slice t x lo hi mx =>
    cases mx with
    | some _ => rfl
    | none =>
      have h1 : e x = e' x := h x (by simp)
      have h2 : lo.map e = lo.map e' := by cases lo with
        | none => rfl
        | some y => simp only [Option.map_some]; rw [h y (by simp)]
      have h3 : hi.map e = hi.map e' := by cases hi with
        | none => rfl
        | some y => simp only [Option.map_some]; rw [h y (by simp)]
      simp only [h1, h2, h3]
  case makeFunc fn first cap =>
    cases fn <;> simp only []
    have : cap.toList.map e = cap.toList.map e' := List.map_congr_left fun x hx => h x (by simp; right; simpa using hx)
    rw [this]
  case call c =>
    obtain ⟨callee, args, at'⟩ := c
    have ha : args.toList.map e = args.toList.map e' := List.map_congr_left fun x hx => h x (by simp [Call.operands]; right; simpa using hx)
    cases callee with
    | builtin b =>
      cases b <;> simp only [ha]
      case len =>
        split
        · rename_i x t hx ht
          rw [h x (by simp [Call.operands]; rw [← Array.mem_toList_iff, hx]; simp)]
        · rfl
    | value f => rfl
    | invoke r n => rfl
  all_goals first | rfl | (simp at h; simp only [h])

theorem semR_congr {e e' : Operand → D} {m : Mem} {o : Op} (h : ∀ x ∈ o.operands, e x = e' x) : semR P Sp o e m = semR P Sp o e' m := by
  cases o <;> simp only [Op.operands] at h <;> simp only [semR]
  case load t x => simp at h; simp only [h]
  case convert src dst x => simp at h; simp only [h]
  case call c =>
    obtain ⟨callee, args, at'⟩ := c
    cases callee with
    | builtin b => rfl
    | invoke r n => rfl
    | value f =>
      have ha : args.toList.map e = args.toList.map e' := List.map_congr_left fun x hx => h x (by simp [Call.operands]; right; simpa using hx)
      have hf : e f = e' f := h f (by simp [Call.operands])
      simp only [ha, hf]

theorem semW_congr {e e' : Operand → D} {m : Mem} {o : Op} (h : ∀ x ∈ o.operands, e x = e' x) : semW P Sp o e m = semW P Sp o e' m := by
  cases o <;> simp only [Op.operands] at h <;> simp only [semW]
  case box t x => simp at h; simp only [h]
  case store t x y => simp at h; simp only [h]
  case range t x => simp at h; simp only [h]
  case next x q => simp at h; cases q <;> simp only [h]
  case buildSlice t n ps =>
    have : (ps.toList.map fun p => (p.1, e p.2)) = (ps.toList.map fun p => (p.1, e' p.2)) := List.map_congr_left fun p hp => by
      rw [h p.2 (by simp; exact ⟨p.1, by simpa using hp⟩)]
    simp only [this]
  case call c =>
    obtain ⟨callee, args, at'⟩ := c
    have hm : ∀ x ∈ args.toList, e x = e' x := fun x hx => h x (by simp [Call.operands]; right; simpa using hx)
    have ha : args.toList.map e = args.toList.map e' := List.map_congr_left hm
    cases callee with
    | builtin b =>
      cases b <;> simp only []
      split
      · rename_i s x t t' hx ht
        have h1 : e s = e' s := hm s (by rw [hx]; simp)
        have h2 : e x = e' x := hm x (by rw [hx]; simp)
        simp only [h1, h2]
      · rfl
    | invoke r n => rfl
    | value f =>
      have hf : e f = e' f := h f (by simp [Call.operands])
      simp only [ha, hf]

theorem sem_congr {e e' : Operand → D} {m : Mem} {o : Op} (h : ∀ x ∈ o.operands, e x = e' x) : sem P Sp o e m = sem P Sp o e' m := by
  unfold sem
  rw [semN_congr h, semR_congr h, semW_congr h]

theorem ev_put {σ : S} {dst : Option Nat} {d : D} {x : Operand} (h : ∀ k, dst = some k → x ≠ .tmp k) : ev Sp (σ.put dst d).t x = ev Sp σ.t x := by
  cases dst with
  | none => rfl
  | some k =>
    cases x with
    | tmp t =>
      have : t ≠ k := fun e => h k rfl (e ▸ rfl)
      simp [ev, S.put, upd, this]
    | _ => rfl

theorem mem_looks {o : Oper} {x : Nat} (h : Operand.tmp x ∈ o.op.operands) : x ∈ o.looksAt ops := by
  unfold Oper.looksAt
  rw [List.mem_append]
  left
  rw [List.mem_filterMap]
  exact ⟨.tmp x, by simpa using h, rfl⟩

theorem sem_put {σ : S} {dst : Option Nat} {d : D} {o : Oper} {m : Mem} (h : ∀ k, dst = some k → k ∉ o.looksAt ops) : sem P Sp o.op (ev Sp (σ.put dst d).t) m = sem P Sp o.op (ev Sp σ.t) m :=
  sem_congr fun x hx => ev_put fun k hk e => h k hk (mem_looks (by rw [← e]; exact hx))

theorem gd_put {t : Nat → D} {k : Nat} {d : D} {o : Oper} (h : k ∉ o.looksAt ops) : gd ops o (upd t k d) = gd ops o t := by
  unfold gd gslot
  cases hg : o.guard with
  | none => rfl
  | some p =>
    obtain ⟨j, want⟩ := p
    simp only
    cases hd : (ops[j]?).bind (·.dst) with
    | none => rfl
    | some q =>
      have : q ≠ k := fun e => h (by
        unfold Oper.looksAt
        rw [List.mem_append]
        right
        simp [hg, hd, e])
      simp [upd, this]

theorem S.put_comm (σ : S) {x y : Option Nat} (d d' : D) (h : ∀ k, x = some k → y ≠ some k) : (σ.put x d).put y d' = (σ.put y d').put x d := by
  cases x with
  | none => rfl
  | some k =>
    cases y with
    | none => rfl
    | some q =>
      have hne : k ≠ q := fun e => h k rfl (by rw [e])
      simp only [S.put]
      congr 1
      funext j
      simp only [upd]
      by_cases h1 : j = k
      · subst h1; simp [hne]
      · simp [h1]

theorem gd_putS {σ : S} {dst : Option Nat} {d : D} {o : Oper} (h : ∀ k, dst = some k → k ∉ o.looksAt ops) : gd ops o (σ.put dst d).t = gd ops o σ.t := by
  cases dst with
  | none => rfl
  | some k => exact gd_put (h k rfl)

theorem sem_n {o : Op} {e : Operand → D} {m m' : Mem} {d : D} (hc : cls P Sp o = .n) (h : sem P Sp o e m = some (d, m')) : m' = m ∧ ∀ m2, sem P Sp o e m2 = some (d, m2) := by
  unfold sem at *
  rw [hc] at h ⊢
  simp only [Option.map_eq_some_iff] at h ⊢
  obtain ⟨x, hx, hp⟩ := h
  simp only [Prod.mk.injEq] at hp
  exact ⟨hp.2.symm, fun m2 => ⟨x, hx, by rw [hp.1]⟩⟩

theorem sem_r {o : Op} {e : Operand → D} {m m' : Mem} {d : D} (hc : cls P Sp o = .r) (h : sem P Sp o e m = some (d, m')) : m' = m := by
  unfold sem at *
  rw [hc] at h
  simp only [Option.map_eq_some_iff] at h
  obtain ⟨x, hx, hp⟩ := h
  simp only [Prod.mk.injEq] at hp
  exact hp.2.symm

theorem put_m (σ : S) (m : Mem) (dst : Option Nat) (d : D) : ({ σ with m := m } : S).put dst d = { σ.put dst d with m := m } := by cases dst <;> rfl

theorem put_put (t : Nat → D) (m1 m2 m3 : Mem) {x y : Option Nat} (dx dy : D) (h : ∀ k, y = some k → x ≠ some k) :
    ({ t := (({ t := t, m := m1 } : S).put y dy).t, m := m2 } : S).put x dx = ({ t := (({ t := t, m := m3 } : S).put x dx).t, m := m2 } : S).put y dy := by
  cases x with
  | none => cases y <;> rfl
  | some k =>
    cases y with
    | none => rfl
    | some q =>
      have hne : q ≠ k := fun e => h q rfl (by rw [e])
      simp only [S.put]
      congr 1
      funext j
      simp only [upd]
      by_cases h1 : j = k
      · subst h1; simp [Ne.symm hne]
      · simp [h1]

/-- two operations that are apart may be exchanged. -/
theorem step_comm {x y : Oper} {σ σ1 σ2 : S} (hi : indep P Sp ops x y = true) (h1 : stepO P Sp ops x σ = some σ1) (h2 : stepO P Sp ops y σ1 = some σ2) :
    ∃ τ, stepO P Sp ops y σ = some τ ∧ stepO P Sp ops x τ = some σ2 := by
  unfold indep at hi
  simp only [Bool.and_eq_true, Bool.not_eq_true'] at hi
  obtain ⟨hap, hcl⟩ := hi
  obtain ⟨a1, a2, a3⟩ := Oper.apart_spec hap
  have a2' : ∀ k, y.dst = some k → x.dst ≠ some k := fun k hk e => a2 k e hk
  unfold stepO at h1 h2
  -- x
  split at h1
  · cases h1
  · -- x is passed over
    rename_i hgx
    simp only [Option.some.injEq] at h1; subst h1
    rw [gd_putS a1] at h2
    split at h2
    · cases h2
    · rename_i hgy
      simp only [Option.some.injEq] at h2; subst h2
      refine ⟨σ.put y.dst .dead, by simp [stepO, hgy], ?_⟩
      unfold stepO
      rw [gd_putS a3, hgx]
      simp only
      rw [S.put_comm σ _ _ a2']
    · rename_i hgy
      rw [sem_put a1] at h2
      split at h2
      case h_2 => cases h2
      rename_i d m' hs
      simp only [Option.some.injEq] at h2; subst h2
      have hs' : sem P Sp y.op (ev Sp σ.t) σ.m = some (d, m') := by
        rw [← hs]; cases x.dst <;> rfl
      refine ⟨({ σ with m := m' } : S).put y.dst d, by simp [stepO, hgy, hs'], ?_⟩
      unfold stepO
      rw [gd_putS a3]
      simp only [hgx]
      have := put_put σ.t m' m' σ.m D.dead d a2'
      have hm2 : (({ σ with m := m' } : S).put y.dst d).m = m' := by cases y.dst <;> rfl
      have e : (({ σ with m := m' } : S).put y.dst d) = ({ t := (({ σ with m := m' } : S).put y.dst d).t, m := m' } : S) := by cases y.dst <;> rfl
      rw [e]
      exact congrArg some this
  · -- x runs
    rename_i hgx
    split at h1
    case h_2 => cases h1
    rename_i dx mx hsx
    simp only [Option.some.injEq] at h1; subst h1
    rw [gd_putS a1] at h2
    simp only at h2
    split at h2
    · cases h2
    · rename_i hgy
      simp only [Option.some.injEq] at h2; subst h2
      refine ⟨σ.put y.dst .dead, by simp [stepO, hgy], ?_⟩
      unfold stepO
      rw [gd_putS a3, hgx]
      simp only
      rw [sem_put a3]
      have : (σ.put y.dst D.dead).m = σ.m := by cases y.dst <;> rfl
      rw [this, hsx]
      simp only [Option.some.injEq]
      have h3 := put_put σ.t σ.m mx mx dx D.dead a2'
      have e : (({ σ with m := mx } : S).put x.dst dx) = ({ t := (({ σ with m := mx } : S).put x.dst dx).t, m := mx } : S) := by cases x.dst <;> rfl
      rw [e]
      exact h3
    · rename_i hgy
      rw [sem_put a1] at h2
      have hmx : (({ σ with m := mx } : S).put x.dst dx).m = mx := by cases x.dst <;> rfl
      rw [hmx] at h2
      split at h2
      case h_2 => cases h2
      rename_i dy my hsy
      simp only [Option.some.injEq] at h2; subst h2
      have key : ∃ m1, sem P Sp y.op (ev Sp σ.t) σ.m = some (dy, m1) ∧ sem P Sp x.op (ev Sp σ.t) m1 = some (dx, my) := by
        cases hcx : cls P Sp x.op with
        | n =>
          obtain ⟨e1, e2⟩ := sem_n hcx hsx
          subst e1
          exact ⟨my, hsy, e2 my⟩
        | r =>
          have e1 := sem_r hcx hsx
          subst e1
          cases hcy : cls P Sp y.op with
          | n => obtain ⟨e3, _⟩ := sem_n hcy hsy; subst e3; exact ⟨_, hsy, hsx⟩
          | r => have e3 := sem_r hcy hsy; subst e3; exact ⟨_, hsy, hsx⟩
          | w => rw [hcx, hcy] at hcl; simp [Cls.clash] at hcl
        | w =>
          cases hcy : cls P Sp y.op with
          | n => obtain ⟨e3, e4⟩ := sem_n hcy hsy; subst e3; exact ⟨σ.m, e4 _, hsx⟩
          | r => rw [hcx, hcy] at hcl; simp [Cls.clash] at hcl
          | w => rw [hcx, hcy] at hcl; simp [Cls.clash] at hcl
      obtain ⟨m1, k1, k2⟩ := key
      refine ⟨({ σ with m := m1 } : S).put y.dst dy, by simp [stepO, hgy, k1], ?_⟩
      unfold stepO
      rw [gd_putS a3]
      simp only [hgx]
      rw [sem_put a3]
      have hm1 : (({ σ with m := m1 } : S).put y.dst dy).m = m1 := by cases y.dst <;> rfl
      simp only [hm1, k2, Option.some.injEq]
      exact put_put σ.t m1 my mx dx dy a2'

theorem runOps_front {i : Nat} {oi : Oper} (hoi : ops[i]? = some oi) : ∀ (l r : List Nat) (σ σ' : S), (∀ j ∈ l, ∃ oj, ops[j]? = some oj ∧ indep P Sp ops oj oi = true) → runOps P Sp ops (l ++ i :: r) σ = some σ' → runOps P Sp ops (i :: (l ++ r)) σ = some σ'
  | [], r, σ, σ', _, h => h
  | j :: l, r, σ, σ', hl, h => by
    obtain ⟨oj, hoj, hin⟩ := hl j (by simp)
    simp only [List.cons_append, runOps, hoj] at h
    split at h
    case h_2 => cases h
    rename_i σ1 h1
    have h2 := runOps_front hoi l r σ1 σ' (fun k hk => hl k (by simp [hk])) h
    simp only [runOps, hoi] at h2
    split at h2
    case h_2 => cases h2
    rename_i σ2 h3
    obtain ⟨τ, h4, h5⟩ := step_comm hin h1 h3
    simp only [List.cons_append, runOps, hoi, h4, hoj, h5]
    exact h2

/-- what is still to come, in the text's order. -/
def left (n : Nat) (listed : Array Bool) : List Nat := (List.range n).filter fun i => !listed.getD i true

theorem mem_left {n i : Nat} {listed : Array Bool} : i ∈ left n listed ↔ i < n ∧ listed.getD i true = false := by
  simp [left, List.mem_filter]

/-- a set of operations that holds, with each, all that goes ahead of it. -/
def Closed (ops : Array Oper) (listed : Array Bool) : Prop := ∀ (k : Nat) (o : Oper), ops[k]? = some o → listed.getD k false = true → ∀ e ∈ o.after, Region.binds .any e = true → listed.getD e.on false = true

theorem maskE_spec {acc : List Nat} {j : Nat} : ∀ {es : List Edge}, (maskE acc es).testBit j = true → ∃ e ∈ es, Region.binds .any e = true ∧ (e.on = j ∨ (acc.getD e.on 0).testBit j = true)
  | [], h => by simp [maskE] at h
  | e :: r, h => by
    simp only [maskE] at h
    split at h
    · rename_i hb
      simp only [Nat.testBit_or, Bool.or_eq_true] at h
      rcases h with (h | h) | h
      · rw [Nat.testBit_two_pow] at h
        exact ⟨e, by simp, hb, .inl (by simpa using h)⟩
      · exact ⟨e, by simp, hb, .inr h⟩
      · obtain ⟨e', h1, h2⟩ := maskE_spec h
        exact ⟨e', by simp [h1], h2⟩
    · obtain ⟨e', h1, h2⟩ := maskE_spec h
      exact ⟨e', by simp [h1], h2⟩

def GoodMask (ops : Array Oper) (i m : Nat) : Prop := ∀ listed, Closed ops listed → ∀ o, ops[i]? = some o → (∀ e ∈ o.after, Region.binds .any e = true → listed.getD e.on false = true) → ∀ j, m.testBit j = true → listed.getD j false = true

theorem masks_good : ∀ (l : List Oper) (acc : List Nat), (∀ i, i < l.length → ops[acc.length + i]? = l[i]?) → (∀ i, i < acc.length → GoodMask ops i (acc.getD i 0)) → (∀ i, acc.length ≤ i → acc.getD i 0 = 0) →
    ∀ i, GoodMask ops i ((masks l acc).getD i 0)
  | [], acc, _, hg, h0, i => by
    simp only [masks]
    by_cases hi : i < acc.length
    · exact hg i hi
    · rw [h0 i (by omega)]; intro _ _ _ _ _ j hj; simp at hj
  | o :: r, acc, ho, hg, h0, i => by
    simp only [masks]
    refine masks_good r _ (fun k hk => ?_) (fun k hk => ?_) (fun k hk => ?_) i
    · have := ho (k + 1) (by simpa using hk)
      simp only [List.length_append, List.length_singleton, List.getElem?_cons_succ] at this ⊢
      rw [← this]; congr 1; omega
    · by_cases e : k < acc.length
      · have : (acc ++ [maskE acc o.after.toList]).getD k 0 = acc.getD k 0 := by simp [List.getD, List.getElem?_append_left e]
        rw [this]; exact hg k e
      · have hk' : k = acc.length := by simp at hk; omega
        subst hk'
        have hm : (acc ++ [maskE acc o.after.toList]).getD acc.length 0 = maskE acc o.after.toList := by simp [List.getD]
        rw [hm]
        have hoi := ho 0 (by simp)
        simp only [Nat.add_zero, List.getElem?_cons_zero] at hoi
        intro listed hcl o' ho' hd j hj
        rw [hoi] at ho'; cases ho'
        obtain ⟨e, he, hb, hor⟩ := maskE_spec hj
        have hel := hd e (by simpa using he) hb
        rcases hor with rfl | hor
        · exact hel
        · by_cases hlt : e.on < acc.length
          · cases hoe : ops[e.on]? with
            | none =>
              have h3 := hg e.on hlt
              exfalso
              have : e.on < ops.size := by
                have : acc.length < ops.size := by
                  rcases Nat.lt_or_ge acc.length ops.size with h | h
                  · exact h
                  · rw [Array.getElem?_eq_none h] at hoi; cases hoi
                omega
              simp [this] at hoe
            | some oe => exact hg e.on hlt listed hcl oe hoe (hcl e.on oe hoe hel) j hor
          · rw [h0 e.on (by omega)] at hor; simp at hor
    · simp only [List.length_append, List.length_singleton] at hk
      simp only [List.getD]
      rw [List.getElem?_eq_none (by simp; omega)]
      rfl

theorem pairs_spec (hp : pairsOk P Sp ops = true) {i : Nat} {oi : Oper} (hi : ops[i]? = some oi) :
    (∀ e ∈ oi.after, Region.binds .any e = true → e.on < i) ∧ ∀ j, j < i → ∃ oj, ops[j]? = some oj ∧ (((masks ops.toList []).getD i 0).testBit j = true ∨ indep P Sp ops oj oi = true) := by
  have hlt : i < ops.size := by
    rcases Nat.lt_or_ge i ops.size with h | h
    · exact h
    · rw [Array.getElem?_eq_none h] at hi; cases hi
  unfold pairsOk at hp
  have := List.all_eq_true.1 hp i (by simpa using hlt)
  simp only [pairsAt, hi, Bool.and_eq_true] at this
  obtain ⟨h1, h2⟩ := this
  refine ⟨fun e he hb => ?_, fun j hj => ?_⟩
  · have := Array.all_eq_true'.1 h1 e he
    simpa [hb] using this
  · have := List.all_eq_true.1 h2 j (by simpa using hj)
    split at this
    · rename_i oj hoj
      exact ⟨oj, hoj, by simpa using this⟩
    · cases this

theorem left_split {n i : Nat} {listed : Array Bool} (_hsz : listed.size = n) (hi : i ∈ left n listed) :
    ∃ l r, left n listed = l ++ i :: r ∧ (∀ j ∈ l, j < i ∧ listed.getD j true = false) ∧ left n (listed.setIfInBounds i true) = l ++ r := by
  obtain ⟨hlt, hf⟩ := mem_left.1 hi
  have hr : List.range n = List.range i ++ i :: (List.range (n - i - 1)).map (i + 1 + ·) := by
    have e : n = i + (1 + (n - i - 1)) := by omega
    conv => lhs; rw [e, List.range_add, List.range_add]
    simp [List.range_succ, Nat.add_assoc]
  refine ⟨(List.range i).filter (fun k => !listed.getD k true), ((List.range (n - i - 1)).map (i + 1 + ·)).filter (fun k => !listed.getD k true), ?_, ?_, ?_⟩
  · unfold left
    rw [hr, List.filter_append, List.filter_cons, if_pos (by simp [hf])]
  · intro j hj
    simp only [List.mem_filter, List.mem_range] at hj
    exact ⟨hj.1, by simpa using hj.2⟩
  · unfold left
    rw [hr, List.filter_append, List.filter_cons]
    have hi' : (listed.setIfInBounds i true).getD i true = true := by
      simp [Array.getD_eq_getD_getElem?, Array.getElem?_setIfInBounds]
      split <;> rfl
    rw [if_neg (by simp [hi'])]
    have hne : ∀ k, k ≠ i → (listed.setIfInBounds i true).getD k true = listed.getD k true := fun k hk => by
      simp [Array.getD_eq_getD_getElem?, Array.getElem?_setIfInBounds, Ne.symm hk]
    congr 1
    · apply List.filter_congr
      intro k hk
      simp only [List.mem_range] at hk
      rw [hne k (by omega)]
    · apply List.filter_congr
      intro k hk
      simp only [List.mem_map, List.mem_range] at hk
      obtain ⟨q, _, rfl⟩ := hk
      rw [hne _ (by omega)]

theorem run_go (hp : pairsOk P Sp ops = true) : ∀ (fuel t : Nat) (listed : Array Bool) (σ σ' : S), listed.size = ops.size → (left ops.size listed).length ≤ fuel →
    (∀ (k : Nat) (o : Oper), ops[k]? = some o → listed.getD k false = true → ∀ e ∈ o.after, Region.binds .any e = true → listed.getD e.on false = true) →
    runOps P Sp ops (left ops.size listed) σ = some σ' → runOps P Sp ops (Region.linearise.go .any ops fuel t listed []) σ = some σ'
  | 0, t, listed, σ, σ', hsz, hf, hcl, h => by
    have : left ops.size listed = [] := List.eq_nil_of_length_eq_zero (by omega)
    rw [this] at h
    simpa [Region.linearise.go] using h
  | fuel + 1, t, listed, σ, σ', hsz, hf, hcl, h => by
    simp only [Region.linearise.go]
    change runOps P Sp ops (match (Region.ready .any ops listed)[t % (Region.ready .any ops listed).length]? with
      | some i => Region.linearise.go .any ops fuel (t / (Region.ready .any ops listed).length) (listed.setIfInBounds i true) [i]
      | none => [].reverse) σ = some σ'
    have hready : ∀ i, i ∈ Region.ready .any ops listed ↔ i ∈ left ops.size listed ∧ ∃ o, ops[i]? = some o ∧ ∀ e ∈ o.after, Region.binds .any e = true → listed.getD e.on false = true := by
      intro i
      unfold Region.ready
      simp only [List.mem_filter, List.mem_range, Bool.and_eq_true, Bool.not_eq_true', mem_left]
      constructor
      · rintro ⟨h1, h2, h3⟩
        refine ⟨⟨h1, h2⟩, ops[i], by simp [h1], fun e he hb => ?_⟩
        simp only [Array.getElem?_eq_getElem h1, Option.map_some, Option.getD_some, Array.all_eq_true'] at h3
        have := h3 e he
        simpa [hb] using this
      · rintro ⟨⟨h1, h2⟩, o, ho, h3⟩
        refine ⟨h1, h2, ?_⟩
        simp only [ho, Option.map_some, Option.getD_some, Array.all_eq_true']
        intro e he
        cases hb : Region.binds .any e with
        | false => simp
        | true => simp [h3 e he hb]
    cases hi : (Region.ready .any ops listed)[t % (Region.ready .any ops listed).length]? with
    | none =>
      have hnil : Region.ready .any ops listed = [] := by
        cases hr : Region.ready .any ops listed with
        | nil => rfl
        | cons x xs =>
          rw [hr] at hi
          have hlt : t % (x :: xs).length < (x :: xs).length := Nat.mod_lt _ (by simp)
          rw [List.getElem?_eq_getElem hlt] at hi
          cases hi
      have hl : left ops.size listed = [] := by
        cases hr : left ops.size listed with
        | nil => rfl
        | cons x xs =>
          exfalso
          have hx : x ∈ left ops.size listed := by rw [hr]; simp
          obtain ⟨hxl, hxf⟩ := mem_left.1 hx
          have hox : ops[x]? = some ops[x] := by simp [hxl]
          have : x ∈ Region.ready .any ops listed := by
            rw [hready]
            refine ⟨hx, ops[x], hox, fun e he hb => ?_⟩
            have hlt := (pairs_spec hp hox).1 e he hb
            -- e.on < x and x is the least that is left
            rcases hle : listed.getD e.on true with _ | _
            · have hme : e.on ∈ left ops.size listed := mem_left.2 ⟨by omega, hle⟩
              obtain ⟨l, r, e1, e2, _⟩ := left_split hsz hme
              have : x = (l ++ e.on :: r).head (by simp) := by
                have := congrArg List.head? (hr.symm.trans e1)
                simp at this
                cases l with
                | nil => simpa using this
                | cons y ys => simpa using this
              cases l with
              | nil => simp at this; omega
              | cons y ys =>
                simp at this
                have := (e2 y (by simp)).1
                omega
            · have : e.on < listed.size := by rw [hsz]; omega
              simp [Array.getD_eq_getD_getElem?, this] at hle ⊢
              exact hle
          rw [hnil] at this
          cases this
      rw [hl] at h
      simpa using h
    | some i =>
      simp only []
      have hir := (hready i).1 (List.mem_of_getElem? hi)
      obtain ⟨hil, oi, hoi, hdep⟩ := hir
      obtain ⟨l, r, e1, e2, e3⟩ := left_split hsz hil
      rw [linearise_go_acc, List.reverse_singleton, List.singleton_append]
      rw [e1] at h
      have hfr := runOps_front hoi l r σ σ' (fun j hj => by
        obtain ⟨hji, hjf⟩ := e2 j hj
        obtain ⟨oj, hoj, hor⟩ := (pairs_spec hp hoi).2 j hji
        refine ⟨oj, hoj, hor.resolve_left fun hre => ?_⟩
        have := masks_good ops.toList [] (fun k _ => by simp) (fun k hk => by simp at hk) (fun k _ => by simp) i listed hcl oi hoi hdep j hre
        have hjl : j < listed.size := by
          rw [hsz]
          rcases Nat.lt_or_ge j ops.size with h | h
          · exact h
          · rw [Array.getElem?_eq_none h] at hoj; cases hoj
        simp [Array.getD_eq_getD_getElem?, hjl] at this hjf
        rw [this] at hjf; cases hjf) h
      simp only [runOps, hoi] at hfr ⊢
      split at hfr
      case h_2 => cases hfr
      rename_i σ1 h1
      have hlen : (left ops.size listed).length = (l ++ r).length + 1 := by rw [e1]; simp; omega
      refine run_go hp fuel _ _ σ1 σ' (by simpa using hsz) (by rw [e3]; omega) (fun k o hk hlk e he hb => ?_) (by rw [e3]; exact hfr)
      have hset : ∀ q, listed.getD q false = true → (listed.setIfInBounds i true).getD q false = true := fun q hq => by
        simp only [Array.getD_eq_getD_getElem?, Array.getElem?_setIfInBounds] at hq ⊢
        by_cases hqi : i = q
        · subst hqi
          rw [if_pos rfl]
          by_cases hqs : i < listed.size
          · simp [hqs]
          · simp [hqs] at hq
        · rw [if_neg hqi]; exact hq
      by_cases hki : k = i
      · subst hki
        rw [hoi] at hk; cases hk
        exact hset _ (hdep e he hb)
      · refine hset _ (hcl k o hk ?_ e he hb)
        simpa [Array.getD_eq_getD_getElem?, Array.getElem?_setIfInBounds, Ne.symm hki] using hlk

/-- every order that the region may draw comes to what the text's order comes to. -/
theorem run_schedule (hmix : P.follows .mixedOrders = true) (hp : pairsOk P Sp ops = true) (t : Nat) {σ σ' : S} (h : runOps P Sp ops (List.range ops.size) σ = some σ') :
    runOps P Sp ops (Region.schedule (P.follows .mixedOrders) ops t) σ = some σ' := by
  simp only [Region.schedule, hmix, Bool.true_or, if_true, Region.linearise]
  have hl : left ops.size (Array.replicate ops.size false) = List.range ops.size := by
    unfold left
    rw [List.filter_eq_self]
    intro i hi
    simp only [List.mem_range] at hi
    simp [Array.getD_eq_getD_getElem?, hi]
  refine run_go hp ops.size t _ σ σ' (by simp) (by rw [hl]; simp) (fun k o hk hlk => ?_) (by rw [hl]; exact h)
  simp [Array.getD_eq_getD_getElem?] at hlk
  by_cases hk2 : k < ops.size
  · simp [hk2] at hlk
  · simp [hk2] at hlk
end
end Go.Abs

/- Regions of operations on typed abstract values, in their text's order and in every order that a region may draw. No condition. -/
import Derived.Test.YtlinfghjilpcdaaTyR
namespace Go.Abs
open Go
set_option linter.unusedSimpArgs false

structure SF (T : Nat → Type) where
  t : Nat → DT T
  m : MT T

section
variable {T : Nat → Type}
def SF.put (σ : SF T) (dst : Option Nat) (d : DT T) : SF T :=
  match dst with
  | some k => { σ with t := upd σ.t k d }
  | none => σ
def semT (E : Env T) (o : Op) (e : Operand → DT T) (m : MT T) : Option (DT T × MT T) := opK E o e m fun d m => some (d, m)
def gdT (ops : Array Oper) (o : Oper) (t : Nat → DT T) : Option Bool :=
  match gslot ops o with
  | none => some true
  | some (some k, want) => match t k with
    | .bool b => some (b == want)
    | .tup [] => some false
    | _ => none
  | some (none, _) => none
def stepOT (E : Env T) (ops : Array Oper) (o : Oper) (σ : SF T) : Option (SF T) :=
  match gdT ops o σ.t with
  | none => none
  | some false => some (σ.put o.dst (.tup []))
  | some true => match semT E o.op (evT E.G σ.t) σ.m with
    | some (d, m') => some ({ σ with m := m' }.put o.dst d)
    | none => none
def runOpsT (E : Env T) (ops : Array Oper) : List Nat → SF T → Option (SF T)
  | [], σ => some σ
  | i :: r, σ => match ops[i]? with
    | some o => match stepOT E ops o σ with
      | some σ' => runOpsT E ops r σ'
      | none => none
    | none => none
def indepT (E : Env T) (ops : Array Oper) (x y : Oper) : Bool := x.apart ops y && !(clsT E x.op).clash (clsT E y.op)
def pairsAtT (E : Env T) (ops : Array Oper) (ms : List Nat) (i : Nat) : Bool :=
  match ops[i]? with
    | some oi => (oi.after.all fun e => !Region.binds .any e || decide (e.on < i)) &&
        (List.range i).all fun j => match ops[j]? with
          | some oj => (ms.getD i 0).testBit j || indepT E ops oj oi
          | none => false
    | none => false
def pairsOkT (E : Env T) (ops : Array Oper) : Bool :=
  (List.range ops.size).all (pairsAtT E ops (masks ops.toList []))

variable {E : Env T} {ops : Array Oper} {P : Program}

theorem nK_congr {R : Type} {e e' : Operand → DT T} {o : Op} {K : DT T → Option R} (h : ∀ x ∈ o.operands, e x = e' x) : nK E.Y E.C o e K = nK E.Y E.C o e' K := by
  cases o <;> simp only [Op.operands] at h <;> simp only [nK]
  case build t ps =>
    have : (ps.toList.map fun p => (p.1, e p.2)) = (ps.toList.map fun p => (p.1, e' p.2)) := List.map_congr_left fun p hp => by
      rw [h p.2 (by simp; exact ⟨p.1, by simpa using hp⟩)]
    rw [this]
  case slice t x lo hi mx =>
    cases mx with
    | some _ => rfl
    | none =>
      have h1 : e x = e' x := h x (by simp)
      have h2 : lo.map e = lo.map e' := by cases lo with
        | none => rfl
        | some y => simp only [Option.map_some]; rw [h y (by simp)]
      have h3 : hi.map e = hi.map e' := by cases hi with
        | none => rfl
        | some y => simp only [Option.map_some]; rw [h y (by simp)]
      simp only [h1, h2, h3]
  case makeFunc fn first cap =>
    cases fn <;> simp only []
    have : cap.toList.map e = cap.toList.map e' := List.map_congr_left fun x hx => h x (by simp; right; simpa using hx)
    rw [this]
  case call c =>
    obtain ⟨callee, args, at'⟩ := c
    have ha : args.toList.map e = args.toList.map e' := List.map_congr_left fun x hx => h x (by simp [Call.operands]; right; simpa using hx)
    cases callee with
    | builtin b =>
      cases b <;> simp only [ha]
      case len =>
        split
        · rename_i x t hx ht
          rw [h x (by simp [Call.operands]; rw [← Array.mem_toList_iff, hx]; simp)]
        · rfl
    | value f => rfl
    | invoke r n => rfl
  all_goals first | rfl | (simp at h; simp only [h])
theorem rK_congr {R : Type} {e e' : Operand → DT T} {m : MT T} {o : Op} {K : DT T → Option R} (h : ∀ x ∈ o.operands, e x = e' x) : rK E.Y E.C o e m K = rK E.Y E.C o e' m K := by
  cases o <;> simp only [Op.operands] at h <;> simp only [rK]
  case load t x => simp at h; simp only [h]
  case convert src dst x => simp at h; simp only [h]
theorem wK_congr {R : Type} {e e' : Operand → DT T} {m : MT T} {o : Op} {K : DT T → MT T → Option R} (h : ∀ x ∈ o.operands, e x = e' x) : wK E.Y E.C o e m K = wK E.Y E.C o e' m K := by
  cases o <;> simp only [Op.operands] at h <;> simp only [wK]
  case box t x => simp at h; simp only [h]
  case store t x y => simp at h; simp only [h]
  case range t x => simp at h; simp only [h]
  case convert src dst x => simp at h; simp only [h]
  case makeSlice t a b => simp at h; simp only [h]
  case next x q => simp at h; cases q <;> simp only [h]
  case buildSlice t n ps =>
    have : (ps.toList.map fun p => (p.1, e p.2)) = (ps.toList.map fun p => (p.1, e' p.2)) := List.map_congr_left fun p hp => by
      rw [h p.2 (by simp; exact ⟨p.1, by simpa using hp⟩)]
    simp only [this]
  case call c =>
    obtain ⟨callee, args, at'⟩ := c
    have hm : ∀ x ∈ args.toList, e x = e' x := fun x hx => h x (by simp [Call.operands]; right; simpa using hx)
    cases callee with
    | builtin b =>
      cases b <;> simp only []
      split
      · rename_i s x t t' hx ht
        have h1 : e s = e' s := hm s (by rw [hx]; simp)
        have h2 : e x = e' x := hm x (by rw [hx]; simp)
        simp only [h1, h2]
      · rfl
    | invoke r n => rfl
    | value f => rfl
theorem semT_congr {e e' : Operand → DT T} {m : MT T} {o : Op} (h : ∀ x ∈ o.operands, e x = e' x) : semT E o e m = semT E o e' m := by
  unfold semT opK
  split
  · exact nK_congr h
  · split
    · rename_i f args at' _
      have ha : args.toList.map e = args.toList.map e' := List.map_congr_left fun x hx => h x (by simp [Op.operands, Call.operands]; right; simpa using hx)
      rw [ha]
    · exact rK_congr h
  · split
    · rename_i f args at' _
      have ha : args.toList.map e = args.toList.map e' := List.map_congr_left fun x hx => h x (by simp [Op.operands, Call.operands]; right; simpa using hx)
      have hf : e f = e' f := h f (by simp [Op.operands, Call.operands])
      rw [ha, hf]
    · exact wK_congr h

theorem ev_putT {σ : SF T} {dst : Option Nat} {d : DT T} {x : Operand} (h : ∀ k, dst = some k → x ≠ .tmp k) : evT E.G (σ.put dst d).t x = evT E.G σ.t x := by
  cases dst with
  | none => rfl
  | some k =>
    cases x with
    | tmp t =>
      have : t ≠ k := fun e => h k rfl (e ▸ rfl)
      simp [evT, SF.put, upd, this]
    | _ => rfl

theorem sem_putT {σ : SF T} {dst : Option Nat} {d : DT T} {o : Oper} {m : MT T} (h : ∀ k, dst = some k → k ∉ o.looksAt ops) : semT E o.op (evT E.G (σ.put dst d).t) m = semT E o.op (evT E.G σ.t) m :=
  semT_congr fun x hx => ev_putT fun k hk e => h k hk (mem_looks (by rw [← e]; exact hx))

theorem gd_putT {t : Nat → DT T} {k : Nat} {d : DT T} {o : Oper} (h : k ∉ o.looksAt ops) : gdT ops o (upd t k d) = gdT ops o t := by
  unfold gdT gslot
  cases hg : o.guard with
  | none => rfl
  | some p =>
    obtain ⟨j, want⟩ := p
    simp only
    cases hd : (ops[j]?).bind (·.dst) with
    | none => rfl
    | some q =>
      have : q ≠ k := fun e => h (by
        unfold Oper.looksAt
        rw [List.mem_append]
        right
        simp [hg, hd, e])
      simp [upd, this]

theorem SF.put_comm (σ : SF T) {x y : Option Nat} (d d' : DT T) (h : ∀ k, x = some k → y ≠ some k) : (σ.put x d).put y d' = (σ.put y d').put x d := by
  cases x with
  | none => rfl
  | some k =>
    cases y with
    | none => rfl
    | some q =>
      have hne : k ≠ q := fun e => h k rfl (by rw [e])
      simp only [SF.put]
      congr 1
      funext j
      simp only [upd]
      by_cases h1 : j = k
      · subst h1; simp [hne]
      · simp [h1]

theorem gd_putST {σ : SF T} {dst : Option Nat} {d : DT T} {o : Oper} (h : ∀ k, dst = some k → k ∉ o.looksAt ops) : gdT ops o (σ.put dst d).t = gdT ops o σ.t := by
  cases dst with
  | none => rfl
  | some k => exact gd_putT (h k rfl)

theorem semT_n {o : Op} {e : Operand → DT T} {m m' : MT T} {d : DT T} (hc : clsT E o = .n) (h : semT E o e m = some (d, m')) : m' = m ∧ ∀ m2, semT E o e m2 = some (d, m2) := by
  unfold semT opK at *
  rw [hc] at h ⊢
  simp only at h ⊢
  rw [nK_law, Option.bind_eq_some_iff] at h
  obtain ⟨x, hx, hp⟩ := h
  simp only [Option.some.injEq, Prod.mk.injEq] at hp
  refine ⟨hp.2.symm, fun m2 => ?_⟩
  rw [nK_law, hx, ← hp.1]; rfl

theorem callR_law (f : Nat) (ds : List (DT T)) (m : MT T) {R : Type} (K : DT T → Option R) : callR E f ds m K = (callR E f ds m some).bind K := by
  have look : ∀ (ss : List Slot) (ds : List (DT T)) {R : Type} (K : tySs T ss → Option R), decVsK E.C m ss ds K = (decVsK E.C m ss ds some).bind K := by
    intro ss
    induction ss with
    | nil => intro ds R K; simp only [decVsK]; split <;> rfl
    | cons s r ih =>
      intro ds R K
      cases s with
      | f f =>
        cases f with
        | v t =>
          cases ds with
          | nil => rfl
          | cons d ds =>
            simp only [decVsK]
            split
            · rw [purL_law, purL_law (R := tySs T (.f (.v t) :: r))]
              simp only [Option.bind_assoc]
              congr 1; funext cs
              split
              · rw [ih ds, ih ds (R := tySs T (.f (.v t) :: r))]
                rw [Option.bind_assoc]; rfl
              · rfl
            · rfl
        | own c => simp [decVsK]
        | pt c => simp [decVsK]
        | st a c b => simp [decVsK]
        | fp f t => simp [decVsK]
      | ptr fs => simp [decVsK]
      | inp c => simp [decVsK]
      | iter => simp [decVsK]
  unfold callR
  split
  · split
    · rw [look, look (R := DT T)]
      simp only [Option.bind_assoc, Option.bind_some]
    · rfl
  · rfl

theorem semT_r {o : Op} {e : Operand → DT T} {m m' : MT T} {d : DT T} (hc : clsT E o = .r) (h : semT E o e m = some (d, m')) : m' = m := by
  unfold semT opK at *
  rw [hc] at h
  simp only at h
  split at h
  · rw [callR_law, Option.bind_eq_some_iff] at h
    obtain ⟨x, hx, hp⟩ := h
    simp only [Option.some.injEq, Prod.mk.injEq] at hp
    exact hp.2.symm
  · rw [rK_law, Option.bind_eq_some_iff] at h
    obtain ⟨x, hx, hp⟩ := h
    simp only [Option.some.injEq, Prod.mk.injEq] at hp
    exact hp.2.symm

theorem put_mT (σ : SF T) (m : MT T) (dst : Option Nat) (d : DT T) : ({ σ with m := m } : SF T).put dst d = { σ.put dst d with m := m } := by cases dst <;> rfl

theorem put_putT (t : Nat → DT T) (m1 m2 m3 : MT T) {x y : Option Nat} (dx dy : DT T) (h : ∀ k, y = some k → x ≠ some k) :
    ({ t := (({ t := t, m := m1 } : SF T).put y dy).t, m := m2 } : SF T).put x dx = ({ t := (({ t := t, m := m3 } : SF T).put x dx).t, m := m2 } : SF T).put y dy := by
  cases x with
  | none => cases y <;> rfl
  | some k =>
    cases y with
    | none => rfl
    | some q =>
      have hne : q ≠ k := fun e => h q rfl (by rw [e])
      simp only [SF.put]
      congr 1
      funext j
      simp only [upd]
      by_cases h1 : j = k
      · subst h1; simp [Ne.symm hne]
      · simp [h1]

/-- two operations that are apart may be exchanged. -/
theorem step_commT {x y : Oper} {σ σ1 σ2 : SF T} (hi : indepT E ops x y = true) (h1 : stepOT E ops x σ = some σ1) (h2 : stepOT E ops y σ1 = some σ2) :
    ∃ τ, stepOT E ops y σ = some τ ∧ stepOT E ops x τ = some σ2 := by
  unfold indepT at hi
  simp only [Bool.and_eq_true, Bool.not_eq_true'] at hi
  obtain ⟨hap, hcl⟩ := hi
  obtain ⟨a1, a2, a3⟩ := Oper.apart_spec hap
  have a2' : ∀ k, y.dst = some k → x.dst ≠ some k := fun k hk e => a2 k e hk
  unfold stepOT at h1 h2
  -- x
  split at h1
  · cases h1
  · -- x is passed over
    rename_i hgx
    simp only [Option.some.injEq] at h1; subst h1
    rw [gd_putST a1] at h2
    split at h2
    · cases h2
    · rename_i hgy
      simp only [Option.some.injEq] at h2; subst h2
      refine ⟨σ.put y.dst (.tup []), by simp [stepOT, hgy], ?_⟩
      unfold stepOT
      rw [gd_putST a3, hgx]
      simp only
      rw [SF.put_comm σ _ _ a2']
    · rename_i hgy
      rw [sem_putT a1] at h2
      split at h2
      case h_2 => cases h2
      rename_i d m' hs
      simp only [Option.some.injEq] at h2; subst h2
      have hs' : semT E y.op (evT E.G σ.t) σ.m = some (d, m') := by
        rw [← hs]; cases x.dst <;> rfl
      refine ⟨({ σ with m := m' } : SF T).put y.dst d, by simp [stepOT, hgy, hs'], ?_⟩
      unfold stepOT
      rw [gd_putST a3]
      simp only [hgx]
      have := put_putT σ.t m' m' σ.m (DT.tup []) d a2'
      have hm2 : (({ σ with m := m' } : SF T).put y.dst d).m = m' := by cases y.dst <;> rfl
      have e : (({ σ with m := m' } : SF T).put y.dst d) = ({ t := (({ σ with m := m' } : SF T).put y.dst d).t, m := m' } : SF T) := by cases y.dst <;> rfl
      rw [e]
      exact congrArg some this
  · -- x runs
    rename_i hgx
    split at h1
    case h_2 => cases h1
    rename_i dx mx hsx
    simp only [Option.some.injEq] at h1; subst h1
    rw [gd_putST a1] at h2
    simp only at h2
    split at h2
    · cases h2
    · rename_i hgy
      simp only [Option.some.injEq] at h2; subst h2
      refine ⟨σ.put y.dst (.tup []), by simp [stepOT, hgy], ?_⟩
      unfold stepOT
      rw [gd_putST a3, hgx]
      simp only
      rw [sem_putT a3]
      have : (σ.put y.dst (DT.tup [])).m = σ.m := by cases y.dst <;> rfl
      rw [this, hsx]
      simp only [Option.some.injEq]
      have h3 := put_putT σ.t σ.m mx mx dx (DT.tup []) a2'
      have e : (({ σ with m := mx } : SF T).put x.dst dx) = ({ t := (({ σ with m := mx } : SF T).put x.dst dx).t, m := mx } : SF T) := by cases x.dst <;> rfl
      rw [e]
      exact h3
    · rename_i hgy
      rw [sem_putT a1] at h2
      have hmx : (({ σ with m := mx } : SF T).put x.dst dx).m = mx := by cases x.dst <;> rfl
      rw [hmx] at h2
      split at h2
      case h_2 => cases h2
      rename_i dy my hsy
      simp only [Option.some.injEq] at h2; subst h2
      have key : ∃ m1, semT E y.op (evT E.G σ.t) σ.m = some (dy, m1) ∧ semT E x.op (evT E.G σ.t) m1 = some (dx, my) := by
        cases hcx : clsT E x.op with
        | n =>
          obtain ⟨e1, e2⟩ := semT_n hcx hsx
          subst e1
          exact ⟨my, hsy, e2 my⟩
        | r =>
          have e1 := semT_r hcx hsx
          subst e1
          cases hcy : clsT E y.op with
          | n => obtain ⟨e3, _⟩ := semT_n hcy hsy; subst e3; exact ⟨_, hsy, hsx⟩
          | r => have e3 := semT_r hcy hsy; subst e3; exact ⟨_, hsy, hsx⟩
          | w => rw [hcx, hcy] at hcl; simp [Cls.clash] at hcl
        | w =>
          cases hcy : clsT E y.op with
          | n => obtain ⟨e3, e4⟩ := semT_n hcy hsy; subst e3; exact ⟨σ.m, e4 _, hsx⟩
          | r => rw [hcx, hcy] at hcl; simp [Cls.clash] at hcl
          | w => rw [hcx, hcy] at hcl; simp [Cls.clash] at hcl
      obtain ⟨m1, k1, k2⟩ := key
      refine ⟨({ σ with m := m1 } : SF T).put y.dst dy, by simp [stepOT, hgy, k1], ?_⟩
      unfold stepOT
      rw [gd_putST a3]
      simp only [hgx]
      rw [sem_putT a3]
      have hm1 : (({ σ with m := m1 } : SF T).put y.dst dy).m = m1 := by cases y.dst <;> rfl
      simp only [hm1, k2, Option.some.injEq]
      exact put_putT σ.t m1 my mx dx dy a2'

theorem runOpsT_front {i : Nat} {oi : Oper} (hoi : ops[i]? = some oi) : ∀ (l r : List Nat) (σ σ' : SF T), (∀ j ∈ l, ∃ oj, ops[j]? = some oj ∧ indepT E ops oj oi = true) → runOpsT E ops (l ++ i :: r) σ = some σ' → runOpsT E ops (i :: (l ++ r)) σ = some σ'
  | [], r, σ, σ', _, h => h
  | j :: l, r, σ, σ', hl, h => by
    obtain ⟨oj, hoj, hin⟩ := hl j (by simp)
    simp only [List.cons_append, runOpsT, hoj] at h
    split at h
    case h_2 => cases h
    rename_i σ1 h1
    have h2 := runOpsT_front hoi l r σ1 σ' (fun k hk => hl k (by simp [hk])) h
    simp only [runOpsT, hoi] at h2
    split at h2
    case h_2 => cases h2
    rename_i σ2 h3
    obtain ⟨τ, h4, h5⟩ := step_commT hin h1 h3
    simp only [List.cons_append, runOpsT, hoi, h4, hoj, h5]
    exact h2

theorem pairsT_spec (hp : pairsOkT E ops = true) {i : Nat} {oi : Oper} (hi : ops[i]? = some oi) :
    (∀ e ∈ oi.after, Region.binds .any e = true → e.on < i) ∧ ∀ j, j < i → ∃ oj, ops[j]? = some oj ∧ (((masks ops.toList []).getD i 0).testBit j = true ∨ indepT E ops oj oi = true) := by
  have hlt : i < ops.size := by
    rcases Nat.lt_or_ge i ops.size with h | h
    · exact h
    · rw [Array.getElem?_eq_none h] at hi; cases hi
  unfold pairsOkT at hp
  have := List.all_eq_true.1 hp i (by simpa using hlt)
  simp only [pairsAtT, hi, Bool.and_eq_true] at this
  obtain ⟨h1, h2⟩ := this
  refine ⟨fun e he hb => ?_, fun j hj => ?_⟩
  · have := Array.all_eq_true'.1 h1 e he
    simpa [hb] using this
  · have := List.all_eq_true.1 h2 j (by simpa using hj)
    split at this
    · rename_i oj hoj
      exact ⟨oj, hoj, by simpa using this⟩
    · cases this

theorem run_goT (hp : pairsOkT E ops = true) : ∀ (fuel t : Nat) (listed : Array Bool) (σ σ' : SF T), listed.size = ops.size → (left ops.size listed).length ≤ fuel →
    (∀ (k : Nat) (o : Oper), ops[k]? = some o → listed.getD k false = true → ∀ e ∈ o.after, Region.binds .any e = true → listed.getD e.on false = true) →
    runOpsT E ops (left ops.size listed) σ = some σ' → runOpsT E ops (Region.linearise.go .any ops fuel t listed []) σ = some σ'
  | 0, t, listed, σ, σ', hsz, hf, hcl, h => by
    have : left ops.size listed = [] := List.eq_nil_of_length_eq_zero (by omega)
    rw [this] at h
    simpa [Region.linearise.go] using h
  | fuel + 1, t, listed, σ, σ', hsz, hf, hcl, h => by
    simp only [Region.linearise.go]
    change runOpsT E ops (match (Region.ready .any ops listed)[t % (Region.ready .any ops listed).length]? with
      | some i => Region.linearise.go .any ops fuel (t / (Region.ready .any ops listed).length) (listed.setIfInBounds i true) [i]
      | none => [].reverse) σ = some σ'
    have hready : ∀ i, i ∈ Region.ready .any ops listed ↔ i ∈ left ops.size listed ∧ ∃ o, ops[i]? = some o ∧ ∀ e ∈ o.after, Region.binds .any e = true → listed.getD e.on false = true := by
      intro i
      unfold Region.ready
      simp only [List.mem_filter, List.mem_range, Bool.and_eq_true, Bool.not_eq_true', mem_left]
      constructor
      · rintro ⟨h1, h2, h3⟩
        refine ⟨⟨h1, h2⟩, ops[i], by simp [h1], fun e he hb => ?_⟩
        simp only [Array.getElem?_eq_getElem h1, Option.map_some, Option.getD_some, Array.all_eq_true'] at h3
        have := h3 e he
        simpa [hb] using this
      · rintro ⟨⟨h1, h2⟩, o, ho, h3⟩
        refine ⟨h1, h2, ?_⟩
        simp only [ho, Option.map_some, Option.getD_some, Array.all_eq_true']
        intro e he
        cases hb : Region.binds .any e with
        | false => simp
        | true => simp [h3 e he hb]
    cases hi : (Region.ready .any ops listed)[t % (Region.ready .any ops listed).length]? with
    | none =>
      have hnil : Region.ready .any ops listed = [] := by
        cases hr : Region.ready .any ops listed with
        | nil => rfl
        | cons x xs =>
          rw [hr] at hi
          have hlt : t % (x :: xs).length < (x :: xs).length := Nat.mod_lt _ (by simp)
          rw [List.getElem?_eq_getElem hlt] at hi
          cases hi
      have hl : left ops.size listed = [] := by
        cases hr : left ops.size listed with
        | nil => rfl
        | cons x xs =>
          exfalso
          have hx : x ∈ left ops.size listed := by rw [hr]; simp
          obtain ⟨hxl, hxf⟩ := mem_left.1 hx
          have hox : ops[x]? = some ops[x] := by simp [hxl]
          have : x ∈ Region.ready .any ops listed := by
            rw [hready]
            refine ⟨hx, ops[x], hox, fun e he hb => ?_⟩
            have hlt := (pairsT_spec hp hox).1 e he hb
            -- e.on < x and x is the least that is left
            rcases hle : listed.getD e.on true with _ | _
            · have hme : e.on ∈ left ops.size listed := mem_left.2 ⟨by omega, hle⟩
              obtain ⟨l, r, e1, e2, _⟩ := left_split hsz hme
              have : x = (l ++ e.on :: r).head (by simp) := by
                have := congrArg List.head? (hr.symm.trans e1)
                simp at this
                cases l with
                | nil => simpa using this
                | cons y ys => simpa using this
              cases l with
              | nil => simp at this; omega
              | cons y ys =>
                simp at this
                have := (e2 y (by simp)).1
                omega
            · have : e.on < listed.size := by rw [hsz]; omega
              simp [Array.getD_eq_getD_getElem?, this] at hle ⊢
              exact hle
          rw [hnil] at this
          cases this
      rw [hl] at h
      simpa using h
    | some i =>
      simp only []
      have hir := (hready i).1 (List.mem_of_getElem? hi)
      obtain ⟨hil, oi, hoi, hdep⟩ := hir
      obtain ⟨l, r, e1, e2, e3⟩ := left_split hsz hil
      rw [linearise_go_acc, List.reverse_singleton, List.singleton_append]
      rw [e1] at h
      have hfr := runOpsT_front hoi l r σ σ' (fun j hj => by
        obtain ⟨hji, hjf⟩ := e2 j hj
        obtain ⟨oj, hoj, hor⟩ := (pairsT_spec hp hoi).2 j hji
        refine ⟨oj, hoj, hor.resolve_left fun hre => ?_⟩
        have := masks_good ops.toList [] (fun k _ => by simp) (fun k hk => by simp at hk) (fun k _ => by simp) i listed hcl oi hoi hdep j hre
        have hjl : j < listed.size := by
          rw [hsz]
          rcases Nat.lt_or_ge j ops.size with h | h
          · exact h
          · rw [Array.getElem?_eq_none h] at hoj; cases hoj
        simp [Array.getD_eq_getD_getElem?, hjl] at this hjf
        rw [this] at hjf; cases hjf) h
      simp only [runOpsT, hoi] at hfr ⊢
      split at hfr
      case h_2 => cases hfr
      rename_i σ1 h1
      have hlen : (left ops.size listed).length = (l ++ r).length + 1 := by rw [e1]; simp; omega
      refine run_goT hp fuel _ _ σ1 σ' (by simpa using hsz) (by rw [e3]; omega) (fun k o hk hlk e he hb => ?_) (by rw [e3]; exact hfr)
      have hset : ∀ q, listed.getD q false = true → (listed.setIfInBounds i true).getD q false = true := fun q hq => by
        simp only [Array.getD_eq_getD_getElem?, Array.getElem?_setIfInBounds] at hq ⊢
        by_cases hqi : i = q
        · subst hqi
          rw [if_pos rfl]
          by_cases hqs : i < listed.size
          · simp [hqs]
          · simp [hqs] at hq
        · rw [if_neg hqi]; exact hq
      by_cases hki : k = i
      · subst hki
        rw [hoi] at hk; cases hk
        exact hset _ (hdep e he hb)
      · refine hset _ (hcl k o hk ?_ e he hb)
        simpa [Array.getD_eq_getD_getElem?, Array.getElem?_setIfInBounds, Ne.symm hki] using hlk

/-- every order that the region may draw comes to what the text's order comes to. -/
theorem run_scheduleT (hmix : P.follows .mixedOrders = true) (hp : pairsOkT E ops = true) (t : Nat) {σ σ' : SF T} (h : runOpsT E ops (List.range ops.size) σ = some σ') :
    runOpsT E ops (Region.schedule (P.follows .mixedOrders) ops t) σ = some σ' := by
  simp only [Region.schedule, hmix, Bool.true_or, if_true, Region.linearise]
  have hl : left ops.size (Array.replicate ops.size false) = List.range ops.size := by
    unfold left
    rw [List.filter_eq_self]
    intro i hi
    simp only [List.mem_range] at hi
    simp [Array.getD_eq_getD_getElem?, hi]
  refine run_goT hp ops.size t _ σ σ' (by simp) (by rw [hl]; simp) (fun k o hk hlk => ?_) (by rw [hl]; exact h)
  simp [Array.getD_eq_getD_getElem?] at hlk
  by_cases hk2 : k < ops.size
  · simp [hk2] at hlk
  · simp [hk2] at hlk
end
end Go.Abs

/- The abstract run, step by step, as rewriting rules. No condition. -/
import Derived.Test.YtlbafgkhnhkanaaDoorAbsQ
namespace Go.Abs
open Go

/-- an equation that is not to be used by unfolding. -/
theorem nrfl {α : Sort _} {a b : α} (h : a = b) : a = b := by cases h; rfl

section
variable {P : Program} {Sp : Specs} {Q : Ex → S → Prop} {K : S → Prop} {σ : S} {ops : Array Oper} {dst : Option Nat} {ty : TypeId} {pos : String} {af : Array Edge} {t : Nat → D} {m : Mem}

theorem a_skip : awp P Sp .skip σ Q = Q .normal σ := nrfl rfl
theorem a_ret : awp P Sp .ret σ Q = Q .ret σ := nrfl rfl
theorem a_exit {id : Nat} : awp P Sp (.exit id) σ Q = Q (.exit id) σ := nrfl rfl
theorem a_label {l : Nat} : awp P Sp (.label l) σ Q = Q .normal σ := nrfl rfl
theorem a_region {id : Nat} {draw : Bool} {l : List Oper} : awp P Sp (.region id l.toArray draw) σ Q = runK P Sp l.toArray l σ (Q .normal) := nrfl rfl
def thenK (P : Program) (Sp : Specs) (b : Code) (Q : Ex → S → Prop) : Ex → S → Prop
  | .normal, τ => awp P Sp b τ Q
  | .exit j, τ => Q (.exit j) τ
  | .ret, τ => Q .ret τ
def blockK (id : Nat) (Q : Ex → S → Prop) : Ex → S → Prop
  | .normal, τ => Q .normal τ
  | .exit j, τ => if j = id then Q .normal τ else Q (.exit j) τ
  | .ret, τ => Q .ret τ
theorem a_seq {a b : Code} : awp P Sp (.seq a b) σ Q = awp P Sp a σ (thenK P Sp b Q) := by
  simp only [awp]; congr 1; funext e τ; cases e <;> rfl
theorem a_block {id : Nat} {b : Code} : awp P Sp (.block id b) σ Q = awp P Sp b σ (blockK id Q) := by
  simp only [awp]; congr 1; funext e τ; cases e <;> rfl
theorem then_normal {b : Code} : thenK P Sp b Q .normal σ = awp P Sp b σ Q := nrfl rfl
theorem then_exit {b : Code} {j : Nat} : thenK P Sp b Q (.exit j) σ = Q (.exit j) σ := nrfl rfl
theorem then_ret {b : Code} : thenK P Sp b Q .ret σ = Q .ret σ := nrfl rfl
theorem block_normal {id : Nat} : blockK id Q .normal σ = Q .normal σ := nrfl rfl
theorem block_exit {id j : Nat} : blockK id Q (.exit j) σ = if j = id then Q .normal σ else Q (.exit j) σ := nrfl rfl
theorem block_ret {id : Nat} : blockK id Q .ret σ = Q .ret σ := nrfl rfl

def condK (P : Program) (Sp : Specs) (d : D) (a b : Code) (σ : S) (Q : Ex → S → Prop) : Prop :=
  match d with
  | .bool q => if q then awp P Sp a σ Q else awp P Sp b σ Q
  | _ => False
theorem a_cond {c : Operand} {a b : Code} : awp P Sp (.cond c a b) σ Q = condK P Sp (ev Sp σ.t c) a b σ Q := nrfl rfl
theorem cond_b {a b : Code} {q : Bool} : condK P Sp (.bool q) a b σ Q = if q = true then awp P Sp a σ Q else awp P Sp b σ Q := nrfl rfl
theorem cond_t {a b : Code} : condK P Sp (.bool true) a b σ Q = awp P Sp a σ Q := nrfl rfl
theorem cond_f {a b : Code} : condK P Sp (.bool false) a b σ Q = awp P Sp b σ Q := nrfl rfl

theorem r_nil : runK P Sp ops [] σ K = K σ := nrfl rfl
theorem r_cons {op : Op} {r : List Oper} : runK P Sp ops (⟨dst, op, ty, pos, af, none⟩ :: r) σ K = stepK P Sp ⟨dst, op, ty, pos, af, none⟩ σ (fun σ' => runK P Sp ops r σ' K) := nrfl rfl

/-- a guarded operation. -/
def guardK (P : Program) (Sp : Specs) (ops : Array Oper) (k : Nat) (want : Bool) (o : Oper) (r : List Oper) (d : D) (σ : S) (K : S → Prop) : Prop :=
  match d with
  | .bool b => if b = want then stepK P Sp o { σ with t := upd σ.t k (.bool want) } (fun σ' => runK P Sp ops r σ' K)
      else runK P Sp ops r (({ σ with t := upd σ.t k (.bool (!want)) } : S).put o.dst .dead) K
  | _ => False
def guardO (P : Program) (Sp : Specs) (ops : Array Oper) (k : Option Nat) (want : Bool) (o : Oper) (r : List Oper) (σ : S) (K : S → Prop) : Prop :=
  match k with
  | some k => guardK P Sp ops k want o r (σ.t k) σ K
  | none => False
theorem r_guard {op : Op} {r : List Oper} {j : Nat} {want : Bool} {l : List Oper} :
    runK P Sp l.toArray (⟨dst, op, ty, pos, af, some (j, want)⟩ :: r) σ K = guardO P Sp l.toArray ((l[j]?).bind Oper.dst) want ⟨dst, op, ty, pos, af, none⟩ r σ K := by
  simp only [runK, gslot, List.getElem?_toArray]
  cases h : (l[j]?).bind Oper.dst with
  | none => rfl
  | some k => rfl
theorem guard_o {o : Oper} {r : List Oper} {k : Nat} {want : Bool} : guardO P Sp ops (some k) want o r σ K = guardK P Sp ops k want o r (σ.t k) σ K := nrfl rfl
theorem guard_b {o : Oper} {r : List Oper} {k : Nat} {want b : Bool} : guardK P Sp ops k want o r (.bool b) σ K = if b = want then stepK P Sp o { σ with t := upd σ.t k (.bool want) } (fun σ' => runK P Sp ops r σ' K)
      else runK P Sp ops r (({ σ with t := upd σ.t k (.bool (!want)) } : S).put o.dst .dead) K := nrfl rfl

/-- go on with an answer. -/
def goD (σ : S) (dst : Option Nat) (K : S → Prop) : Option D → Prop
  | some d => K (σ.put dst d)
  | none => False
def goM (t : Nat → D) (dst : Option Nat) (K : S → Prop) : Option (D × Mem) → Prop
  | some (d, m) => K (S.put ⟨t, m⟩ dst d)
  | none => False
theorem go_some {d : D} : goD σ dst K (some d) = K (σ.put dst d) := nrfl rfl
theorem goM_some {d : D} : goM t dst K (some (d, m)) = K (S.put ⟨t, m⟩ dst d) := nrfl rfl

theorem of_n {o : Oper} (h : cls P Sp o.op = .n) : stepK P Sp o σ K = goD σ o.dst K (semN P o.op (ev Sp σ.t)) := by
  unfold stepK sem
  rw [h]
  cases semN P o.op (ev Sp σ.t) <;> rfl
theorem of_r {o : Oper} (h : cls P Sp o.op = .r) : stepK P Sp o σ K = goD σ o.dst K (semR P Sp o.op (ev Sp σ.t) σ.m) := by
  unfold stepK sem
  rw [h]
  cases semR P Sp o.op (ev Sp σ.t) σ.m <;> rfl
theorem of_w {o : Oper} (h : cls P Sp o.op = .w) : stepK P Sp o σ K = goM σ.t o.dst K (semW P Sp o.op (ev Sp σ.t) σ.m) := by
  unfold stepK sem
  rw [h]
  cases semW P Sp o.op (ev Sp σ.t) σ.m <;> rfl

theorem s_move {x : Operand} {g : Option (Nat × Bool)} : stepK P Sp ⟨dst, .move x, ty, pos, af, g⟩ σ K = K (σ.put dst (ev Sp σ.t x)) := nrfl rfl
theorem s_assign {x : Operand} {g : Option (Nat × Bool)} : stepK P Sp ⟨dst, .assign x, ty, pos, af, g⟩ σ K = K (σ.put dst (ev Sp σ.t x)) := nrfl rfl
def pickD : D → D → D → Option D
  | .bool true, a, _ => some a
  | .bool false, _, b => some b
  | _, _, _ => none
theorem s_pick {c a b : Operand} {g : Option (Nat × Bool)} : stepK P Sp ⟨dst, .pick c a b, ty, pos, af, g⟩ σ K = goD σ dst K (pickD (ev Sp σ.t c) (ev Sp σ.t a) (ev Sp σ.t b)) := by
  rw [of_n rfl]; simp only [semN]; congr 1; cases ev Sp σ.t c <;> first | rfl | (rename_i q; cases q <;> rfl)
theorem pick_t {a b : D} : pickD (.bool true) a b = some a := nrfl rfl
theorem pick_f {a b : D} : pickD (.bool false) a b = some b := nrfl rfl
def nilD : D → Option D
  | .bp b i => some (.bp b i)
  | .ap b g s i k => some (.ap b g s i k)
  | .rp cs => some (.rp cs)
  | .fn f cap => some (.fn f cap)
  | _ => none
theorem s_nil {x : Operand} {g : Option (Nat × Bool)} : stepK P Sp ⟨dst, .nilCheck x, ty, pos, af, g⟩ σ K = goD σ dst K (nilD (ev Sp σ.t x)) := by
  rw [of_n rfl]; rfl
theorem s_bin {op : BinOp} {u v : TypeId} {x y : Operand} {g : Option (Nat × Bool)} : stepK P Sp ⟨dst, .binOp op u x y v, ty, pos, af, g⟩ σ K = goD σ dst K (binD P op u (ev Sp σ.t x) (ev Sp σ.t y)) := by
  rw [of_n rfl]; rfl
theorem s_un {op : UnOp} {u : TypeId} {x : Operand} {g : Option (Nat × Bool)} : stepK P Sp ⟨dst, .unOp op u x, ty, pos, af, g⟩ σ K = goD σ dst K (unD op (ev Sp σ.t x)) := by
  rw [of_n rfl]; rfl
theorem s_build {u : TypeId} {ps : List (Nat × Operand)} {g : Option (Nat × Bool)} : stepK P Sp ⟨dst, .build u ps.toArray, ty, pos, af, g⟩ σ K = goD σ dst K (buildD P u (ps.map fun p => (p.1, ev Sp σ.t p.2))) := by
  rw [of_n rfl]; rfl
theorem s_fieldAddr {u : TypeId} {x : Operand} {k : Nat} {g : Option (Nat × Bool)} : stepK P Sp ⟨dst, .fieldAddr u x k, ty, pos, af, g⟩ σ K = goD σ dst K (fieldAddrD P u (ev Sp σ.t x) k) := by
  rw [of_n rfl]; rfl
theorem s_field {u : TypeId} {x : Operand} {k : Nat} {g : Option (Nat × Bool)} : stepK P Sp ⟨dst, .field u x k, ty, pos, af, g⟩ σ K = goD σ dst K (fieldD P u (ev Sp σ.t x) k) := by
  rw [of_n rfl]; rfl
theorem s_indexAddr {u : TypeId} {x i : Operand} {g : Option (Nat × Bool)} : stepK P Sp ⟨dst, .indexAddr u x i, ty, pos, af, g⟩ σ K = goD σ dst K (indexAddrD P u (ev Sp σ.t x) (ev Sp σ.t i)) := by
  rw [of_n rfl]; rfl
theorem s_index {u : TypeId} {x i : Operand} {g : Option (Nat × Bool)} : stepK P Sp ⟨dst, .index u x i, ty, pos, af, g⟩ σ K = goD σ dst K (indexD P u (ev Sp σ.t x) (ev Sp σ.t i)) := by
  rw [of_n rfl]; rfl
theorem s_slice {u : TypeId} {x : Operand} {lo hi : Option Operand} {g : Option (Nat × Bool)} : stepK P Sp ⟨dst, .slice u x lo hi none, ty, pos, af, g⟩ σ K = goD σ dst K (sliceD P u (ev Sp σ.t x) (lo.map (ev Sp σ.t)) (hi.map (ev Sp σ.t))) := by
  rw [of_n rfl]; rfl
def extD : D → Nat → Option D
  | .tup vs, i => vs[i]?
  | _, _ => none
theorem s_extract {x : Operand} {i : Nat} {g : Option (Nat × Bool)} : stepK P Sp ⟨dst, .extract x i, ty, pos, af, g⟩ σ K = goD σ dst K (extD (ev Sp σ.t x) i) := by
  rw [of_n rfl]; simp only [semN]; congr 1; cases ev Sp σ.t x <;> rfl
theorem s_func {f : Nat} {cap : List Operand} {g : Option (Nat × Bool)} : stepK P Sp ⟨dst, .makeFunc (.func f) #[] cap.toArray, ty, pos, af, g⟩ σ K = K (σ.put dst (.fn f (cap.map (ev Sp σ.t)))) := by
  rw [of_n rfl]; rfl
theorem s_len {x : Operand} {u : TypeId} {g : Option (Nat × Bool)} : stepK P Sp ⟨dst, .call ⟨.builtin .len, #[x], #[u]⟩, ty, pos, af, g⟩ σ K = goD σ dst K (lenD P u (ev Sp σ.t x)) := by
  rw [of_n rfl]; rfl
theorem s_min {x y : Operand} {at' : Array TypeId} {g : Option (Nat × Bool)} : stepK P Sp ⟨dst, .call ⟨.builtin .min, #[x, y], at'⟩, ty, pos, af, g⟩ σ K = goD σ dst K (minD (ev Sp σ.t x) (ev Sp σ.t y)) := by
  rw [of_n rfl]; simp only [semN, List.map_cons, List.map_nil, foldD]; cases minD (ev Sp σ.t x) (ev Sp σ.t y) <;> rfl
theorem s_max {x y : Operand} {at' : Array TypeId} {g : Option (Nat × Bool)} : stepK P Sp ⟨dst, .call ⟨.builtin .max, #[x, y], at'⟩, ty, pos, af, g⟩ σ K = goD σ dst K (maxD (ev Sp σ.t x) (ev Sp σ.t y)) := by
  rw [of_n rfl]; simp only [semN, List.map_cons, List.map_nil, foldD]; cases maxD (ev Sp σ.t x) (ev Sp σ.t y) <;> rfl
theorem s_load {u : TypeId} {x : Operand} {g : Option (Nat × Bool)} : stepK P Sp ⟨dst, .load u x, ty, pos, af, g⟩ σ K = goD σ dst K (loadR P σ.m u (ev Sp σ.t x)) := by
  rw [of_r rfl]; rfl
def allocD (m : Mem) : Option D → Option (D × Mem)
  | some z => if z.fit then some (.bp m.nb 0, m.add (.var z.cells)) else none
  | none => none
theorem s_alloc {u : TypeId} {g : Option (Nat × Bool)} : stepK P Sp ⟨dst, .alloc u, ty, pos, af, g⟩ σ K = goM σ.t dst K (allocD σ.m (tzero P u)) := by
  rw [of_w rfl]; rfl
theorem s_box {u : TypeId} {x : Operand} {g : Option (Nat × Bool)} : stepK P Sp ⟨dst, .box u x, ty, pos, af, g⟩ σ K = goM σ.t dst K (allocD σ.m (some (ev Sp σ.t x))) := by
  rw [of_w rfl]; rfl
def storeD (P : Program) (m : Mem) (u : TypeId) (x y : D) : Option (D × Mem) :=
  match tsz P u with
    | some sz => if y.fit = true ∧ y.cells.length = sz then match x with
        | .bp b off => match m.bx b with
          | .var cs => if off + sz ≤ cs.length then some (.dead, m.set b (.var (setCells cs off y.cells))) else none
          | _ => none
        | .ap b g s i off => match m.bx b with
          | .arr g' s' rows => if g = g' ∧ s = s' ∧ y.pure = true then match rows[i]? with
              | some row => if off + sz ≤ row.length then some (.dead, m.set b (.arr g' s' (rows.set i (setCells row off y.cells)))) else none
              | none => none
            else none
          | _ => none
        | _ => none
      else none
    | none => none
theorem s_store {u : TypeId} {x y : Operand} {g : Option (Nat × Bool)} : stepK P Sp ⟨dst, .store u x y, ty, pos, af, g⟩ σ K = goM σ.t dst K (storeD P σ.m u (ev Sp σ.t x) (ev Sp σ.t y)) := by
  rw [of_w rfl]; rfl

theorem put_some {k : Nat} {d : D} : S.put ⟨t, m⟩ (some k) d = ⟨upd t k d, m⟩ := nrfl rfl
theorem put_none {d : D} : S.put σ none d = σ := nrfl rfl
theorem ev_tmp {i : Nat} : ev Sp t (.tmp i) = t i := nrfl rfl
theorem ev_const {v : Value} : ev Sp t (.const v) = ofV v := nrfl rfl
theorem ev_func {f : Nat} : ev Sp t (.func f) = .fn f [] := nrfl rfl
theorem upd_at {α : Type} {f : Nat → α} {i j : Nat} {x : α} : upd f i x j = if (j == i) = true then x else f j := by simp [upd]
theorem get0 {d : D} {r : List D} : t0 (d :: r) 0 = d := nrfl rfl
theorem get1 {d : D} {r : List D} {i : Nat} : t0 (d :: r) (i + 1) = t0 r i := by simp [t0]
theorem getn {i : Nat} : t0 [] i = .dead := nrfl rfl
end
end Go.Abs

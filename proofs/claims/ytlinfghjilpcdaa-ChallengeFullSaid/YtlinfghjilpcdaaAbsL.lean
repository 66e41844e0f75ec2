/- Literals of slices and append. No condition. -/
import Derived.Test.YtlinfghjilpcdaaAbsK
namespace Go.Abs
open Go

section
variable {P : Program} {O I : Nat → Prop} {w : World} {loc : Nat → Nat → Loc} {m : Mem}

theorem rangeMod (z : List Value) : ∀ n : Nat, (List.range (n * z.length)).map (fun i => z.toArray[i % z.length]!) = (List.replicate n z).flatten
  | 0 => by simp
  | n + 1 => by
    have e : (n + 1) * z.length = n * z.length + z.length := by rw [Nat.add_mul]; omega
    rw [e, List.range_add, List.map_append, rangeMod z n, List.replicate_succ', List.flatten_append]
    congr 1
    simp only [List.map_map, List.flatten_singleton]
    apply List.ext_getElem
    · simp
    · intro i h1 h2
      simp only [List.length_map, List.length_range] at h1
      simp only [List.getElem_map, List.getElem_range, Function.comp]
      have : (n * z.length + i) % z.length = i := by rw [Nat.mul_comm, Nat.mul_add_mod, Nat.mod_eq_of_lt h1]
      rw [this]
      simp [h1]

theorem zeroCells_eq (z : List Value) (n : Nat) : Builtin.zeroCells z.toArray n = ((List.replicate n z).flatten).toArray := by
  unfold Builtin.zeroCells
  apply Array.ext'
  have := rangeMod z n
  simpa [Array.toList_range] using this

theorem setCells_flatten {s : Nat} : ∀ (rows : List (List D)) (i : Nat) (vs : List D), (∀ row ∈ rows, row.length = s) → vs.length = s → i < rows.length →
    setCells rows.flatten (i * s) vs = (rows.set i vs).flatten
  | [], i, vs, _, _, h => by simp at h
  | row :: r, 0, vs, hs, hv, _ => by
    have hrow : row.length = s := hs row (by simp)
    have gen : ∀ (a b v : List D), v.length = a.length → setCells (a ++ b) 0 v = v ++ b := by
      intro a
      induction a with
      | nil => intro b v hv; have : v = [] := by simpa using hv
               subst this; cases b <;> simp [setCells]
      | cons x a ih =>
        intro b v hv
        cases v with
        | nil => simp at hv
        | cons y v => simp only [List.cons_append, setCells]; rw [ih b v (by simpa using hv)]
    simp only [List.flatten_cons, Nat.zero_mul, List.set_cons_zero]
    exact gen row _ vs (by omega)
  | row :: r, i + 1, vs, hs, hv, h => by
    have hrow : row.length = s := hs row (by simp)
    have gen : ∀ (a b v : List D) (k : Nat), setCells (a ++ b) (a.length + k) v = a ++ setCells b k v := by
      intro a
      induction a with
      | nil => intro b v k; simp
      | cons x a ih =>
        intro b v k
        cases v with
        | nil => simp [setCells]
        | cons y v =>
          have : (x :: a).length + k = (a.length + k) + 1 := by simp; omega
          rw [this]
          simp only [List.cons_append, setCells]
          rw [ih]
    have e : (i + 1) * s = row.length + i * s := by rw [Nat.add_mul, hrow]; omega
    simp only [List.flatten_cons, List.set_cons_succ]
    rw [e, gen, setCells_flatten r i vs (fun x hx => hs x (by simp [hx])) hv (by simpa using h)]

theorem flatten_length {s : Nat} : ∀ (rows : List (List D)), (∀ row ∈ rows, row.length = s) → rows.flatten.length = rows.length * s
  | [], _ => by simp
  | row :: r, h => by
    simp only [List.flatten_cons, List.length_append, List.length_cons]
    rw [flatten_length r (fun x hx => h x (by simp [hx])), h row (by simp), Nat.add_mul]; omega

theorem rowParts_fill {s : Nat} {e : Operand → D} : ∀ (ps : List (Nat × Operand)) (rows rows' : List (List D)), (∀ row ∈ rows, row.length = s) →
    rowParts P s rows (ps.map fun p => (p.1, e p.2)) = some rows' →
    fillD (fun i => some (i * s, s)) rows.flatten (ps.map fun p => (p.1, e p.2)) = some rows'.flatten ∧ (∀ row ∈ rows', row.length = s) ∧ rows'.length = rows.length ∧ ((∀ row ∈ rows, pureL row = true) → ∀ row ∈ rows', pureL row = true)
  | [], rows, rows', hs, h => by
    simp only [List.map_nil, rowParts, Option.some.injEq] at h; subst h
    exact ⟨rfl, hs, rfl, fun h => h⟩
  | (i, x) :: r, rows, rows', hs, h => by
    simp only [List.map_cons, rowParts] at h
    split at h
    case isFalse => cases h
    rename_i hc
    obtain ⟨h1, h2, h3, h4⟩ := hc
    have hs' : ∀ row ∈ rows.set i (e x).cells, row.length = s := fun row hr => by
      rcases List.mem_or_eq_of_mem_set hr with hr | rfl
      · exact hs row hr
      · exact h2
    obtain ⟨q1, q2, q3, q4⟩ := rowParts_fill r _ rows' hs' h
    refine ⟨?_, q2, by simpa using q3, fun hp => q4 fun row hr => ?_⟩
    · simp only [List.map_cons, fillD]
      rw [setCells_flatten rows i _ hs h2 h4, if_pos]
      · exact q1
      · refine ⟨h1, h2, ?_⟩
        rw [flatten_length rows hs]
        have : (i + 1) * s ≤ rows.length * s := Nat.mul_le_mul_right s h4
        rw [Nat.add_mul] at this; omega
    · rcases List.mem_or_eq_of_mem_set hr with hr | rfl
      · exact hp row hr
      · exact pure_cells h3

theorem pureL_flatten : ∀ (rows : List (List D)), (∀ row ∈ rows, pureL row = true) → pureL rows.flatten = true
  | [], _ => rfl
  | row :: r, h => by
    have app : ∀ a b : List D, pureL a = true → pureL b = true → pureL (a ++ b) = true := by
      intro a
      induction a with
      | nil => intro b _ hb; exact hb
      | cons x a ih => intro b ha hb; simp only [List.cons_append, pureL, Bool.and_eq_true] at ha ⊢; exact ⟨ha.1, ih b ha.2 hb⟩
    rw [List.flatten_cons]
    exact app _ _ (h row (by simp)) (pureL_flatten r fun x hx => h x (by simp [hx]))

theorem zrow_some {e : TypeId} {s : Nat} {z : List D} (h : zrow P e s = some z) (w : World) : ∃ v, (zeroValue e).run P w = .ok v w ∧ z = (ofV v).cells ∧ z.length = s ∧ pureL z = true ∧ (ofV v).fit = true ∧ v.cells.size = s := by
  unfold zrow at h
  split at h
  case h_2 => cases h
  rename_i d hd
  obtain ⟨v, hv, rfl⟩ := run_zero' hd w
  split at h
  case isFalse => cases h
  rename_i hc
  simp only [Option.some.injEq] at h; subst h
  have := VL_length (V_cells (I := fun _ => True) (w := w) (loc := free) (ofV_V v) hc.1).1
  exact ⟨v, hv, rfl, hc.2.1, pure_cells hc.2.2, hc.1, by rw [← hc.2.1, ← this]; simp⟩

/-- a new block that holds the rows. -/
theorem arr_new (hm : MRel O I loc m w) {s n cap : Nat} {rows : List (List D)} {vs : List Value} (el : TypeId) (hs : ∀ row ∈ rows, row.length = s) (_hn : rows.length = n) (hv : VL I w rows.flatten free vs) (h1 : ∀ x ∈ vs, x.oneCell' = true) (rest : List Value) (hcap : cap * s = (vs ++ rest).length) (hle : n ≤ cap) :
    Res O I loc w (.ok (.value (.slice (some ⟨w.heap.size, 0, none⟩) n cap)) (w.alloc (.cells (vs ++ rest).toArray el))) (.bs m.nb 0 s 0 n) (m.add (.arr 0 s rows)) := by
  have hvl := VL_length hv
  have he := Ext_alloc hm.imm (.cells (vs ++ rest).toArray el)
  refine ⟨_, _, locNew loc m.nb (.blk w.heap.size), .inl rfl, hm.alloc _ _ ?_, ?_, he, locNew_ext hm _, Fr_alloc _ _⟩
  · simp only [RelB]
    refine ⟨⟨fun g hg => by omega, fun g hg => by simp [locNew]; omega⟩, .inr ⟨w.heap.size, _, el, (0, 0), by simp [locNew], heap_new _ _, fun o _ => by simp, ?_, ?_⟩⟩
    · rw [flatten_length rows hs] at hvl
      simp; omega
    · refine VR_of_list hs (VL_mono he _ free free vs (.refl _) hv) h1 fun j x hj => ?_
      simp only [World.cell?, heap_new, Nat.zero_add]
      have hj' : j < vs.length := by
        rcases Nat.lt_or_ge j vs.length with h | h
        · exact h
        · rw [List.getElem?_eq_none h] at hj; cases hj
      simp [List.getElem?_append_left hj', hj]
  · simp only [V, locNew, if_true]
    exact ⟨0, cap, rfl, hle, .inr (by simp), by rw [rowSize, heap_new]; simpa using Nat.le_of_eq hcap⟩

theorem run_buildSlice (hm : MRel O I loc m w) {e : Operand → D} {ρ : Operand → Value} (he : ∀ x, V I w (e x) loc (ρ x)) {t el : TypeId} {n sz : Nat} {parts : Array (Nat × Operand)} {z : List D} {rows : List (List D)}
    (ht : telem P t = some el) (hsz : tsz P el = some sz) (hn : n * sz ≤ 16777216) (hz : zrow P el sz = some z) (hr : rowParts P sz (List.replicate n z) (parts.toList.map fun p => (p.1, e p.2)) = some rows) :
    ∃ v w', (Instr.buildSlice t n (parts.map fun (i, x) => (i, ρ x))).run P w = .ok v w' ∧ Res O I loc w (.ok (.value v) w') (.bs m.nb 0 sz 0 n) (m.add (.arr 0 sz rows)) := by
  have hp : (parts.map fun (i, x) => (i, ρ x)).toList = parts.toList.map fun p => (p.1, ρ p.2) := by simp
  obtain ⟨v, hv, rfl, hzl, hzp, hzf, hvz⟩ := zrow_some hz w
  obtain ⟨q1, q2, q3, q4⟩ := rowParts_fill parts.toList (List.replicate n (ofV v).cells) rows (fun row hr => by rw [List.eq_of_mem_replicate hr]; exact hzl) hr
  obtain ⟨hc1, hc2⟩ := V_cells (I := I) (w := w) (loc := loc) (ofV_V v) hzf
  have hflat : ∀ n, VL I w (List.replicate n (ofV v).cells).flatten loc (List.replicate n v.cells.toList).flatten := by
    intro n
    induction n with
    | zero => simp [VL]
    | succ n ih => simp only [List.replicate_succ, List.flatten_cons]; exact VL_append hc1 ih
  have hone : ∀ x ∈ (List.replicate n v.cells.toList).flatten, x.oneCell' = true := by
    intro x hx
    rw [List.mem_flatten] at hx
    obtain ⟨l, hl, hx⟩ := hx
    rw [List.eq_of_mem_replicate hl] at hx
    exact hc2 x hx
  obtain ⟨vs, hvs, ho, hl⟩ := run_fillD he parts.toList _ _ _ (hflat n) hone q1
  have hlen : rows.length = n := by simpa using q3
  have hpure := pureL_flatten rows (q4 fun row hr => by rw [List.eq_of_mem_replicate hr]; exact hzp)
  have hres := arr_new hm (n := n) (cap := n) el q2 hlen (VL_pure hpure hl) ho [] (by rw [List.append_nil, VL_length hl, flatten_length rows q2, hlen]) (Nat.le_refl _)
  refine ⟨_, _, ?_, hres⟩
  have hcells : (Array.range (n * sz)).map ((if n * sz = 0 then (#[] : Array Value) else v.cells)[· % (if n * sz = 0 then (#[] : Array Value) else v.cells).size]!) = ((List.replicate n v.cells.toList).flatten).toArray := by
    by_cases h0 : n * sz = 0
    · rw [if_pos h0, h0]
      have : ((List.replicate n v.cells.toList).flatten).length = 0 := by
        rw [List.length_flatten]; simp [List.map_replicate, List.sum_replicate_nat, hvz, h0]
      have e : (List.replicate n v.cells.toList).flatten = [] := List.eq_nil_of_length_eq_zero this
      rw [e]; simp
    · rw [if_neg h0]
      apply Array.ext'
      have := rangeMod v.cells.toList n
      simp only [Array.length_toList, hvz, Array.toArray_toList] at this
      simpa [Array.toList_range, hvz] using this
  have hnot : ¬ n * sz > 2 ^ 24 := by simp; omega
  by_cases h0 : n * sz = 0
  · simp only [h0, if_true] at hcells
    simp only [Instr.buildSlice, Sem.run_bind, run_underlying (und_elem ht), Result.andThen_ok, run_sizeOf' hsz, h0, if_true, hp]
    simp only [gt_iff_lt, Nat.not_lt_zero, if_false, hcells, hvs, Sem.run_pure, Result.andThen_ok, Sem.run_bind, newRow, run_newObj, World.alloc_eq, List.append_nil]
  · simp only [h0, if_false] at hcells
    simp only [Instr.buildSlice, Sem.run_bind, run_underlying (und_elem ht), Result.andThen_ok, run_sizeOf' hsz, h0, if_false, Sem.run_pure, hp, hnot, hv, hcells, hvs, newRow, run_newObj, World.alloc_eq, List.append_nil]
end
end Go.Abs

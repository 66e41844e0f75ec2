/- append. No condition. -/
import Derived.Test.YtlinfghjilpcdaaAbsL
namespace Go.Abs
open Go
set_option linter.unusedSimpArgs false

section
variable {P : Program} {O I : Nat → Prop} {w : World} {loc : Nat → Nat → Loc} {m : Mem}

theorem Ext.of_heap {w' : World} (h : w'.heap = w.heap) : Ext I I w w' := ⟨fun _ h => h, fun b _ => by rw [h], fun b => by simp [rowSize, h]⟩
theorem MRel.of_heap {w' : World} (h : w'.heap = w.heap) (hm : MRel O I loc m w) : MRel O I loc m w' :=
  ⟨fun b hb => RelB_mono (Ext.of_heap h) (.refl _) (fun _ => rfl) (fun _ g k _ => by rw [h]) (hm.box b hb), hm.free, fun b g k hb ho hk => by rw [h]; exact hm.own b g k hb ho hk, hm.inj, fun k hk => by rw [h]; exact hm.imm k hk, fun k hk => hm.up k (by rw [← h]; exact hk)⟩
theorem Res.from {w1 : World} {r : Result Next} {d : D} {m' : Mem} (h : w1.heap = w.heap) (ho : w1.os = w.os) (ht : w1.tape = w.tape) (hp : w1.output = w.output) (hr : Res O I loc w1 r d m') : Res O I loc w r d m' := by
  obtain ⟨v, w', loc', h1, h2, h3, h4, h5, h6⟩ := hr
  exact ⟨v, w', loc', h1, h2, h3, (Ext.of_heap h).trans h4, h5, (Fr.mk ho ht hp (by rw [h]; exact Nat.le_refl _) (fun b _ _ => by rw [h])).trans h6⟩

theorem growBy_le (newLen : Nat) : ∀ (r c : Nat), c < newLen → Builtin.growBy newLen r c ≤ 2 * newLen + 192
  | 0, c, h => by simp only [Builtin.growBy]; omega
  | r + 1, c, h => by
    simp only [Builtin.growBy]
    rw [if_neg (by omega)]
    by_cases h' : c + (c + 768) / 4 < newLen
    · exact growBy_le newLen r _ h'
    · cases r with
      | zero => simp only [Builtin.growBy]; omega
      | succ r => simp only [Builtin.growBy]; rw [if_pos (by omega)]; omega

theorem nextcap_le {need cap : Nat} (h : cap < need) : Builtin.nextslicecap need cap ≤ 2 * need + 192 := by
  unfold Builtin.nextslicecap
  split
  · omega
  · split
    · omega
    · exact growBy_le need 4 cap h

/-- what is appended. -/
structure Src (P : Program) (I : Nat → Prop) (w : World) (s : Nat) (rows : List (List D)) (vs : List Value) (x : Value) : Prop where
  len : Builtin.lenOf x = pure rows.length
  first : ∀ w2 : World, w2.heap = w.heap → (Builtin.firstCells s rows.length x).run P w2 = .ok vs.toArray w2
  vl : VL I w rows.flatten free vs
  one : ∀ x ∈ vs, x.oneCell' = true
  row : ∀ row ∈ rows, row.length = s

theorem VR_rows {s : Nat} {rows : List (List D)} {b o : Nat} (h : VR I w s rows b o) : ∀ row ∈ rows, row.length = s := by
  intro row hr
  obtain ⟨i, hi⟩ := List.getElem?_of_mem hr
  exact (VR_get h hi).1

theorem src_block {s n cap k o : Nat} {rows : List (List D)} (hv : VR I w s rows k o) (hn : rows.length = n) : ∃ vs, Src P I w s rows vs (.slice (some ⟨k, o, none⟩) n cap) := by
  obtain ⟨vs, h1, h2, h3, h4⟩ := list_of_VR hv
  refine ⟨vs, by simp [Builtin.lenOf, hn], fun w2 h => ?_, h1, h2, VR_rows hv⟩
  have := run_loadCells_list (P := P) w2 ⟨k, o, none⟩ vs (fun j x hj => by rw [addr_add, cell_same (w := w) (by rw [h])]; exact h4 j x hj)
  simp only [Builtin.firstCells]
  rw [← h3]; exact this

theorem src_nil {s : Nat} {a : Option Addr} {cap : Nat} : Src P I w s [] [] (.slice a 0 cap) := by
  refine ⟨rfl, fun w2 h => ?_, by simp [VL], by simp, by simp⟩
  cases a with
  | none => rfl
  | some a => simp [Builtin.firstCells, loadCells, loadCellsFrom]

theorem cut_some {b g s i n : Nat} {rows : List (List D)} (h : m.cut b g s i n = some rows) : ∃ all, m.rows b g s = some all ∧ i + n ≤ all.length ∧ rows = (all.drop i).take n := by
  unfold Mem.cut at h
  split at h
  · rename_i all ha
    split at h
    · simp only [Option.some.injEq] at h
      exact ⟨all, ha, by assumption, h.symm⟩
    · cases h
  · cases h

theorem src_of (hm : MRel O I loc m w) {s : Nat} {x : D} {u : Value} {rows : List (List D)} (hx : V I w x loc u) (h : rowsOf m s x = some rows) : ∃ vs, Src P I w s rows vs u := by
  unfold rowsOf at h
  split at h
  · simp only [Option.some.injEq] at h; subst h
    simp only [V] at hx; subst hx
    exact ⟨[], src_nil⟩
  · split at h
    · rename_i hs
      subst hs
      simp only [Option.some.injEq] at h; subst h
      simp only [V] at hx
      rcases hx with ⟨rfl, _, _, rfl⟩ | ⟨b, o, cap, rfl, _, _, hv⟩
      · exact ⟨[], src_nil⟩
      · exact src_block hv rfl
    · cases h
  · split at h
    · rename_i hs
      subst hs
      rename_i b g i n
      obtain ⟨all, ha, hle, rfl⟩ := cut_some h
      simp only [V] at hx
      have hlt : b < m.nb := lt_nb (g := g) hm (by intro e; simp [e] at hx)
      rcases rows_at hm hlt ha with ⟨hl, rfl⟩ | ⟨k, hl, hv⟩
      · simp only [hl] at hx
        obtain ⟨_, rfl, rfl⟩ := hx
        simp only [List.drop_nil, List.take_nil]
        exact ⟨[], src_nil⟩
      · simp only [hl] at hx
        obtain ⟨o, cap, rfl, hn, ho, _⟩ := hx
        have hlen : ((all.drop i).take n).length = n := by simp; omega
        rcases ho with ho | ho
        · have : n = 0 := by omega
          subst this
          simp only [List.take_zero]
          exact ⟨[], src_nil⟩
        · subst ho
          have := VR_take n (VR_drop i hv)
          simp only [Nat.zero_add] at this
          exact src_block this hlen
    · cases h
  · cases h

theorem src_str (l : List UInt8) : ∃ vs, Src P I w 1 (bytesD l) vs (.string ⟨l.toArray⟩) := by
  refine ⟨l.map fun b => .int .u8 b.toNat, by simp [Builtin.lenOf, size_mk, bytesD], fun w2 _ => ?_, ?_, by simp [Value.oneCell'], by simp [bytesD]⟩
  · have : (ByteArray.mk l.toArray).extract 0 (bytesD l).length = ⟨l.toArray⟩ := by
      rw [extract_mk]; simp [bytesD]
    simp only [Builtin.firstCells, this, Sem.run_pure]
    congr 1
    apply Array.ext'; simp
  · unfold bytesD
    induction l with
    | nil => simp [VL]
    | cons b r ih => simp only [List.map_cons, List.flatten_cons, List.cons_append, List.nil_append, VL]; exact ⟨_, _, rfl, rfl, ih⟩

/-- the world behind one answer of the tape. -/
def dr (w : World) : World := { w with drawn := w.drawn + 1 }

/-- what a slice that is appended to holds: at most its own rows. -/
theorem run_append_grow {t t' el ty : TypeId} {dsc : TypeDesc} {sz by' : Nat} {z : List D} {u x : Value} {n cap : Nat} {a : Option Addr} {rows rows' : List (List D)} {us vs : List Value}
    (ht : telem P t = some el) (ht' : P.underlying t' = some dsc) (hni : dsc = .string ∨ ∃ e, dsc = .slice e) (hsz : tsz P el = some sz) (hby : tbytes P el = some by') (hz : zrow P el sz = some z)
    (hu : u = .slice a n cap) (hs : Src P I w sz rows us u) (hn : rows.length = n) (hx : Src P I w sz rows' vs x) (hg : cap < n + rows'.length) (hsm : small (n + rows'.length) by' = true) :
    ∃ newCap rest, n + rows'.length ≤ newCap ∧ newCap * sz = (us ++ vs ++ rest).length ∧
      (Builtin.append_ #[t, t'] ty #[u, x]).run P w = .ok (.slice (some ⟨w.heap.size, 0, none⟩) (n + rows'.length) newCap) ((dr w).alloc (.cells (us ++ vs ++ rest).toArray el)) := by
  subst hu
  obtain ⟨v, hv, rfl, hzl, hzp, hzf, hvz⟩ := zrow_some hz w
  unfold small at hsm
  simp only [decide_eq_true_eq] at hsm
  obtain ⟨hs1, hs2⟩ := hsm
  unfold tbytes at hby
  rw [Option.map_eq_some_iff] at hby
  obtain ⟨info, hinfo, rfl⟩ := hby
  have hti : ∀ w, (typeInfo el).run P w = .ok info w := fun w => by simp [typeInfo, hinfo]
  let need := n + rows'.length
  let q : Question := .appendCap need cap el
  let newCap := q.cut (w.tape w.drawn q)
  have hcap : need ≤ newCap := by simp only [newCap, q, Question.cut]; exact Nat.le_add_right _ _
  let rest := ((List.replicate (newCap - need) v.cells.toList).flatten)
  have hrest : rest.length = (newCap - need) * sz := by
    simp only [rest, List.length_flatten, List.map_replicate, List.sum_replicate_nat, Array.length_toList, hvz]
  have hul : us.length = n * sz := by rw [VL_length hs.vl, flatten_length rows hs.row, hn]
  have hvl : vs.length = rows'.length * sz := by rw [VL_length hx.vl, flatten_length rows' hx.row]
  refine ⟨newCap, rest, hcap, ?_, ?_⟩
  · simp only [List.length_append, hul, hvl, hrest]
    rw [← Nat.add_mul, ← Nat.add_mul]
    congr 1
    show newCap = n + rows'.length + (newCap - (n + rows'.length))
    have : n + rows'.length ≤ newCap := hcap
    omega
  · have hnx : Builtin.nextslicecap need cap * info.bytes ≤ 2 ^ 48 := by
      have h1 := nextcap_le hg
      have h2 : Builtin.nextslicecap need cap * info.bytes ≤ (2 * need + 192) * info.bytes := Nat.mul_le_mul_right _ h1
      have h3 : (2 * need + 192) * info.bytes ≤ 281474976710656 := hs2
      omega
    have hbig : ¬ ((need : Nat) : Int) > IntKind.i64.max := by
      have : need ≤ 1099511627776 := hs1
      simp only [IntKind.max, IntKind.signed, IntKind.bits, if_true]
      omega
    have hno : ¬ need ≤ cap := by show ¬ (n + rows'.length ≤ cap); omega
    have hold := hs.first (dr w) rfl
    rw [hn] at hold
    have hnew := hx.first (dr w) rfl
    have hvw : (zeroValue el).run P (dr w) = .ok v (dr w) := by
      have h1 : (zeroValue el).run P w = .ok v w := hv
      simp only [zeroValue, Sem.run_bind, hti, Result.andThen_ok] at h1 ⊢
      split at h1
      · simp only [Sem.run_pure, Result.ok.injEq, and_true] at h1
        subst h1; rfl
      · simp at h1
    have hzc : Builtin.zeroCells v.cells (newCap - need) = rest.toArray := by
      have := zeroCells_eq v.cells.toList (newCap - need)
      simpa using this
    have hm2 : ¬ (Builtin.nextslicecap need cap * info.bytes > 2 ^ 48) := by omega
    have hch : (choose q).run P w = .ok newCap (dr w) := by
      rw [run_choose]; rfl
    unfold Builtin.append_
    rcases hni with rfl | ⟨e0, rfl⟩ <;>
    · simp only [Sem.run_bind, List.getElem?_toArray, List.getElem?_cons_zero, List.getElem?_cons_succ, run_underlying (und_elem ht), Result.andThen_ok, run_sizeOf' hsz, run_underlying ht', Sem.run_pure, hx.len, Bool.false_eq_true, if_false, Bool.not_false, if_true, Sem.run_ite, hti, run_askRoom]
      change (if need ≤ cap then _ else _) = _
      rw [if_neg hno]
      rw [if_neg (fun h => hbig h.1), if_neg hm2]
      change ((choose q).run P w).andThen _ = _
      rw [hch]
      simp only [Result.andThen_ok, hold, hnew, hvw]
      change ((newRow el (us.toArray ++ vs.toArray ++ Builtin.zeroCells v.cells (newCap - need))).run P (dr w)).andThen _ = _
      rw [hzc]
      simp only [newRow, Sem.run_bind, run_newObj, Result.andThen_ok, Sem.run_pure, World.alloc_eq, List.append_toArray]
      rfl

theorem run_append_room {t t' el ty : TypeId} {dsc : TypeDesc} {sz : Nat} {x : Value} {n cap : Nat} {a : Option Addr} {rows' : List (List D)} {vs : List Value} {w' : World}
    (ht : telem P t = some el) (ht' : P.underlying t' = some dsc) (hni : dsc = .string ∨ ∃ e, dsc = .slice e) (hsz : tsz P el = some sz)
    (hx : Src P I w sz rows' vs x) (hg : n + rows'.length ≤ cap) (hst : (match a with | some a => storeCells (a.add (n * sz)) vs | none => pure () : Sem Unit).run P w = .ok () w') :
    (Builtin.append_ #[t, t'] ty #[.slice a n cap, x]).run P w = .ok (.slice a (n + rows'.length) cap) w' := by
  have hnew := hx.first w rfl
  unfold Builtin.append_
  rcases hni with rfl | ⟨e0, rfl⟩ <;>
  · simp only [Sem.run_bind, List.getElem?_toArray, List.getElem?_cons_zero, List.getElem?_cons_succ, run_underlying (und_elem ht), Result.andThen_ok, run_sizeOf' hsz, run_underlying ht', Sem.run_pure, hx.len, Bool.false_eq_true, if_false, Bool.not_false, if_true, Sem.run_ite]
    rw [if_pos hg]
    cases a with
    | none =>
      simp only [Sem.run_pure, Result.ok.injEq, true_and] at hst
      subst hst
      simp only [hnew, Result.andThen_ok, Sem.run_pure]
    | some a =>
      simp only [hnew, Result.andThen_ok, Sem.run_bind]
      simp only at hst
      rw [hst]
      rfl

/-- where a box lies behind an append: the elder slices are stale. -/
def locGen (loc : Nat → Nat → Loc) (b g : Nat) (l : Loc) : Nat → Nat → Loc := fun b' g' => if b' = b then (if g' = g + 1 then l else if g' < g + 1 then .stale else .free) else loc b' g'

theorem locGen_ext {b g : Nat} (l : Loc) (h : ∀ g', g < g' → loc b g' = .free) : LocExt loc (locGen loc b g l) := fun b' g' => by
  unfold locGen
  by_cases e : b' = b
  · subst e
    simp only [if_true]
    by_cases e2 : g' = g + 1
    · left; exact h g' (by omega)
    · by_cases e3 : g' < g + 1
      · simp [e2, e3]
      · left; exact h g' (by omega)
  · simp [e]

theorem MRel.addNil (hm : MRel O I loc m w) (s : Nat) : MRel O I (locNew loc m.nb .nil) (m.add (.arr 0 s [])) w := by
  have hl := locNew_ext hm .nil
  have hbx : ∀ b, (m.add (.arr 0 s [])).bx b = if b = m.nb then .arr 0 s [] else m.bx b := fun b => rfl
  have hnb : (m.add (.arr 0 s [])).nb = m.nb + 1 := rfl
  have key : ∀ b g k, locNew loc m.nb .nil b g = .blk k → b ≠ m.nb ∧ loc b g = .blk k := fun b g k h => by
    unfold locNew at h
    by_cases e : b = m.nb
    · rw [if_pos e] at h; split at h <;> cases h
    · rw [if_neg e] at h; exact ⟨e, h⟩
  refine ⟨fun b hb => ?_, fun b g hb => ?_, fun b g k hb ho hk => ?_, fun b b' g g' k hb hb' ho ho' hk hk' => ?_, hm.imm, hm.up⟩
  · rw [hbx]
    by_cases e : b = m.nb
    · subst e
      rw [if_pos rfl]
      simp only [RelB]
      exact ⟨⟨fun g hg => by omega, fun g hg => by simp [locNew]; omega⟩, .inl (by simp [locNew])⟩
    · rw [if_neg e]
      exact RelB_mono (.refl _ _) hl (fun g => by simp [locNew, e]) (fun _ _ _ _ => rfl) (hm.box b (by omega))
  · have : b ≠ m.nb := by omega
    simp only [locNew, this, if_false]
    exact hm.free b g (by omega)
  · obtain ⟨e, hk⟩ := key b g k hk
    rw [hbx, if_neg e] at ho
    exact hm.own b g k (by omega) ho hk
  · obtain ⟨e, hk⟩ := key b g k hk
    obtain ⟨e', hk'⟩ := key b' g' k hk'
    rw [hbx, if_neg e] at ho
    rw [hbx, if_neg e'] at ho'
    exact hm.inj b b' g g' k (by omega) (by omega) ho ho' hk hk'

/-- a value of a run as an operation's answer. -/
theorem Res.bind {s : Sem Value} {d : D} {m' : Mem} {v : Value} {w' : World} (h : s.run P w = .ok v w') (hr : Res O I loc w (.ok (.value v) w') d m') : Res O I loc w ((do pure (.value (← s)) : Sem Next).run P w) d m' := by
  have : (do pure (.value (← s)) : Sem Next).run P w = .ok (.value v) w' := by simp [h]
  rw [this]; exact hr

theorem arr_fresh (hm : MRel O I loc m w) {b g s n cap : Nat} {old rows : List (List D)} {vs : List Value} (el : TypeId) (hb : b < m.nb) (hbx : m.bx b = .arr g s old) (hs : ∀ row ∈ rows, row.length = s) (_hn : rows.length = n) (hv : VL I w rows.flatten free vs) (h1 : ∀ x ∈ vs, x.oneCell' = true) (rest : List Value) (hcap : cap * s = (vs ++ rest).length) (hle : n ≤ cap) :
    Res O I loc w (.ok (.value (.slice (some ⟨w.heap.size, 0, none⟩) n cap)) (w.alloc (.cells (vs ++ rest).toArray el))) (.bs b (g + 1) s 0 n) (m.set b (.arr (g + 1) s rows)) := by
  have hvl := VL_length hv
  have he := Ext_alloc hm.imm (.cells (vs ++ rest).toArray el)
  have hbr := hm.box b hb
  rw [hbx] at hbr; simp only [RelB] at hbr
  have hfree := hbr.1.2
  have hown : (m.bx b).owned = true := by rw [hbx]; rfl
  have hle' := locGen_ext (loc := loc) (b := b) (g := g) (.blk w.heap.size) hfree
  refine ⟨_, _, locGen loc b g (.blk w.heap.size), .inl rfl, hm.change hb hown (fun b' hb' g' => by simp [locGen, hb']) he hle' ?_ ?_ (fun k hk _ => RowKit.Below.heap_alloc w _ k hk) (by simp), ?_, he, hle', Fr_alloc _ _⟩
  · simp only [RelB]
    refine ⟨⟨fun g' hg => by unfold locGen; rw [if_pos rfl, if_neg (by omega), if_pos hg], fun g' hg => by unfold locGen; rw [if_pos rfl, if_neg (by omega), if_neg (by omega)]⟩, .inr ⟨w.heap.size, _, el, (0, 0), by simp [locGen], heap_new _ _, fun o _ => by simp, ?_, ?_⟩⟩
    · rw [flatten_length rows hs] at hvl
      simp; omega
    · refine VR_of_list hs (VL_mono he _ free free vs (.refl _) hv) h1 fun j x hj => ?_
      simp only [World.cell?, heap_new, Nat.zero_add]
      have hj' : j < vs.length := by
        rcases Nat.lt_or_ge j vs.length with h | h
        · exact h
        · rw [List.getElem?_eq_none h] at hj; cases hj
      simp [List.getElem?_append_left hj', hj]
  · intro g' k hk
    simp only [locGen, if_true] at hk
    split at hk
    · cases hk
      exact ⟨hm.up _ (Nat.le_refl _), fun hI => absurd (hm.imm _ hI) (Nat.lt_irrefl _), by simp, fun b' hb' h1 h2 g2 hg2 => absurd (hm.own b' g2 _ h1 h2 hg2).2.2 (Nat.lt_irrefl _)⟩
    · split at hk <;> cases hk
  · simp only [V, locGen, if_true]
    exact ⟨0, cap, rfl, hle, .inr (by simp), by rw [rowSize, heap_new]; simpa using Nat.le_of_eq hcap⟩

theorem app_flatten {a b : List (List D)} {us vs : List Value} (h : VL I w a.flatten free us) (h' : VL I w b.flatten free vs) : VL I w (a ++ b).flatten free (us ++ vs) := by
  rw [List.flatten_append]; exact VL_append h h'

set_option maxHeartbeats 2000000 in
theorem run_appendW (hm : MRel O I loc m w) {t t' ty : TypeId} {dsc : TypeDesc} {s d : D} {u x : Value} {more : Nat → Option (List (List D))} {m' : Mem} (ht' : P.underlying t' = some dsc) (hni : dsc = .string ∨ ∃ e, dsc = .slice e)
    (hs : V I w s loc u) (hmore : ∀ sz rows', more sz = some rows' → ∃ vs, Src P I w sz rows' vs x) (h : appendW P m t s more = some (d, m')) :
    Res O I loc w ((do pure (.value (← Builtin.append_ #[t, t'] ty #[u, x])) : Sem Next).run P w) d m' := by
  unfold appendW at h
  split at h
  · cases h
  rename_i el ht
  split at h
  case h_2 => cases h
  rename_i sz by' hsz hby
  split at h
  case h_2 => cases h
  rename_i z rows' hz hmr
  obtain ⟨vs, hx⟩ := hmore sz rows' hmr
  have hvl : vs.length = rows'.length * sz := by rw [VL_length hx.vl, flatten_length rows' hx.row]
  split at h
  · -- nil
    split at h
    case isFalse => cases h
    rename_i hsm
    simp only [Option.some.injEq, Prod.mk.injEq] at h
    obtain ⟨rfl, rfl⟩ := h
    simp only [V] at hs; subst hs
    by_cases h0 : rows'.length = 0
    · have e : rows' = [] := by simpa using h0
      subst e
      have hv0 : vs = [] := by simpa using hvl
      subst hv0
      refine Res.bind (run_append_room ht ht' hni hsz hx (by simp) (w' := w) rfl) ?_
      refine ⟨_, w, locNew loc m.nb .nil, .inl rfl, hm.addNil sz, ?_, .refl _ _, locNew_ext hm _, .refl _ _⟩
      simp [V, locNew]
    · obtain ⟨newCap, rest, hc1, hc2, hrun⟩ := run_append_grow (P := P) (I := I) (w := w) (ty := ty) (us := []) (rows := []) (n := 0) (cap := 0) (a := none) ht ht' hni hsz hby hz rfl src_nil rfl hx (by omega) (by simpa using hsm)
      refine Res.bind hrun ?_
      refine Res.from (w1 := dr w) rfl rfl rfl rfl ?_
      have := arr_new (MRel.of_heap (w := w) (w' := dr w) rfl hm) (n := rows'.length) (cap := newCap) el hx.row rfl (VL_mono (Ext.of_heap (w := w) (w' := dr w) rfl) _ free free vs (.refl _) hx.vl) hx.one rest (by simpa using hc2) (by omega)
      rw [show (dr w).heap.size = w.heap.size from rfl] at this
      simpa using this
  · -- a box
    rename_i b g s' n
    split at h
    case h_2 => cases h
    rename_i g' sq rows hbx
    split at h
    case isFalse => cases h
    rename_i hc
    obtain ⟨rfl, rfl, rfl, hnr, hsm⟩ := hc
    simp only [Option.some.injEq, Prod.mk.injEq] at h
    obtain ⟨rfl, rfl⟩ := h
    have hs0 := hs
    simp only [V] at hs
    have hlt : b < m.nb := lt_nb (g := g) hm (by intro e; simp [e] at hs)
    have hbr := hm.box b hlt
    rw [hbx] at hbr; simp only [RelB] at hbr
    obtain ⟨hgen, hbr⟩ := hbr
    have hown : (m.bx b).owned = true := by rw [hbx]; rfl
    have hlenT : (rows.take n).length = n := by simp; omega
    rcases hbr with ⟨hl, rfl⟩ | ⟨k, c, el', fz, hl, hw, hu, hrc, hv⟩
    · simp only [hl] at hs
      obtain ⟨_, rfl, rfl⟩ := hs
      simp only [List.take_nil, List.nil_append, Nat.zero_add]
      by_cases h0 : rows'.length = 0
      · have e : rows' = [] := by simpa using h0
        subst e
        have hv0 : vs = [] := by simpa using hvl
        subst hv0
        refine Res.bind (run_append_room ht ht' hni hsz hx (by simp) (w' := w) rfl) ?_
        have hle' := locGen_ext (loc := loc) (b := b) (g := g) .nil hgen.2
        refine ⟨_, w, locGen loc b g .nil, .inl rfl, hm.change hlt hown (fun b' hb' g' => by simp [locGen, hb']) (.refl _ _) hle' ?_ ?_ (fun _ _ _ => rfl) (Nat.le_refl _), ?_, .refl _ _, hle', .refl _ _⟩
        · simp only [RelB]
          refine ⟨⟨fun g' hg => by unfold locGen; rw [if_pos rfl, if_neg (by omega), if_pos hg], fun g' hg => by unfold locGen; rw [if_pos rfl, if_neg (by omega), if_neg (by omega)]⟩, .inl (by simp [locGen])⟩
        · intro g' k hk
          simp only [locGen, if_true] at hk
          split at hk
          · cases hk
          · split at hk <;> cases hk
        · simp [V, locGen]
      · obtain ⟨newCap, rest, hc1, hc2, hrun⟩ := run_append_grow (P := P) (I := I) (w := w) (ty := ty) (us := []) (rows := []) (n := 0) (cap := 0) (a := none) ht ht' hni hsz hby hz rfl src_nil rfl hx (by omega) (by simpa using hsm)
        refine Res.bind hrun ?_
        refine Res.from (w1 := dr w) rfl rfl rfl rfl ?_
        have := arr_fresh (MRel.of_heap (w := w) (w' := dr w) rfl hm) (n := rows'.length) (cap := newCap) el hlt hbx hx.row rfl (VL_mono (Ext.of_heap (w := w) (w' := dr w) rfl) _ free free vs (.refl _) hx.vl) hx.one rest (by simpa using hc2) (by omega)
        rw [show (dr w).heap.size = w.heap.size from rfl] at this
        simpa using this
    · simp only [hl] at hs
      obtain ⟨o, cap, rfl, hn, ho, hrs⟩ := hs
      -- what it holds
      have hsrc : ∃ us, Src P I w sq (rows.take n) us (.slice (some ⟨k, o, none⟩) n cap) := by
        rcases ho with ho | ho
        · have : n = 0 := by omega
          subst this
          simp only [List.take_zero]
          exact ⟨[], src_nil⟩
        · have : o = 0 := by simpa using ho
          subst this
          exact src_block (VR_take n hv) hlenT
      obtain ⟨us, hus⟩ := hsrc
      have hul : us.length = n * sq := by rw [VL_length hus.vl, flatten_length _ hus.row, hlenT]
      by_cases hroom : n + rows'.length ≤ cap
      · -- in place
        by_cases hc0 : cap = 0
        · subst hc0
          have hn0 : n = 0 := by omega
          have hr0 : rows'.length = 0 := by omega
          subst hn0
          have e : rows' = [] := by simpa using hr0
          subst e
          have hv0 : vs = [] := by simpa using hvl
          subst hv0
          refine Res.bind (run_append_room ht ht' hni hsz hx hroom (w' := w) rfl) ?_
          have hle' := locGen_ext (loc := loc) (b := b) (g := g) (.blk k) hgen.2
          refine ⟨_, w, locGen loc b g (.blk k), .inl rfl, hm.change hlt hown (fun b' hb' g' => by simp [locGen, hb']) (.refl _ _) hle' ?_ ?_ (fun _ _ _ => rfl) (Nat.le_refl _), ?_, .refl _ _, hle', .refl _ _⟩
          · simp only [RelB]
            refine ⟨⟨fun g' hg => by unfold locGen; rw [if_pos rfl, if_neg (by omega), if_pos hg], fun g' hg => by unfold locGen; rw [if_pos rfl, if_neg (by omega), if_neg (by omega)]⟩, .inr ⟨k, c, el', fz, by simp [locGen], hw, hu, by simp, by simp [VR]⟩⟩
          · intro g' k' hk'
            simp only [locGen, if_true] at hk'
            split at hk'
            · cases hk'
              have := hm.own b g k hlt hown hl
              exact ⟨this.1, this.2.1, this.2.2, fun b' hb' h1 h2 g2 hg2 => hb' (hm.inj b' b g2 g k h1 hlt h2 hown hg2 hl)⟩
            · split at hk' <;> cases hk'
          · simp only [V, locGen, if_true]
            exact ⟨o, 0, by simp, by simp, .inl rfl, by simp⟩
        · have ho0 : o = 0 := by
            rcases ho with ho | ho
            · exact absurd ho hc0
            · simpa using ho
          subst ho0
          have hsize : cap * sq ≤ c.size := by
            have : rowSize w k = c.size := by simp [rowSize, hw]
            rw [this] at hrs; simpa using hrs
          have hfit : n * sq + vs.length ≤ c.size := by
            rw [hvl, ← Nat.add_mul]
            exact Nat.le_trans (Nat.mul_le_mul_right sq hroom) hsize
          have hrun := run_storeCells_any (P := P) k (n * sq) el' fz vs 0 c w hw hu (by simpa using hfit) hx.one
          simp only [Nat.add_zero] at hrun
          let l' := c.toList.take (n * sq) ++ vs ++ c.toList.drop (n * sq + vs.length)
          have hl' : l'.length = c.size := by simp [l']; omega
          have hIk := hm.own b g k hlt hown hl
          have he := Ext_setRow hIk.2.1 hw (c' := l'.toArray) (by simp [hl'])
          refine Res.bind (run_append_room ht ht' hni hsz hx hroom (w' := w.setRow k l'.toArray) (by simp only [addr_add, Nat.zero_add]; exact hrun)) ?_
          have hle' := locGen_ext (loc := loc) (b := b) (g := g) (.blk k) hgen.2
          have hold : ∀ j, w.cell? ⟨k, j, none⟩ = c[j]? := fun j => by simp [World.cell?, hw]
          have hcell : ∀ j, (w.setRow k l'.toArray).cell? ⟨k, j, none⟩ = if j < n * sq then c[j]? else if j < n * sq + vs.length then vs[j - n * sq]? else c[j]? := by
            intro j
            rw [cell_setRow_same w k j c l'.toArray el' fz hw]
            have := seg_get c.toList vs (n * sq) j (by simpa using hfit)
            simpa [l'] using this
          have hlenA : (rows.take n ++ rows').length = n + rows'.length := by rw [List.length_append, hlenT]
          refine ⟨_, _, locGen loc b g (.blk k), .inl rfl, hm.change hlt hown (fun b' hb' g' => by simp [locGen, hb']) he hle' ?_ ?_ (fun k' _ hk' => setRow_other w k k' _ (fun e => hk' g (e ▸ hl))) (by simp), ?_, he, hle', Fr_setRow hIk.1 _⟩
          · simp only [RelB]
            refine ⟨⟨fun g' hg => by unfold locGen; rw [if_pos rfl, if_neg (by omega), if_pos hg], fun g' hg => by unfold locGen; rw [if_pos rfl, if_neg (by omega), if_neg (by omega)]⟩, .inr ⟨k, l'.toArray, el', fz, by simp [locGen], setRow_heap w k c _ el' fz hw, by simpa [hl'] using hu, ?_, ?_⟩⟩
            · rw [hlenA, Nat.add_mul, ← hvl]; simpa [hl'] using hfit
            · refine VR_of_list (vs := us ++ vs) ?_ (VL_mono he _ free free _ (.refl _) (app_flatten hus.vl hx.vl)) ?_ ?_
              · intro row hr
                simp only [List.mem_append] at hr
                rcases hr with hr | hr
                · exact hus.row row hr
                · exact hx.row row hr
              · intro y hy
                simp only [List.mem_append] at hy
                rcases hy with hy | hy
                · exact hus.one y hy
                · exact hx.one y hy
              · intro j y hj
                rw [Nat.zero_add, hcell]
                rw [List.getElem?_append, hul] at hj
                split at hj
                · rename_i hlt'
                  rw [if_pos hlt']
                  rw [← hold]
                  obtain ⟨us2, q1, q2, q3, q4⟩ := list_of_VR (VR_take n hv)
                  have h1 := hus.first w rfl
                  have h2 := run_loadCells_list (P := P) w ⟨k, 0, none⟩ us2 (fun j x hj => by rw [addr_add]; exact q4 j x hj)
                  simp only [Builtin.firstCells, hlenT] at h1
                  rw [q3, hlenT] at h2
                  rw [h1] at h2
                  have e : us = us2 := by
                    have := congrArg (fun r => match r with | Result.ok a _ => a.toList | _ => []) h2
                    simpa using this
                  rw [e] at hj
                  have := q4 j y hj
                  simpa using this
                · rename_i hge
                  have hj' : j - n * sq < vs.length := by
                    rcases Nat.lt_or_ge (j - n * sq) vs.length with h | h
                    · exact h
                    · rw [List.getElem?_eq_none h] at hj; cases hj
                  rw [if_neg hge, if_pos (by omega)]
                  exact hj
          · intro g' k' hk'
            simp only [locGen, if_true] at hk'
            split at hk'
            · cases hk'
              exact ⟨hIk.1, hIk.2.1, by simpa using hIk.2.2, fun b' hb' h1 h2 g2 hg2 => hb' (hm.inj b' b g2 g k h1 hlt h2 hown hg2 hl)⟩
            · split at hk' <;> cases hk'
          · simp only [V, locGen, if_true]
            refine ⟨0, cap, rfl, hroom, .inr (by simp), ?_⟩
            rw [rowSize, setRow_heap w k c _ el' fz hw]
            simpa [hl'] using hsize
      · obtain ⟨newCap, rest, hc1, hc2, hrun⟩ := run_append_grow (P := P) (I := I) (w := w) (ty := ty) ht ht' hni hsz hby hz rfl hus hlenT hx (by omega) hsm
        refine Res.bind hrun ?_
        refine Res.from (w1 := dr w) rfl rfl rfl rfl ?_
        have := arr_fresh (MRel.of_heap (w := w) (w' := dr w) rfl hm) (rows := rows.take n ++ rows') (n := n + rows'.length) (cap := newCap) el hlt hbx (fun row hr => by
          simp only [List.mem_append] at hr
          rcases hr with hr | hr
          · exact hus.row row hr
          · exact hx.row row hr) (by rw [List.length_append, hlenT]) (VL_mono (Ext.of_heap (w := w) (w' := dr w) rfl) _ free free _ (.refl _) (app_flatten hus.vl hx.vl)) (fun y hy => by
          simp only [List.mem_append] at hy
          rcases hy with hy | hy
          · exact hus.one y hy
          · exact hx.one y hy) rest hc2 hc1
        exact this
  · cases h
end
end Go.Abs

/- Cuts of strings and slices, lengths, literals; then: every operation without memory is followed by its abstract one. No condition. -/
import Derived.Test.YtlinfghjilpcdaaAbsE
namespace Go.Abs
open Go

section
variable {P : Program} {I : Nat → Prop} {w : World} {loc : Nat → Nat → Loc}

def VO (I : Nat → Prop) (w : World) (loc : Nat → Nat → Loc) : Option D → Option Value → Prop
  | none, none => True
  | some d, some v => V I w d loc v
  | _, _ => False

theorem run_bound {x : Option D} {u : Option Value} {dflt n k m : Nat} {code : BoundsCode} (hx : VO I w loc x u) (h : bound x dflt n = some k) (hn : n ≤ m) :
    k ≤ n ∧ (match u with | some v => Instr.sliceBound v m code | none => pure dflt : Sem Nat).run P w = .ok k w := by
  unfold bound at h
  cases x with
  | none =>
    cases u with
    | some v => simp [VO] at hx
    | none =>
      simp only [] at h
      split at h
      · simp only [Option.some.injEq] at h; subst h; exact ⟨by assumption, rfl⟩
      · cases h
  | some d =>
    cases u with
    | none => simp [VO] at hx
    | some v =>
      cases d <;> simp only [] at h <;> try cases h
      rename_i kd i
      simp only [VO, V] at hx; subst hx
      split at h
      · rename_i hi
        simp only [Option.some.injEq] at h; subst h
        refine ⟨by omega, ?_⟩
        have hm : i ≤ (m : Int) := by omega
        simp [Instr.sliceBound, asIntOf, hi.1, hm]
      · cases h

theorem run_sliceBounds {lo hi : Option D} {ul uh : Option Value} {isS : Bool} {len cap h k : Nat} (hl : VO I w loc lo ul) (hh : VO I w loc hi uh)
    (h1 : bound hi len len = some h) (h2 : bound lo 0 h = some k) (hc : len ≤ cap) :
    k ≤ h ∧ h ≤ len ∧ (Instr.sliceBounds isS len cap ul uh none).run P w = .ok (k, h, cap) w := by
  have a1 := run_bound (P := P) (m := cap) (code := if isS then .sliceAcap else .sliceAlen) hh h1 hc
  have a2 := run_bound (P := P) (m := h) (code := .sliceB) hl h2 (Nat.le_refl _)
  refine ⟨a2.1, a1.1, ?_⟩
  cases uh with
  | none =>
    have e1 : len = h := by simpa using a1.2
    subst e1
    cases ul with
    | none =>
      have e2 : k = 0 := by simpa using a2.2.symm
      subst e2
      simp [Instr.sliceBounds]
    | some v =>
      simp only [Instr.sliceBounds, Sem.run_bind, Sem.run_pure, Result.andThen_ok, Option.isSome_none, Bool.false_eq_true, if_false]
      rw [a2.2]; rfl
  | some v' =>
    cases ul with
    | none =>
      have e2 : k = 0 := by simpa using a2.2.symm
      subst e2
      simp only [Instr.sliceBounds, Sem.run_bind, Sem.run_pure, Result.andThen_ok]
      rw [a1.2]; rfl
    | some v =>
      simp only [Instr.sliceBounds, Sem.run_bind, Sem.run_pure, Result.andThen_ok, Option.isSome_none, Bool.false_eq_true, if_false]
      rw [a1.2]; simp only [Result.andThen_ok]; rw [a2.2]; rfl

theorem extract_mk (l : List UInt8) (k h : Nat) : (ByteArray.mk l.toArray).extract k h = ⟨((l.take h).drop k).toArray⟩ := by
  apply ByteArray.ext
  simp [ByteArray.data_extract, List.extract_eq_take_drop, List.drop_take]

theorem run_sliceAt_elem {t e : TypeId} (he : telem P t = some e) (x : Value) (lo hi mx : Option Value) : (Instr.sliceAt t x lo hi mx).run P w = (Instr.slice t x lo hi mx).run P w := by
  simp [Instr.sliceAt, run_underlying (und_elem he)]

theorem run_sliceD {t : TypeId} {x d : D} {lo hi : Option D} {u : Value} {ul uh : Option Value} (hx : V I w x loc u) (hl : VO I w loc lo ul) (hh : VO I w loc hi uh)
    (h : sliceD P t x lo hi = some d) : ∃ z, (Instr.sliceAt t u ul uh none).run P w = .ok z w ∧ V I w d loc z := by
  unfold sliceD at h
  cases x <;> simp only [] at h <;> try cases h
  case str l =>
    split at h
    case isFalse => cases h
    rename_i hs
    split at h
    case h_2 => cases h
    rename_i e he
    rw [Option.map_eq_some_iff] at h
    obtain ⟨k, hk, rfl⟩ := h
    simp only [V] at hx; subst hx
    obtain ⟨_, _, hb⟩ := run_sliceBounds (P := P) (isS := false) hl hh he hk (Nat.le_refl _)
    refine ⟨.string ⟨((l.take e).drop k).toArray⟩, ?_, by simp [V]⟩
    simp [Instr.sliceAt, Instr.slice, run_underlying (und_str hs), size_mk, hb, extract_mk]
  case nils =>
    split at h
    case h_2 => cases h
    rename_i e he
    split at h
    case isFalse => cases h
    rename_i hs
    obtain ⟨s, hs⟩ := Option.isSome_iff_exists.1 hs
    split at h
    case h_2 => cases h
    rename_i q hq
    rw [Option.map_eq_some_iff] at h
    obtain ⟨k, hk, rfl⟩ := h
    simp only [V] at hx; subst hx
    obtain ⟨h1, h2, hb⟩ := run_sliceBounds (P := P) (isS := true) hl hh hq hk (Nat.le_refl _)
    refine ⟨.slice none 0 0, ?_, by simp [V]⟩
    rw [run_sliceAt_elem he]
    have hk0 : k = 0 := by omega
    have hq0 : q = 0 := by omega
    subst hk0; subst hq0
    simp [Instr.slice, run_underlying (und_elem he), hb, run_sizeOf' hs]
  case rs s rows =>
    split at h
    case h_2 => cases h
    rename_i e he
    split at h
    case isFalse => cases h
    rename_i hs
    split at h
    case h_2 => cases h
    rename_i q hq
    rw [Option.map_eq_some_iff] at h
    obtain ⟨k, hk, rfl⟩ := h
    simp only [V] at hx
    rw [run_sliceAt_elem he]
    rcases hx with ⟨rfl, p0, cap0, rfl⟩ | ⟨b, o, cap, rfl, hcap, hI, hr⟩
    · obtain ⟨h1, h2, hb⟩ := run_sliceBounds (P := P) (isS := true) hl hh hq hk (Nat.zero_le cap0)
      have hk0 : k = 0 := by simp at h2; omega
      have hq0 : q = 0 := by simp at h2; omega
      subst hk0; subst hq0
      simp only [List.length_nil] at hb
      refine ⟨.slice (if cap0 = 0 then p0 else p0.map (·.add (0 * s))) (0 - 0) (cap0 - 0), ?_, ?_⟩
      · simp [Instr.slice, run_underlying (und_elem he), hb, run_sizeOf' hs]
      · simp [V]
    obtain ⟨h1, h2, hb⟩ := run_sliceBounds (P := P) (isS := true) hl hh hq hk hcap
    by_cases hm : cap = k
    · refine ⟨.slice (some ⟨b, o, none⟩) (q - k) (cap - k), ?_, ?_⟩
      · subst hm; simp [Instr.slice, run_underlying (und_elem he), hb, run_sizeOf' hs]
      · have : (rows.take q).drop k = [] := by simp; omega
        simp only [V, this]
        exact .inr ⟨b, o, cap - k, by simp; omega, by simp, hI, by simp [VR]⟩
    · refine ⟨.slice (some ⟨b, o + k * s, none⟩) (q - k) (cap - k), ?_, ?_⟩
      · simp [Instr.slice, run_underlying (und_elem he), hb, run_sizeOf' hs, hm, addr_add]
      · simp only [V]
        refine .inr ⟨b, o + k * s, cap - k, ?_, ?_, hI, VR_drop k (VR_take q hr)⟩
        · congr 1; simp; omega
        · simp; omega
  case bs b g s o n =>
    split at h
    case h_2 => cases h
    rename_i e he
    split at h
    case isFalse => cases h
    rename_i hs
    split at h
    case h_2 => cases h
    rename_i q hq
    rw [Option.map_eq_some_iff] at h
    obtain ⟨k, hk, rfl⟩ := h
    rw [run_sliceAt_elem he]
    simp only [V] at hx
    cases hlc : loc b g <;> simp only [hlc] at hx
    · obtain ⟨a, cap, rfl, hn, ha⟩ := hx
      obtain ⟨h1, h2, hb⟩ := run_sliceBounds (P := P) (isS := true) hl hh hq hk hn
      refine ⟨.slice (if cap = k then a else a.map (·.add (k * s))) (q - k) (cap - k), ?_, ?_⟩
      · simp [Instr.slice, run_underlying (und_elem he), hb, run_sizeOf' hs]
      · simp only [V, hlc]
        refine ⟨_, cap - k, rfl, by omega, fun hz => ?_⟩
        split at hz
        · omega
        · have := ha (by simpa using hz); omega
    · obtain ⟨rfl, rfl, rfl⟩ := hx
      obtain ⟨h1, h2, hb⟩ := run_sliceBounds (P := P) (isS := true) hl hh hq hk (Nat.le_refl _)
      have hk0 : k = 0 := by omega
      have hq0 : q = 0 := by omega
      subst hk0; subst hq0
      refine ⟨.slice none 0 0, ?_, ?_⟩
      · simp [Instr.slice, run_underlying (und_elem he), hb, run_sizeOf' hs]
      · simp [V, hlc]
    · rename_i c
      obtain ⟨o', cap, rfl, hn, ho, hsz⟩ := hx
      obtain ⟨h1, h2, hb⟩ := run_sliceBounds (P := P) (isS := true) hl hh hq hk hn
      refine ⟨.slice (some ⟨c, if cap = k then o' else o' + k * s, none⟩) (q - k) (cap - k), ?_, ?_⟩
      · by_cases hm : cap = k
        · subst hm; simp [Instr.slice, run_underlying (und_elem he), hb, run_sizeOf' hs]
        · simp [Instr.slice, run_underlying (und_elem he), hb, run_sizeOf' hs, hm, addr_add]
      · simp only [V, hlc]
        refine ⟨_, cap - k, rfl, by omega, ?_, ?_⟩
        · by_cases hm : cap = k
          · left; omega
          · right
            rw [if_neg hm]
            have : o' = o * s := by omega
            rw [this, Nat.add_mul]
        · have : o + k + (cap - k) = o + cap := by omega
          rw [this]; exact hsz

theorem run_lenD {t ty : TypeId} {x d : D} {u : Value} (hx : V I w x loc u) (h : lenD P t x = some d) : ∃ z, (Builtin.len_ #[t] ty #[u]).run P w = .ok z w ∧ V I w d loc z := by
  unfold lenD at h
  cases x <;> simp only [] at h <;> try cases h
  case str l =>
    split at h
    · rename_i hs
      simp only [Option.some.injEq] at h; subst h
      simp only [V] at hx; subst hx
      exact ⟨.int .i64 l.length, by simp [Builtin.len_, run_underlying (und_str hs), size_mk, goInt], by simp [V]⟩
    · cases h
  case nils =>
    rw [Option.map_eq_some_iff] at h
    obtain ⟨e, he, rfl⟩ := h
    simp only [V] at hx; subst hx
    exact ⟨.int .i64 0, by simp [Builtin.len_, run_underlying (und_elem he), goInt], by simp [V]⟩
  case rs s rows =>
    rw [Option.map_eq_some_iff] at h
    obtain ⟨e, he, rfl⟩ := h
    simp only [V] at hx
    rcases hx with ⟨rfl, p0, cap0, rfl⟩ | ⟨b, o, cap, rfl, _⟩
    · exact ⟨.int .i64 0, by simp [Builtin.len_, run_underlying (und_elem he), goInt], by simp [V]⟩
    exact ⟨.int .i64 rows.length, by simp [Builtin.len_, run_underlying (und_elem he), goInt], by simp [V]⟩
  case bs b g s o n =>
    rw [Option.map_eq_some_iff] at h
    obtain ⟨e, he, rfl⟩ := h
    have : ∃ a cap, u = .slice a n cap := by
      simp only [V] at hx
      cases hlc : loc b g <;> simp only [hlc] at hx
      · obtain ⟨a, cap, h, _⟩ := hx; exact ⟨a, cap, h⟩
      · exact ⟨none, 0, by rw [hx.2.2, hx.2.1]⟩
      · obtain ⟨o', cap, h, _⟩ := hx; exact ⟨_, cap, h⟩
    obtain ⟨a, cap, rfl⟩ := this
    exact ⟨.int .i64 n, by simp [Builtin.len_, run_underlying (und_elem he), goInt], by simp [V]⟩
  case agg cs =>
    rw [Option.map_eq_some_iff] at h
    obtain ⟨⟨n, e⟩, he, rfl⟩ := h
    exact ⟨.int .i64 n, by simp [Builtin.len_, run_underlying (und_arr he), goInt], by simp [V]⟩
  case bp b off =>
    split at h
    · rename_i a ha
      rw [Option.map_eq_some_iff] at h
      obtain ⟨⟨n, e⟩, he, rfl⟩ := h
      exact ⟨.int .i64 n, by simp [Builtin.len_, run_underlying ha, run_underlying (und_arr he), goInt], by simp [V]⟩
    · cases h

theorem run_foldD {f : D → D → Option D} {g : Value → Value → Sem Value} (hfg : ∀ x y z u v, f x y = some z → V I w x loc u → V I w y loc v → ∃ r, (g u v).run P w = .ok r w ∧ V I w z loc r) :
    ∀ (ds : List D) (vs : List Value) (x d : D) (u : Value), VL I w ds loc vs → V I w x loc u → foldD f x ds = some d → ∃ r, (vs.foldlM g u).run P w = .ok r w ∧ V I w d loc r
  | [], vs, x, d, u, hv, hx, h => by
    simp only [VL] at hv; subst hv
    simp only [foldD, Option.some.injEq] at h; subst h
    exact ⟨u, rfl, hx⟩
  | y :: r, vs, x, d, u, hv, hx, h => by
    simp only [VL] at hv
    obtain ⟨v, vr, rfl, hy, hr⟩ := hv
    simp only [foldD] at h
    split at h
    · rename_i z hz
      obtain ⟨q, hq, hvq⟩ := hfg x y z u v hz hx hy
      obtain ⟨q2, h2, h3⟩ := run_foldD hfg r vr z d q hr hvq h
      exact ⟨q2, by simp [hq, h2], h3⟩
    · cases h

theorem run_minD (x y z : D) (u v : Value) (h : minD x y = some z) (hx : V I w x loc u) (hy : V I w y loc v) : ∃ r, (Builtin.min2 u v).run P w = .ok r w ∧ V I w z loc r := by
  unfold minD at h
  split at h
  · simp only [Option.some.injEq] at h; subst h
    simp only [V] at hx hy; subst hx; subst hy
    exact ⟨_, rfl, rfl⟩
  · cases h
theorem run_maxD (x y z : D) (u v : Value) (h : maxD x y = some z) (hx : V I w x loc u) (hy : V I w y loc v) : ∃ r, (Builtin.max2 u v).run P w = .ok r w ∧ V I w z loc r := by
  unfold maxD at h
  split at h
  · simp only [Option.some.injEq] at h; subst h
    simp only [V] at hx hy; subst hx; subst hy
    exact ⟨_, rfl, rfl⟩
  · cases h

theorem VL_set : ∀ (cs : List D) (us : List Value) (k : Nat) (vs : List D) (ws : List Value), VL I w cs loc us → VL I w vs loc ws → k + vs.length ≤ cs.length →
    VL I w (setCells cs k vs) loc (us.take k ++ ws ++ us.drop (k + ws.length))
  | cs, us, k, [], ws, h, hv, _ => by
    simp only [VL] at hv; subst hv
    cases cs <;> cases k <;> simpa [setCells] using h
  | [], us, k, v :: vs, ws, h, hv, hk => by simp at hk
  | c :: cs, us, 0, v :: vs, ws, h, hv, hk => by
    simp only [VL] at h hv
    obtain ⟨x, xr, rfl, hx, hxr⟩ := h
    obtain ⟨y, yr, rfl, hy, hyr⟩ := hv
    have := VL_set cs xr 0 vs yr hxr hyr (by simpa using hk)
    simp only [setCells, VL]
    exact ⟨y, yr ++ xr.drop yr.length, by simp, hy, by simpa using this⟩
  | c :: cs, us, k + 1, v :: vs, ws, h, hv, hk => by
    simp only [VL] at h
    obtain ⟨x, xr, rfl, hx, hxr⟩ := h
    have := VL_set cs xr k (v :: vs) ws hxr hv (by simp at hk ⊢; omega)
    simp only [setCells, VL]
    refine ⟨x, _, ?_, hx, this⟩
    have e : k + 1 + ws.length = (k + ws.length) + 1 := by omega
    rw [e]; simp

theorem setCells_length : ∀ (cs : List D) (k : Nat) (vs : List D), k + vs.length ≤ cs.length → (setCells cs k vs).length = cs.length
  | cs, k, [], _ => by cases cs <;> cases k <;> simp [setCells]
  | [], k, v :: vs, h => by simp at h
  | c :: cs, 0, v :: vs, h => by simp only [setCells, List.length_cons]; rw [setCells_length cs 0 vs (by simpa using h)]
  | c :: cs, k + 1, v :: vs, h => by simp only [setCells, List.length_cons]; rw [setCells_length cs k (v :: vs) (by simp at h ⊢; omega)]

/-- the model's way to lay one part over the cells. -/
theorem foldl_put (ws : List Value) : ∀ (cells : List Value) (o : Nat), o + ws.length ≤ cells.length →
    (ws.zipIdx.foldl (fun (cs : Array Value) (p : Value × Nat) => cs.setIfInBounds (o + p.2) p.1) cells.toArray) = (cells.take o ++ ws ++ cells.drop (o + ws.length)).toArray := by
  intro cells o h
  have gen : ∀ (ws : List Value) (j : Nat) (cells : List Value), o + j + ws.length ≤ cells.length →
      ((ws.zipIdx j).foldl (fun (cs : Array Value) (p : Value × Nat) => cs.setIfInBounds (o + p.2) p.1) cells.toArray) = (cells.take (o + j) ++ ws ++ cells.drop (o + j + ws.length)).toArray := by
    intro ws
    induction ws with
    | nil => intro j cells h; simp
    | cons v r ih =>
      intro j cells h
      simp only [List.zipIdx_cons, List.foldl_cons, List.setIfInBounds_toArray]
      have hl : (cells.set (o + j) v).length = cells.length := by simp
      rw [ih (j + 1) (cells.set (o + j) v) (by rw [hl]; simp at h ⊢; omega)]
      congr 1
      have hlt : o + j < cells.length := by simp at h; omega
      have e1 : o + (j + 1) = (o + j) + 1 := by omega
      rw [e1]
      have t1 : (cells.set (o + j) v).take (o + j + 1) = cells.take (o + j) ++ [v] := by
        rw [List.take_succ_eq_append_getElem (by simpa using hlt)]
        simp [List.take_set_of_le (Nat.le_refl _)]
      rw [t1]
      have t2 : (cells.set (o + j) v).drop (o + j + 1 + r.length) = cells.drop (o + j + 1 + r.length) := by
        rw [List.drop_set_of_lt (by omega)]
      rw [t2]
      simp [Nat.add_assoc, Nat.add_comm, Nat.add_left_comm]
  have := gen ws 0 cells (by simpa using h)
  simpa using this

theorem run_fillD {place : Nat → Option (Nat × Nat)} {e : Operand → D} {ρ : Operand → Value} (he : ∀ x, V I w (e x) loc (ρ x)) :
    ∀ (ps : List (Nat × Operand)) (cells : List D) (us : List Value) (r : List D),
    VL I w cells loc us → (∀ x ∈ us, x.oneCell' = true) → fillD place cells (ps.map fun p => (p.1, e p.2)) = some r →
    ∃ vs : List Value, Instr.fill place us.toArray (ps.map fun p => (p.1, ρ p.2)) = some vs.toArray ∧ (∀ x ∈ vs, x.oneCell' = true) ∧ VL I w r loc vs
  | [], cells, us, r, hv, hu, h => by
    simp only [List.map_nil, fillD, Option.some.injEq] at h; subst h
    exact ⟨us, rfl, hu, hv⟩
  | (i, x) :: rest, cells, us, r, hv, hu, h => by
    simp only [List.map_cons, fillD] at h
    split at h
    case h_2 => cases h
    rename_i o s hpl
    split at h
    case isFalse => cases h
    rename_i hc
    obtain ⟨hcl, hone⟩ := V_cells (he x) hc.1
    have hlen := VL_length hcl
    have hul := VL_length hv
    have hsz : (ρ x).cells.size = (e x).cells.length := by simpa using hlen
    obtain ⟨vs, hvs, hr⟩ := run_fillD he rest _ _ r (VL_set cells us o (e x).cells (ρ x).cells.toList hv hcl (by omega)) (fun y hy => by
      simp only [List.mem_append] at hy
      rcases hy with (hy | hy) | hy
      · exact hu y (List.mem_of_mem_take hy)
      · exact hone y hy
      · exact hu y (List.mem_of_mem_drop hy)) h
    refine ⟨vs, ?_, hr⟩
    simp only [List.map_cons, Instr.fill, hpl]
    have c1 : ¬ ((ρ x).cells.size ≠ s || o + (ρ x).cells.size > us.toArray.size) = true := by
      simp only [ne_eq, Bool.or_eq_true, decide_eq_true_eq, not_or, Decidable.not_not, Nat.not_lt, List.size_toArray]
      omega
    rw [if_neg c1]
    have := foldl_put (ρ x).cells.toList us o (by simp; omega)
    rw [← hvs]
    congr 1
    rw [← this, ← Array.foldl_toList]
    simp [Array.toList_zipIdx]
end
end Go.Abs

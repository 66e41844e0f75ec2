/- Literals of slices, make, append and the rest of the operations that write or make memory. No condition. -/
import Derived.Test.YtlinfghjilpcdaaTyJ
namespace Go.Abs
open Go
set_option linter.unusedSimpArgs false

section
variable {T : Nat → Type} {C : Cd T} {O I : Nat → Prop} {w : World} {loc : Nat → Nat → Loc} {L : Nat → Nat → Nat} {m : MT T} {P : Program} {Y : Nat → Option TI} {R : Type} {G : Nat → Option (List D)}

/-- rows of cells that hold at least what the elements say. -/
def Rw (C : Cd T) (c : Nat) (rowsD : List (List D)) (rows : List (T c)) : Prop :=
  rowsD.length = rows.length ∧ ∀ (i : Nat) (row : List D) (x : T c), rowsD[i]? = some row → rows[i]? = some x → row.length = C.sz c ∧ pureL row = true ∧ Imp row (C.encD c x)
theorem Rw.imp {c : Nat} {rowsD : List (List D)} {rows : List (T c)} (h : Rw C c rowsD rows) : ImpR (C.sz c) rowsD (rows.map (C.encD c)) := by
  refine ⟨by simp [h.1], fun i row row' hi hi' _ => ?_⟩
  rw [List.getElem?_map, Option.map_eq_some_iff] at hi'
  obtain ⟨x, hx, rfl⟩ := hi'
  exact (h.2 i row x hi hx).2.2
theorem Rw.set {c : Nat} {rowsD : List (List D)} {rows : List (T c)} (h : Rw C c rowsD rows) {i : Nat} {row : List D} {x : T c} (h1 : row.length = C.sz c) (h2 : pureL row = true) (h3 : Imp row (C.encD c x)) : Rw C c (rowsD.set i row) (rows.set i x) := by
  refine ⟨by simp [h.1], fun j row' x' hj hj' => ?_⟩
  rw [List.getElem?_set] at hj hj'
  by_cases q : i = j
  · subst q
    rw [if_pos rfl] at hj hj'
    split at hj
    · split at hj'
      · simp only [Option.some.injEq] at hj hj'
        subst hj; subst hj'
        exact ⟨h1, h2, h3⟩
      · cases hj'
    · cases hj
  · rw [if_neg q] at hj hj'
    exact h.2 j row' x' hj hj'
theorem Rw.rep {c : Nat} {row : List D} {x : T c} (n : Nat) (h1 : row.length = C.sz c) (h2 : pureL row = true) (h3 : Imp row (C.encD c x)) : Rw C c (List.replicate n row) (List.replicate n x) := by
  refine ⟨by simp, fun j row' x' hj hj' => ?_⟩
  rw [List.getElem?_replicate] at hj hj'
  split at hj
  · rename_i hq
    rw [if_pos hq] at hj'
    simp only [Option.some.injEq] at hj hj'
    subst hj; subst hj'
    exact ⟨h1, h2, h3⟩
  · cases hj

theorem partsK_ok (hC : CdOk C) {c : Nat} : ∀ (ps : List (Nat × DT T)) (vs : List Value) {m : MT T} {I : Nat → Prop} {rowsD : List (List D)} {rows : List (T c)} {K : List (T c) → MT T → Option R} {r : R}, MRel O I loc (denM C m) w → WfM L m →
    ps.length = vs.length → (∀ (j : Nat) (p : Nat × DT T) (v : Value), ps[j]? = some p → vs[j]? = some v → WfD L p.2 ∧ V I w (den C p.2) loc v) → Rw C c rowsD rows → partsK C c ps m rows K = some r →
    ∃ (ds : List D) (rowsD' : List (List D)) (rows' : List (T c)) (m' : MT T) (I' : Nat → Prop), ds.length = ps.length ∧ rowParts P (C.sz c) rowsD (List.zipWith (fun p d => (p.1, d)) ps ds) = some rowsD' ∧ Rw C c rowsD' rows' ∧ MRel O I' loc (denM C m') w ∧ WfM L m' ∧ (∀ k, I k → I' k) ∧ (∀ k, I' k → I k ∨ O k) ∧
      (∀ (j : Nat) (d : D) (v : Value), ds[j]? = some d → vs[j]? = some v → V I' w d free v) ∧ m'.length = m.length ∧ K rows' m' = some r
  | [], [], m, I, rowsD, rows, K, r, hm, hw, hl, hv, hr, h => ⟨[], rowsD, rows, m, I, rfl, rfl, hr, hm, hw, fun _ h => h, fun _ h => .inl h, by simp, rfl, h⟩
  | [], _ :: _, m, I, rowsD, rows, K, r, hm, hw, hl, hv, hr, h => by simp at hl
  | _ :: _, [], m, I, rowsD, rows, K, r, hm, hw, hl, hv, hr, h => by simp at hl
  | (i, x) :: ps, v :: vs, m, I, rowsD, rows, K, r, hm, hw, hl, hv, hr, h => by
    simp only [partsK] at h
    split at h
    case h_2 => cases h
    rename_i hf
    obtain ⟨hwx, hvx⟩ := hv 0 (i, x) v (by simp) (by simp)
    have hcs := fit_cells hf hvx
    obtain ⟨cs', m1, I1, g1, g2, g3, g4, g5, g6, g7, g8, h⟩ := frK_ok hC hm hw (WfD_cells hwx) hcs h
    have g4 := fz_own hm g4
    split at h
    case h_2 => cases h
    rename_i y hy
    split at h
    case h_2 => cases h
    rename_i hlt
    have hlt : i < rows.length := by simpa [Nat.blt_eq] using hlt
    obtain ⟨hs, himp⟩ := hC.dec c _ y hy
    have hlc : cs'.length = x.cells.length := by
      have h1 := VL_length g5
      have h2 := VL_length hcs
      rw [denL_length] at h1 h2
      omega
    obtain ⟨r1, r2, r3, r4⟩ := re_ok hf hvx g5 hs hlc
    have hsz : (denL C cs').length = C.sz c := by
      have h1 := VL_length g5
      have h2 := VL_length (himp I1 w _ g5)
      rw [hC.len] at h2
      omega
    have hr' : Rw C c (rowsD.set i (denL C cs')) (rows.set i y) := hr.set hsz (pureTL_den C _ (solid_pure hs)) ⟨by rw [hC.len, hsz], himp⟩
    obtain ⟨ds, rowsD', rows', m', I', k1, k2, k3, k4, k5, k6, k7, k8, k9, k10⟩ := partsK_ok hC ps vs g1 g2 (by simpa using hl) (fun j p v' hj hj' => by
      obtain ⟨q1, q2⟩ := hv (j + 1) p v' (by simpa using hj) (by simpa using hj')
      exact ⟨q1, V_mono (imm_all2 g3) _ loc loc v' (.refl _) q2⟩) hr' h
    refine ⟨den C (x.re cs') :: ds, rowsD', rows', m', I', by simp [k1], ?_, k3, k4, k5, fun k h => k6 k (g3 k h), fun k h => ?_, fun j d v' hj hj' => ?_, k9.trans g7, k10⟩
    · simp only [List.zipWith_cons_cons, rowParts, den_cells, r2]
      rw [if_pos ⟨r4, hsz, DT.pure_den C _ r3, by rw [hr.1]; exact hlt⟩]
      exact k2
    · rcases k7 k h with h | h
      · exact g4 k h
      · exact .inr h
    · cases j with
      | zero =>
        simp only [List.getElem?_cons_zero, Option.some.injEq] at hj hj'
        subst hj; subst hj'
        exact V_mono (imm_all2 k6) _ free free v (.refl _) r1
      | succ j => exact k8 j d v' (by simpa using hj) (by simpa using hj')

theorem zeroE_ok (hC : CdOk C) (hY : TysOk P Y) {el : Nat} {j : TI} (hj : Y el = some j) {z : T j.code} (hz : zeroE C j = some z) :
    ∃ row, zrow P el j.sz = some row ∧ row.length = C.sz j.code ∧ pureL row = true ∧ Imp row (C.encD j.code z) ∧ j.sz = C.sz j.code := by
  unfold zeroE at hz
  split at hz
  case h_2 => cases hz
  rename_i hs
  have hs := Nat.eq_of_beq_eq_true hs
  obtain ⟨h1, h2⟩ := hC.dec _ _ z hz
  have ht := hY el j hj
  have hden : denL C (j.zero.map Zc.toT : List (DT T)) = j.zero.map Zc.toD := zeroT_den j.zero
  have hp : pureL (j.zero.map Zc.toD) = true := by rw [← hden]; exact pureTL_den C _ (solid_pure h1)
  have hcells : (if j.kind.agg = true then D.agg (j.zero.map Zc.toD) else (j.zero.map Zc.toD).headD .dead).cells = j.zero.map Zc.toD ∧ (if j.kind.agg = true then D.agg (j.zero.map Zc.toD) else (j.zero.map Zc.toD).headD .dead).fit = true ∧ (if j.kind.agg = true then D.agg (j.zero.map Zc.toD) else (j.zero.map Zc.toD).headD .dead).pure = true := by
    cases hk : j.kind.agg with
    | true => simp only [if_true, D.cells, D.fit, D.pure, hp, and_self]
    | false =>
      have h1 := ht.zlen
      rw [ht.one hk] at h1
      match hzz : j.zero, h1 with
      | [q], _ =>
        simp only [Bool.false_eq_true, if_false, List.map_cons, List.map_nil, List.headD_cons]
        cases q <;> exact ⟨rfl, rfl, rfl⟩
  refine ⟨j.zero.map Zc.toD, ?_, by simp [ht.zlen, hs], hp, ⟨by simp [hC.len, ht.zlen, hs], fun I w vs hv => h2 I w vs (by rw [hden]; exact hv)⟩, hs⟩
  unfold zrow
  simp only [ht.zero]
  rw [if_pos ⟨hcells.2.1, by rw [hcells.1]; simp [ht.zlen], hcells.2.2⟩, hcells.1]

theorem buildSlice_ok (hC : CdOk C) (hY : TysOk P Y) (hm : MRel O I loc (denM C m) w) (hw : WfM L m) {e : Operand → DT T} {ρ : Operand → Value} (he : ∀ x, V I w (den C (e x)) loc (ρ x)) (hwe : ∀ x, WfD L (e x)) {t el n : Nat} {j : TI} {z : T j.code} {parts : Array (Nat × Operand)} {K : List (T j.code) → MT T → Option R} {r : R}
    (ht : elemT Y t = some el) (hj : Y el = some j) (hz : zeroE C j = some z) (hn : n * j.sz ≤ 16777216) (h : partsK C j.code (parts.toList.map fun p => (p.1, e p.2)) m (List.replicate n z) K = some r) :
    ∃ rows m', ResT C O I loc L w ((do pure (.value (← Instr.buildSlice t n (parts.map fun (i, x) => (i, ρ x)))) : Sem Next).run P w) (.bw m'.length 0 j.code n) (m' ++ [.arr 0 j.code rows]) ∧ K rows m' = some r := by
  obtain ⟨row, z1, z2, z3, z4, z5⟩ := zeroE_ok hC hY hj hz
  obtain ⟨ds, rowsD, rows, m', I', k1, k2, k3, k4, k5, k6, k7, k8, k9, k10⟩ := partsK_ok (P := P) hC (parts.toList.map fun p => (p.1, e p.2)) (parts.toList.map fun p => ρ p.2) hm hw (by simp) (fun q p v hq hv => by
    rw [List.getElem?_map, Option.map_eq_some_iff] at hq hv
    obtain ⟨a, ha, rfl⟩ := hq
    obtain ⟨a', ha', rfl⟩ := hv
    rw [ha] at ha'; cases ha'
    exact ⟨hwe _, he _⟩) (Rw.rep n z2 z3 z4) h
  refine ⟨rows, m', ?_, k10⟩
  -- the parts by number
  let ds' : Operand → D := fun | .tmp q => ds.getD q .dead | _ => .dead
  let vs := parts.toList.map fun p => ρ p.2
  let ρ' : Operand → Value := fun | .tmp q => vs.getD q undef | _ => undef
  let parts' : Array (Nat × Operand) := (parts.toList.mapIdx fun q p => (p.1, Operand.tmp q)).toArray
  have hds : ds.length = parts.toList.length := by simpa using k1
  have hp1 : parts'.toList.map (fun p => (p.1, ds' p.2)) = List.zipWith (fun p d => (p.1, d)) (parts.toList.map fun p => (p.1, e p.2)) ds := by
    apply List.ext_getElem?
    intro q
    simp only [parts', List.getElem?_map, List.getElem?_mapIdx, List.getElem?_zipWith]
    cases hq : parts.toList[q]? with
    | none => simp
    | some p =>
      have hlt : q < ds.length := by
        rw [hds]
        rcases Nat.lt_or_ge q parts.toList.length with h | h
        · exact h
        · rw [List.getElem?_eq_none h] at hq; cases hq
      simp [ds', List.getElem?_eq_getElem hlt, List.getD_eq_getElem?_getD]
  have hp2 : parts'.map (fun (i, x) => (i, ρ' x)) = parts.map (fun (i, x) => (i, ρ x)) := by
    apply Array.ext'
    apply List.ext_getElem?
    intro q
    simp only [parts', Array.toList_map, List.getElem?_map, List.getElem?_mapIdx]
    cases hq : parts.toList[q]? with
    | none => simp
    | some p =>
      have hq' : vs[q]? = some (ρ p.2) := by simp only [vs, List.getElem?_map, hq, Option.map_some]
      simp [ρ', List.getD_eq_getElem?_getD, hq']
  have hv' : ∀ x, V I' w (ds' x) loc (ρ' x) := by
    intro x
    cases x with
    | tmp q =>
      show V I' w (ds.getD q .dead) loc (vs.getD q undef)
      rcases Nat.lt_or_ge q ds.length with h | h
      · have h1 : ds[q]? = some ds[q] := List.getElem?_eq_getElem h
        have h2 : q < vs.length := by simp only [vs, List.length_map]; rw [← hds]; exact h
        have h3 : vs[q]? = some vs[q] := List.getElem?_eq_getElem h2
        rw [List.getD_eq_getElem?_getD, List.getD_eq_getElem?_getD, h1, h3]
        exact V_free (k8 q _ _ h1 h3)
      · rw [List.getD_eq_getElem?_getD, List.getElem?_eq_none h]; trivial
    | _ => trivial
  have hrp : rowParts P j.sz (List.replicate n row) (parts'.toList.map fun p => (p.1, ds' p.2)) = some rowsD := by rw [hp1, z5]; exact k2
  obtain ⟨v, w', b1, b2⟩ := run_buildSlice (P := P) k4 hv' (elemT_ok hY ht) (hY el j hj).sz hn z1 hrp
  rw [hp2] at b1
  have hres := Res.bind b1 b2
  obtain ⟨v0, w0, loc', c1, c2, c3, c4, c5, c6⟩ := hres
  have hlen : rows.length = n := by
    have h1 := (rowParts_fill (P := P) (s := j.sz) (e := ds') parts'.toList (List.replicate n row) rowsD (fun q hq => by rw [List.eq_of_mem_replicate hq, z2, z5]) hrp).2.2.1
    rw [← k3.1, h1]; simp
  have hnb : (denM C m').nb = m'.length := rfl
  have hwk := c2.weakR (b := m'.length) (g := 0) (s := j.sz) (rows := rowsD) (rows' := rows.map (C.encD j.code)) (by simp [Mem.add, hnb]) (by simp [Mem.add, upd, hnb]) (by rw [z5]; exact k3.imp)
  refine ⟨v0, w0, I', loc', updL L m'.length 0 n, c1, ?_, WfM_addL k4 k5 (by simp [WfB, updL, hlen]), ?_, by simp [WfD, updL], (imm_all2 k6).trans c4, k7, c5, LExt.upd (k4.free _ _ (Nat.le_refl _)), c6⟩
  · have e : ((denM C m').add (.arr 0 j.sz rowsD)).set m'.length (.arr 0 j.sz (rows.map (C.encD j.code))) = denM C (m' ++ [.arr 0 j.code rows]) := by
      rw [denM_add]
      simp only [Mem.add, Mem.set, denB, hnb, Mem.mk.injEq, true_and, ← z5]
      funext b'; simp only [upd]; split <;> rfl
    rw [← e]; exact hwk
  · simp only [den]; rw [← z5]; exact c3
end
end Go.Abs

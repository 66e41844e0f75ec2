/- Every operation without memory is followed by its abstract one. No condition. -/
import Derived.Test.YtlinfghjilpcdaaAbsF
namespace Go.Abs
open Go

section
variable {P : Program} {I : Nat → Prop} {w : World} {loc : Nat → Nat → Loc}

theorem run_places : ∀ (fs : List Field) (pl : List (Nat × Nat)), tplacesL P fs = some pl →
    (fs.mapM fun f => do pure (f.offset, ← sizeOf f.type) : Sem (List (Nat × Nat))).run P w = .ok pl w
  | [], pl, h => by simp only [tplacesL, Option.some.injEq] at h; subst h; rfl
  | f :: r, pl, h => by
    simp only [tplacesL] at h
    split at h
    case h_2 => cases h
    rename_i s hs
    rw [Option.map_eq_some_iff] at h
    obtain ⟨q, hq, rfl⟩ := h
    have := run_places r q hq
    simp only [List.mapM_cons, Sem.run_bind, run_sizeOf' hs, Result.andThen_ok, Sem.run_pure, this]

theorem ofV_agg {v : Value} {z : List D} (h : ofV v = .agg z) : ∃ us : List Value, v = .agg us.toArray ∧ (∀ x ∈ us, x.oneCell' = true) ∧ z = ofVs us := by
  cases v with
  | agg cs =>
    obtain ⟨cs⟩ := cs
    simp only [ofV] at h
    split at h
    · rename_i ha
      simp only [D.agg.injEq] at h
      exact ⟨cs, rfl, fun x hx => by simpa using List.all_eq_true.1 ha x hx, h.symm⟩
    · cases h
  | pointer a => cases a <;> simp [ofV] at h
  | slice a n c =>
    cases a with
    | some a => simp [ofV] at h
    | none => cases n <;> cases c <;> simp [ofV] at h
  | map m => cases m <;> simp [ofV] at h
  | _ => simp [ofV] at h

theorem run_buildD {e : Operand → D} {ρ : Operand → Value} (he : ∀ x, V I w (e x) loc (ρ x)) {t : TypeId} {parts : Array (Nat × Operand)} {d : D}
    (h : buildD P t (parts.toList.map fun p => (p.1, e p.2)) = some d) :
    ∃ z, (Instr.build t (parts.map fun (i, x) => (i, ρ x))).run P w = .ok z w ∧ V I w d loc z := by
  have hp : (parts.map fun (i, x) => (i, ρ x)).toList = parts.toList.map fun p => (p.1, ρ p.2) := by simp
  unfold buildD at h
  split at h
  case h_2 => cases h
  rename_i z hz
  obtain ⟨v, hv, hd⟩ := run_zero' hz w
  obtain ⟨us, rfl, hone, rfl⟩ := ofV_agg hd.symm
  have hvl : VL I w (ofVs us) loc us := ofVs_VL us
  split at h
  · rename_i pl hpl
    unfold tplaces at hpl
    split at hpl
    case h_2 => cases hpl
    rename_i fs hfs
    rw [Option.map_eq_some_iff] at h
    obtain ⟨r, hr, rfl⟩ := h
    obtain ⟨vs, hvs, ho, hl⟩ := run_fillD he _ _ us r hvl hone hr
    refine ⟨.agg vs.toArray, ?_, by simp only [V]; exact ⟨vs, rfl, ho, hl⟩⟩
    have hpls := run_places (P := P) (w := w) fs.toList pl hpl
    simp only [Instr.build, Sem.run_bind, hv, Result.andThen_ok, Value.cells, run_underlying hfs, Array.mapM_eq_mapM_toList, Sem.run_map, hpls, hp]
    have : (fun (i : Nat) => pl.toArray[i]?) = (fun (i : Nat) => pl[i]?) := by funext i; simp
    simp only [this, hvs]
    rfl
  · split at h
    case h_2 => cases h
    rename_i n el hel
    split at h
    case h_2 => cases h
    rename_i s hs
    rw [Option.map_eq_some_iff] at h
    obtain ⟨r, hr, rfl⟩ := h
    obtain ⟨vs, hvs, ho, hl⟩ := run_fillD he _ _ us r hvl hone hr
    refine ⟨.agg vs.toArray, ?_, by simp only [V]; exact ⟨vs, rfl, ho, hl⟩⟩
    simp only [Instr.build, Sem.run_bind, hv, Result.andThen_ok, Value.cells, run_underlying (und_arr hel), run_sizeOf' hs, hp, hvs]
    rfl

theorem semN_ok {e : Operand → D} {ρ : Operand → Value} (he : ∀ x, V I w (e x) loc (ρ x)) {o : Oper} {d : D} (h : semN P o.op e = some d) :
    ∃ v, (execOp ρ o).run P w = .ok (.value v) w ∧ V I w d loc v := by
  obtain ⟨dst, op, type, pos, after, guard⟩ := o
  simp only at h
  have fin : ∀ (s : Sem Value) , (∃ z, s.run P w = .ok z w ∧ V I w d loc z) → ∃ v, (do pure (.value (← s)) : Sem Next).run P w = .ok (.value v) w ∧ V I w d loc v := by
    rintro s ⟨z, h1, h2⟩
    exact ⟨z, by simp [h1], h2⟩
  unfold semN at h
  split at h
  · simp only [Option.some.injEq] at h; subst h; exact ⟨_, rfl, he _⟩
  · simp only [Option.some.injEq] at h; subst h; exact ⟨_, rfl, he _⟩
  · rename_i c a b
    have hc := he c
    split at h
    · rename_i hb
      simp only [Option.some.injEq] at h; subst h
      rw [hb] at hc; simp only [V] at hc
      exact ⟨ρ a, by simp [execOp, hc, asBool], he _⟩
    · rename_i hb
      simp only [Option.some.injEq] at h; subst h
      rw [hb] at hc; simp only [V] at hc
      exact ⟨ρ b, by simp [execOp, hc, asBool], he _⟩
    · cases h
  · rename_i x
    have hx := he x
    split at h <;> simp only [Option.some.injEq, reduceCtorEq] at h <;> subst h
    · rename_i b i hb
      rw [hb] at hx
      have : ∃ a : Addr, ρ x = .pointer (some a) := by
        simp only [V] at hx
        cases hl : loc b 0 <;> simp only [hl] at hx
        · exact hx
        · exact ⟨_, hx⟩
      obtain ⟨a, ha⟩ := this
      refine ⟨ρ x, ?_, hx⟩
      simp [execOp, ha]
    · rename_i b g s i k hb
      rw [hb] at hx
      have : ∃ a : Addr, ρ x = .pointer (some a) := by
        simp only [V] at hx
        cases hl : loc b g <;> simp only [hl] at hx
        · exact hx
        · exact ⟨_, hx⟩
      obtain ⟨a, ha⟩ := this
      refine ⟨ρ x, ?_, hx⟩
      simp [execOp, ha]
    · rename_i cs hb
      rw [hb] at hx
      refine ⟨ρ x, ?_, hx⟩
      simp only [V] at hx
      obtain ⟨b, o, ha, _⟩ := hx
      simp [execOp, ha]
    · rename_i f cap hb
      rw [hb] at hx
      refine ⟨ρ x, ?_, hx⟩
      simp only [V] at hx
      obtain ⟨vs, ha, _⟩ := hx
      simp [execOp, ha]
  · exact fin _ (run_binD _ _ (he _) (he _) h)
  · exact fin _ (run_unD (he _) h)
  · split at h
    · rename_i hs
      exact fin _ (run_convD (Option.isSome_iff_exists.1 hs) (he _) h)
    · cases h
  · exact fin _ (run_buildD he h)
  · exact fin _ (run_fieldAddrD (he _) h)
  · exact fin _ (run_fieldD (he _) h)
  · exact fin _ (run_indexAddrD (he _) (he _) h)
  · exact fin _ (run_indexD (he _) (he _) h)
  · rename_i t x lo hi
    refine fin _ (run_sliceD (he _) ?_ ?_ h)
    · cases lo with
      | none => trivial
      | some y => exact he y
    · cases hi with
      | none => trivial
      | some y => exact he y
  · rename_i x i
    have hx := he x
    split at h
    · rename_i vs hb
      rw [hb] at hx; simp only [V] at hx
      obtain ⟨us, hu, hl⟩ := hx
      obtain ⟨v, hv, hvv⟩ := VL_get hl h
      exact ⟨v, by simp [execOp, hu, Instr.extract, hv], hvv⟩
    · cases h
  · rename_i f first cap
    split at h
    · rename_i hf
      simp only [Option.some.injEq] at h; subst h
      have hf : first = #[] := by simpa using hf
      subst hf
      refine ⟨.func (.func f) #[] (cap.map ρ), by simp [execOp, Instr.makeFunc], ?_⟩
      simp only [V]
      exact ⟨cap.toList.map ρ, by congr 1; apply Array.ext'; simp, VL_map he _⟩
    · cases h
  · rename_i args argTypes
    split at h
    · rename_i x t hx ht
      obtain ⟨z, hz, hv⟩ := run_lenD (P := P) (ty := type) (he x) h
      have ha : args = #[x] := by apply Array.ext'; simpa using hx
      have hb : argTypes = #[t] := by apply Array.ext'; simpa using ht
      subst ha; subst hb
      exact ⟨z, by simp [execOp, resolve, invoke, builtin, hz], hv⟩
    · cases h
  · rename_i args argTypes
    split at h
    · rename_i x r hx
      cases ha : args.toList with
      | nil => simp [ha] at hx
      | cons y q =>
        simp only [ha, List.map_cons, List.cons.injEq] at hx
        obtain ⟨hx1, hx2⟩ := hx
        subst hx1; subst hx2
        obtain ⟨z, hz, hv⟩ := run_foldD (P := P) (run_minD (P := P)) _ _ _ _ _ (VL_map he q) (he y) h
        have : args = (y :: q).toArray := by apply Array.ext'; simpa using ha
        subst this
        exact ⟨z, by simp [execOp, resolve, invoke, builtin, Builtin.min_, hz], hv⟩
    · cases h
  · rename_i args argTypes
    split at h
    · rename_i x r hx
      cases ha : args.toList with
      | nil => simp [ha] at hx
      | cons y q =>
        simp only [ha, List.map_cons, List.cons.injEq] at hx
        obtain ⟨hx1, hx2⟩ := hx
        subst hx1; subst hx2
        obtain ⟨z, hz, hv⟩ := run_foldD (P := P) (run_maxD (P := P)) _ _ _ _ _ (VL_map he q) (he y) h
        have : args = (y :: q).toArray := by apply Array.ext'; simpa using ha
        subst this
        exact ⟨z, by simp [execOp, resolve, invoke, builtin, Builtin.max_, hz], hv⟩
    · cases h
  · cases h
end
end Go.Abs

/- Fields, indexes, cuts, literals and the rest of the operations without memory. No condition. -/
import Derived.Test.YtlinfghjilpcdaaAbsD
namespace Go.Abs
open Go

section
variable {P : Program} {I : Nat → Prop} {w : World} {loc : Nat → Nat → Loc}

theorem run_unD {op : UnOp} {x d : D} {u : Value} (hx : V I w x loc u) (h : unD op x = some d) : ∃ z, (Op.unary op u).run P w = .ok z w ∧ V I w d loc z := by
  unfold unD at h
  split at h <;> simp only [Option.some.injEq, reduceCtorEq] at h <;> subst h <;> simp only [V] at hx <;> subst hx
  · exact ⟨_, rfl, rfl⟩
  · exact ⟨_, rfl, rfl⟩
  · exact ⟨_, rfl, rfl⟩

theorem run_convD {src dst : TypeId} {x d : D} {u : Value} (hs : ∃ t, P.underlying src = some t) (hx : V I w x loc u) (h : convD P dst x = some d) : ∃ z, (convert src dst u).run P w = .ok z w ∧ V I w d loc z := by
  obtain ⟨ts, hs⟩ := hs
  unfold convD at h
  cases x <;> simp only [] at h <;> try cases h
  case int k n =>
    simp only [V] at hx; subst hx
    cases hk : tint P dst with
    | some k' =>
      simp only [hk, Option.some.injEq] at h; subst h
      refine ⟨_, ?_, rfl⟩
      simp only [convert, Sem.run_bind, run_underlying hs, Result.andThen_ok, run_underlying (und_int hk)]
      cases ts <;> rfl
    | none =>
      simp only [hk] at h
      split at h
      · rename_i hd
        simp only [Option.some.injEq] at h; subst h
        refine ⟨.string (Utf8.encode n), ?_, by simp [V]⟩
        simp only [convert, Sem.run_bind, run_underlying hs, Result.andThen_ok, run_underlying (und_str hd)]
        cases ts <;> rfl
      · cases h
  case str l =>
    split at h
    · rename_i hd
      simp only [Option.some.injEq] at h; subst h
      simp only [V] at hx; subst hx
      refine ⟨_, ?_, rfl⟩
      simp only [convert, Sem.run_bind, run_underlying hs, Result.andThen_ok, run_underlying (und_str hd)]
      cases ts <;> rfl
    · cases h

theorem tfld_some {t : TypeId} {k o : Nat} {ft : TypeId} (h : tfld P t k = some (o, ft)) :
    ∃ fs f i, P.underlying t = some (.struct fs) ∧ fs[k]? = some f ∧ P.info? f.type = some i ∧ i.size ≠ 0 ∧ f.offset = o ∧ f.type = ft := by
  unfold tfld at h
  split at h
  · rename_i fs hfs
    split at h
    · rename_i f hf
      split at h
      · rename_i i hi
        split at h
        · cases h
        · rename_i hz
          simp only [Option.some.injEq, Prod.mk.injEq] at h
          exact ⟨fs, f, i, hfs, hf, hi, hz, h.1, h.2⟩
      · cases h
    · cases h
  · cases h

theorem addr_add (b o n : Nat) : (⟨b, o, none⟩ : Addr).add n = ⟨b, o + n, none⟩ := by
  unfold Addr.add; split
  · rename_i h; subst h; rfl
  · rfl

theorem run_fieldAt {t : TypeId} {k o : Nat} {ft : TypeId} (h : tfld P t k = some (o, ft)) (a : Addr) :
    (Instr.fieldAt t (.pointer (some a)) k).run P w = .ok (.pointer (some (a.add o))) w := by
  obtain ⟨fs, f, i, h1, h2, h3, h4, rfl, rfl⟩ := tfld_some h
  simp [Instr.fieldAt, run_underlying h1, h2, Instr.sureAddr, fieldPlace, sizeOf, typeInfo, h3, h4]

theorem run_fieldAddrD {t : TypeId} {k : Nat} {x d : D} {u : Value} (hx : V I w x loc u) (h : fieldAddrD P t x k = some d) :
    ∃ z, (Instr.fieldAt t u k).run P w = .ok z w ∧ V I w d loc z := by
  unfold fieldAddrD at h
  split at h
  case h_2 => cases h
  rename_i o ft hf
  cases x <;> simp only [Option.some.injEq] at h <;> try cases h
  case h_1.rp.refl cs =>
    simp only [V] at hx
    obtain ⟨b, o', rfl, hI, hc⟩ := hx
    refine ⟨_, run_fieldAt hf _, ?_⟩
    simp only [V, addr_add]
    exact ⟨b, o' + o, rfl, hI, VC_drop o hc⟩
  case h_1.bp.refl b off =>
    simp only [V] at hx
    cases hl : loc b 0 <;> simp only [hl] at hx
    · obtain ⟨a, rfl⟩ := hx
      exact ⟨_, run_fieldAt hf _, by simp [V, hl]⟩
    · subst hx
      exact ⟨_, run_fieldAt hf _, by simp [V, hl, addr_add]⟩
  case h_1.ap.refl b g s i off =>
    simp only [V] at hx
    cases hl : loc b g <;> simp only [hl] at hx
    · obtain ⟨a, rfl⟩ := hx
      exact ⟨_, run_fieldAt hf _, by simp [V, hl]⟩
    · subst hx
      exact ⟨_, run_fieldAt hf _, by simp [V, hl, addr_add, Nat.add_assoc]⟩

theorem extract_eq (vs : List Value) (o m : Nat) : vs.toArray.extract o (o + m) = ((vs.drop o).take m).toArray := by
  apply Array.ext'
  simp [List.extract_eq_take_drop]

theorem run_part {t : TypeId} {cs : List D} {vs : List Value} {o : Nat} {d : D} (h1 : ∀ x ∈ vs, x.oneCell' = true) (hv : VL I w cs loc vs) (h : loadD P t (cs.drop o) = some d) :
    ∃ z, (part t vs.toArray o).run P w = .ok z w ∧ V I w d loc z := by
  unfold loadD at h
  have hd := VL_drop o hv
  split at h
  · rename_i ha
    split at h
    · rename_i m hm
      split at h
      · simp only [Option.some.injEq] at h; subst h
        refine ⟨.agg ((vs.drop o).take m).toArray, ?_, ?_⟩
        · simp only [part, Sem.run_bind, run_isAgg' ha, Result.andThen_ok, if_true, run_sizeOf' hm, extract_eq, Sem.run_pure]
        · simp only [V]
          exact ⟨_, rfl, fun x hx => h1 x (List.mem_of_mem_drop (List.mem_of_mem_take hx)), VL_take m hd⟩
      · cases h
    · cases h
  · rename_i ha
    split at h
    · rename_i c r hc
      simp only [Option.some.injEq] at h; subst h
      rw [hc] at hd
      simp only [VL] at hd
      obtain ⟨v, vr, he, hv', _⟩ := hd
      have h0 : vs[o]? = some v := by have := congrArg (fun l => l[0]?) he; simpa using this
      refine ⟨v, ?_, hv'⟩
      simp [part, run_isAgg' ha, h0]
    · cases h
  · cases h

theorem run_fieldD {t : TypeId} {k : Nat} {x d : D} {u : Value} (hx : V I w x loc u) (h : fieldD P t x k = some d) :
    ∃ z, (Instr.field t u k).run P w = .ok z w ∧ V I w d loc z := by
  unfold fieldD at h
  split at h
  case h_2 => cases h
  rename_i o ft hf
  cases x <;> simp only [] at h <;> try cases h
  case agg cs =>
    simp only [V] at hx
    obtain ⟨vs, rfl, h0, hv⟩ := hx
    obtain ⟨fs, f, i, h1, h2, h3, h4, rfl, rfl⟩ := tfld_some hf
    obtain ⟨z, hz, hvz⟩ := run_part h0 hv h
    refine ⟨z, ?_, hvz⟩
    simp [Instr.field, run_underlying h1, h2, asAgg, hz]

theorem idx_some {x : D} {n k : Nat} (h : idx x n = some k) : ∃ kd, x = .int kd k ∧ k < n := by
  unfold idx at h
  split at h
  · rename_i kd i
    split at h
    · rename_i hi
      simp only [Option.some.injEq] at h
      refine ⟨kd, ?_, by omega⟩
      congr; omega
    · cases h
  · cases h

theorem run_indexAt_slice {t e : TypeId} {s n cap k : Nat} {kd : IntKind} {a : Addr} (ht : telem P t = some e) (hs : tsz P e = some s) (hk : k < n) :
    (Instr.indexAt t (.slice (some a) n cap) (.int kd k)).run P w = .ok (.pointer (some (a.add (k * s)))) w := by
  simp [Instr.indexAt, asIntOf, run_underlying (und_elem ht), hk, run_sizeOf' hs]

theorem run_indexAt_arr {t e : TypeId} {s n k : Nat} {kd : IntKind} {a : Addr} (ht : tarr P t = some (n, e)) (hs : tsz P e = some s) (hk : k < n) :
    (Instr.indexAt t (.pointer (some a)) (.int kd k)).run P w = .ok (.pointer (some (a.add (k * s)))) w := by
  simp [Instr.indexAt, asIntOf, run_underlying (und_arr ht), hk, run_sizeOf' hs, Instr.sureAddr]

theorem run_indexAddrD {t : TypeId} {x i d : D} {u v : Value} (hx : V I w x loc u) (hi : V I w i loc v) (h : indexAddrD P t x i = some d) :
    ∃ z, (Instr.indexAt t u v).run P w = .ok z w ∧ V I w d loc z := by
  unfold indexAddrD at h
  cases x <;> simp only [] at h <;> try cases h
  case rs s rows =>
    split at h
    case h_2 => cases h
    rename_i e he
    split at h
    case isFalse => cases h
    rename_i hs
    split at h
    case h_2 => cases h
    rename_i k hk
    obtain ⟨kd, rfl, hlt⟩ := idx_some hk
    rw [Option.map_eq_some_iff] at h
    obtain ⟨row, hrow, rfl⟩ := h
    simp only [V] at hx hi
    rcases hx with ⟨rfl, _⟩ | ⟨b, o, cap, rfl, hcap, hI, hr⟩
    · simp at hlt
    subst hi
    refine ⟨_, run_indexAt_slice he hs hlt, ?_⟩
    simp only [V, addr_add]
    exact ⟨b, _, rfl, hI, (VR_get hr hrow).2⟩
  case bs b g s o n =>
    split at h
    case h_2 => cases h
    rename_i e he
    split at h
    case isFalse => cases h
    rename_i hs
    rw [Option.map_eq_some_iff] at h
    obtain ⟨k, hk, rfl⟩ := h
    obtain ⟨kd, rfl, hlt⟩ := idx_some hk
    simp only [V] at hi; subst hi
    simp only [V] at hx
    cases hl : loc b g <;> simp only [hl] at hx
    · obtain ⟨a, cap, rfl, hn, ha⟩ := hx
      cases a with
      | none => have := ha rfl; omega
      | some a => exact ⟨_, run_indexAt_slice he hs hlt, by simp [V, hl]⟩
    · omega
    · obtain ⟨o', cap, rfl, hn, ho, _⟩ := hx
      refine ⟨_, run_indexAt_slice he hs hlt, ?_⟩
      have ho' : o' = o * s := by omega
      subst ho'
      simp [V, hl, addr_add, Nat.add_mul]
  case bp b off =>
    split at h
    case h_2 => cases h
    rename_i n e he
    split at h
    case h_2 => cases h
    rename_i s hs
    rw [Option.map_eq_some_iff] at h
    obtain ⟨k, hk, rfl⟩ := h
    obtain ⟨kd, rfl, hlt⟩ := idx_some hk
    simp only [V] at hi; subst hi
    simp only [V] at hx
    cases hl : loc b 0 <;> simp only [hl] at hx
    · obtain ⟨a, rfl⟩ := hx
      exact ⟨_, run_indexAt_arr he hs hlt, by simp [V, hl]⟩
    · subst hx
      exact ⟨_, run_indexAt_arr he hs hlt, by simp [V, hl, addr_add]⟩
  case rp cs =>
    split at h
    case h_2 => cases h
    rename_i n e he
    split at h
    case h_2 => cases h
    rename_i s hs
    rw [Option.map_eq_some_iff] at h
    obtain ⟨k, hk, rfl⟩ := h
    obtain ⟨kd, rfl, hlt⟩ := idx_some hk
    simp only [V] at hi hx; subst hi
    obtain ⟨b, o, rfl, hI, hc⟩ := hx
    refine ⟨_, run_indexAt_arr he hs hlt, ?_⟩
    simp only [V, addr_add]
    exact ⟨b, _, rfl, hI, VC_drop _ hc⟩

theorem run_indexD {t : TypeId} {x i d : D} {u v : Value} (hx : V I w x loc u) (hi : V I w i loc v) (h : indexD P t x i = some d) :
    ∃ z, (Instr.index t u v).run P w = .ok z w ∧ V I w d loc z := by
  unfold indexD at h
  cases x <;> simp only [] at h <;> try cases h
  case str l =>
    split at h
    case isFalse => cases h
    rename_i hs
    split at h
    case h_2 => cases h
    rename_i k hk
    obtain ⟨kd, rfl, hlt⟩ := idx_some hk
    rw [Option.map_eq_some_iff] at h
    obtain ⟨c, hc, rfl⟩ := h
    simp only [V] at hx hi; subst hx; subst hi
    refine ⟨_, ?_, rfl⟩
    have hb : (ByteArray.mk l.toArray)[k]? = some c := by
      have h1 : k < l.length := hlt
      have h2 : k < (ByteArray.mk l.toArray).size := by rw [size_mk]; exact h1
      rw [getElem?_pos _ k h2]
      have : (ByteArray.mk l.toArray)[k] = l[k] := rfl
      rw [this]
      rw [List.getElem?_eq_getElem h1] at hc
      exact hc
    simp [Instr.index, asIntOf, run_underlying (und_str hs), hb]
  case agg cs =>
    split at h
    case h_2 => cases h
    rename_i n e he
    split at h
    case h_2 => cases h
    rename_i s k hs hk
    obtain ⟨kd, rfl, hlt⟩ := idx_some hk
    simp only [V] at hx hi; subst hi
    obtain ⟨vs, rfl, h0, hv⟩ := hx
    obtain ⟨z, hz, hvz⟩ := run_part h0 hv h
    refine ⟨z, ?_, hvz⟩
    simp [Instr.index, asIntOf, run_underlying (und_arr he), hlt, run_sizeOf' hs, hz]
end
end Go.Abs

/- Arithmetic, comparisons, fields, indexes and cuts: what the model's operation answers reads as the abstract one's answer. No condition. -/
import Derived.Test.YtlinfghjilpcdaaAbsC
namespace Go.Abs
open Go

section
variable {P : Program} {I : Nat → Prop} {w : World} {loc : Nat → Nat → Loc}

theorem run_intBin {op : BinOp} {t : TypeId} {k k' : IntKind} {a b : Int} {d : D} (h : intBin op k a k' b = some d) :
    ∃ v, (binOp op t (.int k a) (.int k' b)).run P w = .ok v w ∧ V I w d loc v := by
  unfold intBin at h
  cases op <;> simp only [] at h
  case shl =>
    split at h
    · cases h
    · simp only [Option.some.injEq] at h; subst h
      exact ⟨_, by simp [binOp, Op.shift, *], rfl⟩
  case shr =>
    split at h
    · cases h
    · simp only [Option.some.injEq] at h; subst h
      exact ⟨_, by simp [binOp, Op.shift, *], rfl⟩
  all_goals
    split at h
    · cases h
    · rename_i hk
      have hk : k = k' := by simpa using hk
      subst hk
      first
        | (simp only [Option.some.injEq] at h; subst h; refine ⟨_, ?_, rfl⟩; simp [binOp, Op.intArith, Op.intBits, Op.intCmp]; done)
        | (split at h
           · cases h
           · simp only [Option.some.injEq] at h; subst h; exact ⟨_, by simp [binOp, Op.intDiv, *], rfl⟩)
        | cases h

theorem toList_mk (l : List UInt8) : (ByteArray.mk l.toArray).toList = l := by
  rw [ByteArray.toList_eq]

theorem size_mk (l : List UInt8) : (ByteArray.mk l.toArray).size = l.length := by
  simp [ByteArray.size]

theorem append_mk (a b : List UInt8) : (ByteArray.mk a.toArray) ++ (ByteArray.mk b.toArray) = ⟨(a ++ b).toArray⟩ := by
  apply ByteArray.ext
  simp [ByteArray.data_append]

theorem run_strBin {op : BinOp} {t : TypeId} {a b : List UInt8} {d : D} (h : strBin op a b = some d) :
    ∃ v, (binOp op t (.string ⟨a.toArray⟩) (.string ⟨b.toArray⟩)).run P w = .ok v w ∧ V I w d loc v := by
  unfold strBin at h
  cases op <;> simp only [] at h
  case add =>
    split at h
    · cases h
    · rename_i hn
      simp only [Option.some.injEq] at h; subst h
      refine ⟨.string ⟨(a ++ b).toArray⟩, ?_, by simp only [V]⟩
      simp only [binOp, Op.stringOp, size_mk, if_neg hn, append_mk]
      rfl
  case eql => simp only [Option.some.injEq] at h; subst h; refine ⟨_, ?_, rfl⟩; simp [binOp, Op.stringOp]
  case neq => simp only [Option.some.injEq] at h; subst h; refine ⟨_, ?_, rfl⟩; simp [binOp, Op.stringOp]
  case lss => simp only [Option.some.injEq] at h; subst h; refine ⟨_, ?_, rfl⟩; simp [binOp, Op.stringOp]
  case leq => simp only [Option.some.injEq] at h; subst h; refine ⟨_, ?_, rfl⟩; simp [binOp, Op.stringOp]
  case gtr => simp only [Option.some.injEq] at h; subst h; refine ⟨_, ?_, rfl⟩; simp [binOp, Op.stringOp]
  case geq => simp only [Option.some.injEq] at h; subst h; refine ⟨_, ?_, rfl⟩; simp [binOp, Op.stringOp]
  all_goals cases h

theorem und_bool {t : TypeId} (h : tbool P t = true) : P.underlying t = some .bool := by
  unfold tbool at h; split at h <;> simp_all
theorem und_str {t : TypeId} (h : tstr P t = true) : P.underlying t = some .string := by
  unfold tstr at h; split at h <;> simp_all
theorem und_int {t : TypeId} {k : IntKind} (h : tint P t = some k) : P.underlying t = some (.int k) := by
  unfold tint at h; split at h <;> simp_all
theorem und_elem {t e : TypeId} (h : telem P t = some e) : P.underlying t = some (.slice e) := by
  unfold telem at h; split at h <;> simp_all
theorem und_arr {t e : TypeId} {n : Nat} (h : tarr P t = some (n, e)) : P.underlying t = some (.array n e) := by
  unfold tarr at h; split at h <;> simp_all
theorem run_sizeOf' {t : TypeId} {m : Nat} (h : tsz P t = some m) (w : World) : (sizeOf t).run P w = .ok m w := by
  unfold tsz at h
  rw [Option.map_eq_some_iff] at h
  obtain ⟨i, hi, rfl⟩ := h
  simp [sizeOf, typeInfo, hi]
theorem run_isAgg' {t : TypeId} {b : Bool} (h : tagg P t = some b) (w : World) : (isAgg t).run P w = .ok b w := by
  unfold tagg at h
  rw [Option.map_eq_some_iff] at h
  obtain ⟨i, hi, rfl⟩ := h
  simp only [isAgg, Sem.run_bind, run_underlying hi, Result.andThen_ok]
  cases i <;> rfl
theorem run_zero' {t : TypeId} {d : D} (h : tzero P t = some d) (w : World) : ∃ v, (zeroValue t).run P w = .ok v w ∧ d = ofV v := by
  unfold tzero at h
  rw [Option.map_eq_some_iff] at h
  obtain ⟨v, hv, rfl⟩ := h
  rw [Option.bind_eq_some_iff] at hv
  obtain ⟨i, hi, hz⟩ := hv
  exact ⟨v, by simp [zeroValue, typeInfo, hi, hz], rfl⟩

theorem fkind_cases {t : TypeId} (h : fkind P t ≠ 0) : (fkind P t = 1 ∧ P.underlying t = some .bool) ∨ (fkind P t = 2 ∧ P.underlying t = some .string) ∨ (fkind P t = 3 ∧ ∃ k, P.underlying t = some (.int k)) := by
  unfold fkind at *
  split at h
  · rename_i hb; exact .inl ⟨by simp [hb], und_bool hb⟩
  · split at h
    · rename_i hb hs; exact .inr (.inl ⟨by simp [hb, hs], und_str hs⟩)
    · split at h
      · rename_i hb hs hi
        obtain ⟨k, hk⟩ := Option.isSome_iff_exists.1 hi
        exact .inr (.inr ⟨by simp [hb, hs, hi], k, und_int hk⟩)
      · exact absurd rfl h

theorem eqFields_ok : ∀ (fs : List Field) (o : Nat) (d : Nat) (q : List Nat) (xs ys : List D) (us vs : List Value) (r : Bool), flatFields P fs o = some q →
    VL I w xs loc (us.drop o) → VL I w ys loc (vs.drop o) → eqCells q xs ys = some r →
    (Op.eqFields (d + 1) us.toArray vs.toArray fs).run P w = .ok r w
  | [], o, d, q, xs, ys, us, vs, r, hq, hx, hy, he => by
    simp [flatFields] at hq
    subst hq
    cases xs <;> cases ys <;> simp [eqCells] at he
    subst he; simp [Op.eqFields]
  | f :: fs, o, d, q, xs, ys, us, vs, r, hf, hx, hy, he => by
    simp only [flatFields] at hf
    split at hf
    case isFalse => cases hf
    rename_i hc
    obtain ⟨hname, hoff, hty⟩ := hc
    rw [Option.map_eq_some_iff] at hf
    obtain ⟨q', hrest, rfl⟩ := hf
    subst hoff
    cases xs with
    | nil => simp [eqCells] at he
    | cons x xr =>
      cases ys with
      | nil => cases x <;> simp [eqCells] at he
      | cons y yr =>
        simp only [VL] at hx hy
        obtain ⟨u, ur, hu, hxv, hxr⟩ := hx
        obtain ⟨v, vr, hv, hyv, hyr⟩ := hy
        have hu0 : us[f.offset]? = some u := by have := congrArg (fun l => l[0]?) hu; simpa using this
        have hv0 : vs[f.offset]? = some v := by have := congrArg (fun l => l[0]?) hv; simpa using this
        have hu1 : us.drop (f.offset + 1) = ur := by have := congrArg List.tail hu; simpa [List.tail_drop] using this
        have hv1 : vs.drop (f.offset + 1) = vr := by have := congrArg List.tail hv; simpa [List.tail_drop] using this
        have ih : ∀ r', eqCells q' xr yr = some r' → (Op.eqFields (d + 1) us.toArray vs.toArray fs).run P w = .ok r' w := fun r' hr' =>
          eqFields_ok fs (f.offset + 1) d q' xr yr us vs r' hrest (by rw [hu1]; exact hxr) (by rw [hv1]; exact hyr) hr'
        have hund := fkind_cases hty
        have nagg : (isAgg f.type).run P w = .ok false w := by
          rcases hund with ⟨_, h⟩ | ⟨_, h⟩ | ⟨_, k, h⟩ <;> simp [isAgg, run_underlying h]
        have hpu : (part f.type us.toArray f.offset).run P w = .ok u w := by simp [part, nagg, hu0]
        have hpv : (part f.type vs.toArray f.offset).run P w = .ok v w := by simp [part, nagg, hv0]
        have key : ∀ (q0 r' : Bool), eqCells q' xr yr = some r' → r = (q0 && r') → (Op.equalIn (d + 1) f.type u v).run P w = .ok q0 w →
            (Op.eqFields (d + 1) us.toArray vs.toArray (f :: fs)).run P w = .ok r w := by
          intro q0 r' hr' hr hq
          simp only [Op.eqFields, ne_eq, hname, not_false_eq_true, if_true, Sem.run_bind, hpu, hpv, Result.andThen_ok, hq, Sem.run_ite]
          cases q0
          · simp [hr]
          · simp only [Bool.not_true, Bool.false_eq_true, if_false]; rw [ih r' hr', hr]; rfl
        rcases hund with ⟨hk, h⟩ | ⟨hk, h⟩ | ⟨hk, k0, h⟩ <;> rw [hk] at he <;> cases x <;> cases y <;> simp only [eqCells] at he <;> try cases he
        case bool.bool a b =>
          simp only [V] at hxv hyv; subst hxv; subst hyv
          rw [Option.map_eq_some_iff] at he
          obtain ⟨r', hr', hr⟩ := he
          exact key (a == b) r' hr' hr.symm (run_equalIn_bool' w d _ a b h)
        case str.str a b =>
          simp only [V] at hxv hyv; subst hxv; subst hyv
          rw [Option.map_eq_some_iff] at he
          obtain ⟨r', hr', hr⟩ := he
          refine key (a == b) r' hr' hr.symm ?_
          rw [run_equalIn_string w d _ _ _ h, toList_mk, toList_mk]
        case int.int k a k' b =>
          simp only [V] at hxv hyv; subst hxv; subst hyv
          split at he
          · rename_i hkk
            subst hkk
            rw [Option.map_eq_some_iff] at he
            obtain ⟨r', hr', hr⟩ := he
            exact key (a == b) r' hr' hr.symm (run_equalIn_int w d _ k k0 a b h)
          · cases he

theorem run_binD {op : BinOp} {t : TypeId} {x y : D} {d : D} {u v : Value} (ox oy : Operand) (hx : V I w x loc u) (hy : V I w y loc v) (h : binD P op t x y = some d) :
    ∃ z, (do eqGuard op t ox oy u v; binOp op t u v : Sem Value).run P w = .ok z w ∧ V I w d loc z := by
  unfold binD at h
  cases x <;> simp only [] at h <;> try cases h
  case bool a =>
    cases y <;> simp only [] at h <;> try cases h
    rename_i b
    simp only [V] at hx hy; subst hx; subst hy
    split at h
    · rename_i hb
      have hu := und_bool hb
      cases op <;> simp only [Option.some.injEq] at h <;> try cases h
      · refine ⟨.bool (a == b), ?_, rfl⟩
        simp [eqGuard, binOp, Op.equal, Op.maxDepth, run_equalIn_bool' w 9999 t a b hu]
      · refine ⟨.bool (!(a == b)), ?_, rfl⟩
        simp [eqGuard, binOp, Op.equal, Op.maxDepth, run_equalIn_bool' w 9999 t a b hu]
    · cases h
  case int k a =>
    cases y <;> simp only [] at h <;> try cases h
    rename_i k' b
    simp only [V] at hx hy; subst hx; subst hy
    obtain ⟨z, hz, hv⟩ := run_intBin (t := t) (P := P) (I := I) (w := w) (loc := loc) h
    refine ⟨z, ?_, hv⟩
    have : (eqGuard op t ox oy (.int k a) (.int k' b)).run P w = .ok () w := by cases op <;> simp [eqGuard]
    simp [this, hz]
  case str a =>
    cases y <;> simp only [] at h <;> try cases h
    rename_i b
    simp only [V] at hx hy; subst hx; subst hy
    obtain ⟨z, hz, hv⟩ := run_strBin (t := t) (P := P) (I := I) (w := w) (loc := loc) h
    refine ⟨z, ?_, hv⟩
    have : (eqGuard op t ox oy (.string ⟨a.toArray⟩) (.string ⟨b.toArray⟩)).run P w = .ok () w := by cases op <;> simp [eqGuard]
    simp [this, hz]
  case agg xs =>
    cases y <;> simp only [] at h <;> try cases h
    rename_i ys
    simp only [V] at hx hy
    obtain ⟨us, rfl, _, hus⟩ := hx
    obtain ⟨vs, rfl, _, hvs⟩ := hy
    split at h
    case h_2 => cases h
    rename_i q hq
    unfold flatEq at hq
    split at hq
    case h_2 => cases hq
    rename_i fs hfs
    split at hq
    case isFalse => cases hq
    rename_i hc
    have hff : P.underlying t = some (.struct (P.fieldsOf t)) := by simp [Program.fieldsOf, hfs]
    have hfo : P.fieldsOf t = fs := by simp [Program.fieldsOf, hfs]
    have run : ∀ r, eqCells q xs ys = some r → (Op.equalIn 10000 t (.agg us.toArray) (.agg vs.toArray)).run P w = .ok r w := fun r hr => by
      rw [run_equalIn_agg w 9999 t _ _ hff hc.1, hfo]
      exact eqFields_ok fs.toList 0 9998 q xs ys us vs r hq (by simpa using hus) (by simpa using hvs) hr
    have hg := run_eqGuard_agg (P := P) w op t ox oy us.toArray vs.toArray hc.2
    cases op <;> simp only [] at h <;> try cases h
    · rw [Option.map_eq_some_iff] at h
      obtain ⟨r, hr, rfl⟩ := h
      refine ⟨.bool r, ?_, rfl⟩
      rw [Sem.run_bind, hg, Result.andThen_ok, run_eql_struct, run r hr]; rfl
    · rw [Option.map_eq_some_iff] at h
      obtain ⟨r, hr, rfl⟩ := h
      refine ⟨.bool (!r), ?_, rfl⟩
      rw [Sem.run_bind, hg, Result.andThen_ok, run_neq_struct, run r hr]; rfl
end
end Go.Abs

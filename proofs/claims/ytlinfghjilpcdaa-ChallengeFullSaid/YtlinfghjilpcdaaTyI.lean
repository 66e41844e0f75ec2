/- Operations on memory in typed abstract values: what they do to the world. No condition. -/
import Derived.Test.YtlinfghjilpcdaaTyH
import Derived.Test.YtlinfghjilpcdaaAbsO
namespace Go.Abs
open Go
set_option linter.unusedSimpArgs false

section
variable {T : Nat → Type} {C : Cd T} {O I : Nat → Prop} {w : World} {loc : Nat → Nat → Loc} {L : Nat → Nat → Nat} {m : MT T} {P : Program} {Y : Nat → Option TI} {R : Type} {G : Nat → Option (List D)}

def LExt (loc : Nat → Nat → Loc) (L L' : Nat → Nat → Nat) : Prop := ∀ b g, loc b g ≠ .free → L' b g = L b g
theorem LExt.refl (loc : Nat → Nat → Loc) (L : Nat → Nat → Nat) : LExt loc L L := fun _ _ _ => rfl

mutual
theorem WfD_ext {L' : Nat → Nat → Nat} (hl : LExt loc L L') : ∀ (d : DT T) (v : Value), V I w (den C d) loc v → WfD L d → WfD L' d
  | .bw b g c n, v, hv, h => by
    simp only [WfD] at h ⊢
    rw [← h]
    exact hl b g (by simp only [den, V] at hv; intro e; simp [e] at hv)
  | .agg cs, v, hv, h => by
    simp only [WfD] at h ⊢
    simp only [den, V] at hv
    obtain ⟨vs, _, _, hvs⟩ := hv
    exact WfL_ext hl cs vs hvs h
  | .tup cs, v, hv, h => by
    simp only [WfD] at h ⊢
    simp only [den, V] at hv
    obtain ⟨vs, _, hvs⟩ := hv
    exact WfL_ext hl cs vs hvs h
  | .fn f cs, v, hv, h => by
    simp only [WfD] at h ⊢
    simp only [den, V] at hv
    obtain ⟨vs, _, hvs⟩ := hv
    exact WfL_ext hl cs vs hvs h
  | .dead, _, _, _ => trivial
  | .bool _, _, _, _ => trivial
  | .int _ _, _, _, _ => trivial
  | .u8 _, _, _, _ => trivial
  | .u16 _, _, _, _ => trivial
  | .u32 _, _, _, _ => trivial
  | .u64 _, _, _, _ => trivial
  | .str _, _, _, _ => trivial
  | .lit _, _, _, _ => trivial
  | .nilp, _, _, _ => trivial
  | .nils, _, _, _ => trivial
  | .rs _ _, _, _, _ => trivial
  | .rp _, _, _, _ => trivial
  | .bp _ _, _, _, _ => trivial
  | .ap _ _ _ _ _, _, _, _ => trivial
  | .bs _ _ _ _ _, _, _, _ => trivial
theorem WfL_ext {L' : Nat → Nat → Nat} (hl : LExt loc L L') : ∀ (ds : List (DT T)) (vs : List Value), VL I w (denL C ds) loc vs → WfL L ds → WfL L' ds
  | [], _, _, _ => trivial
  | d :: r, vs, hv, h => by
    simp only [denL, VL] at hv
    obtain ⟨v, vr, _, h1, h2⟩ := hv
    exact ⟨WfD_ext hl d v h1 h.1, WfL_ext hl r vr h2 h.2⟩
end
mutual
/-- what lies in memory that nobody writes holds no box. -/
theorem free_wfD : ∀ (d : DT T) (v : Value), V I w (den C d) free v → WfD L d
  | .bw b g c n, v, hv => by simp [den, V, free] at hv
  | .agg cs, v, hv => by
    simp only [den, V] at hv
    obtain ⟨vs, _, _, hvs⟩ := hv
    exact free_wfL cs vs hvs
  | .tup cs, v, hv => by
    simp only [den, V] at hv
    obtain ⟨vs, _, hvs⟩ := hv
    exact free_wfL cs vs hvs
  | .fn f cs, v, hv => by
    simp only [den, V] at hv
    obtain ⟨vs, _, hvs⟩ := hv
    exact free_wfL cs vs hvs
  | .dead, _, _ => trivial
  | .bool _, _, _ => trivial
  | .int _ _, _, _ => trivial
  | .u8 _, _, _ => trivial
  | .u16 _, _, _ => trivial
  | .u32 _, _, _ => trivial
  | .u64 _, _, _ => trivial
  | .str _, _, _ => trivial
  | .lit _, _, _ => trivial
  | .nilp, _, _ => trivial
  | .nils, _, _ => trivial
  | .rs _ _, _, _ => trivial
  | .rp _, _, _ => trivial
  | .bp _ _, _, _ => trivial
  | .ap _ _ _ _ _, _, _ => trivial
  | .bs _ _ _ _ _, _, _ => trivial
theorem free_wfL : ∀ (ds : List (DT T)) (vs : List Value), VL I w (denL C ds) free vs → WfL L ds
  | [], _, _ => trivial
  | d :: r, vs, hv => by
    simp only [denL, VL] at hv
    obtain ⟨v, vr, _, h1, h2⟩ := hv
    exact ⟨free_wfD d v h1, free_wfL r vr h2⟩
end
theorem WfM_ext {L' : Nat → Nat → Nat} (hm : MRel O I loc (denM C m) w) (hl : LExt loc L L') (h : WfM L m) : ∀ b, b < m.length → WfB L' b (m.get b) := fun b hb => by
  have hx := box_at hm hb
  have hw := h b
  cases hg : m.get b with
  | var cs =>
    rw [hg] at hx hw
    simp only [denB, RelB] at hx
    obtain ⟨_, k, c, el, fz, _, _, _, _, hv⟩ := hx
    exact WfL_ext hl cs _ hv hw
  | arr g c l =>
    rw [hg] at hx hw
    simp only [WfB] at hw ⊢
    rw [← hw]
    refine hl b g ?_
    simp only [denB, RelB] at hx
    rcases hx.2 with ⟨h1, _⟩ | ⟨k, _, _, _, h1, _⟩ <;> rw [h1] <;> simp
  | frz g c l =>
    rw [hg] at hx hw
    simp only [WfB] at hw ⊢
    rw [← hw]
    refine hl b g ?_
    simp only [denB, RelB] at hx
    rcases hx.2 with ⟨h1, _⟩ | ⟨k, h1, _⟩ <;> rw [h1] <;> simp
  | _ => trivial

/-- an operation has answered 'd' and left the memory 'm''. -/
def ResT (C : Cd T) (O I : Nat → Prop) (loc : Nat → Nat → Loc) (L : Nat → Nat → Nat) (w : World) (r : Result Next) (d : DT T) (m' : MT T) : Prop :=
  ∃ v w' I' loc' L', (r = .ok (.value v) w' ∨ (r = .ok .skip w' ∧ v = undef)) ∧ MRel O I' loc' (denM C m') w' ∧ WfM L' m' ∧ V I' w' (den C d) loc' v ∧ WfD L' d ∧ Ext I I' w w' ∧ (∀ k, I' k → I k ∨ O k) ∧ LocExt loc loc' ∧ LExt loc L L' ∧ Fr O w w'

theorem ResT.of_res {r : Result Next} {d : DT T} {m' : MT T} (L' : Nat → Nat → Nat) (hl : LExt loc L L') (hd : WfD L' d) (hm' : WfM L' m') (h : Res O I loc w r (den C d) (denM C m')) : ResT C O I loc L w r d m' := by
  obtain ⟨v, w', loc', h1, h2, h3, h4, h5, h6⟩ := h
  exact ⟨v, w', I, loc', L', h1, h2, hm', h3, hd, h4, fun _ h => .inl h, h5, hl, h6⟩

theorem ResT.pre {I1 : Nat → Prop} {r : Result Next} {d : DT T} {m' : MT T} (h1 : ∀ k, I k → I1 k) (h2 : ∀ k, I1 k → I k ∨ O k) (h : ResT C O I1 loc L w r d m') : ResT C O I loc L w r d m' := by
  obtain ⟨v, w', I', loc', L', g1, g2, g3, g4, g5, g6, g7, g8, g9, g10⟩ := h
  refine ⟨v, w', I', loc', L', g1, g2, g3, g4, g5, (imm_all2 h1).trans g6, fun k hk => ?_, g8, g9, g10⟩
  rcases g7 k hk with h | h
  · exact h2 k h
  · exact .inr h

/-- the table's length of a new box. -/
def updL (L : Nat → Nat → Nat) (b g n : Nat) : Nat → Nat → Nat := fun b' g' => if b' = b ∧ g' = g then n else L b' g'
theorem LExt.upd {b g n : Nat} (h : loc b g = .free) : LExt loc L (updL L b g n) := fun b' g' hne => by
  unfold updL
  split
  · rename_i e; rw [e.1, e.2] at hne; exact absurd h hne
  · rfl
theorem WfM_addL (hm : MRel O I loc (denM C m) w) (hw : WfM L m) {x : BoxT T} {n : Nat} (hx : WfB (updL L m.length 0 n) m.length x) : WfM (updL L m.length 0 n) (m ++ [x]) := fun b => by
  rw [get_add]
  split
  · rename_i e; subst e; exact hx
  · rcases Nat.lt_or_ge b m.length with h | h
    · exact WfM_ext hm (LExt.upd (hm.free _ _ (Nat.le_refl _))) hw b h
    · rw [get_none h]; trivial

/-! ### loads -/
theorem glob0 : SpecsOk P ⟨G, fun _ => none⟩ := fun f k F h => by cases h

theorem load_ok (hC : CdOk C) (hY : TysOk P Y) (hm : MRel O I loc (denM C m) w) (hw : WfM L m) {t : Nat} {x : DT T} {u : Value} {K : DT T → Option R} {r : R} (hwx : WfD L x) (hx : V I w (den C x) loc u) (e : Operand → DT T) (o : Operand) (he : e o = x)
    (h : rK Y C (.load t o) e m K = some r) : ∃ d : DT T, loadR P (denM C m) t (den C x) = some (den C d) ∧ WfD L d ∧ K d = some r := by
  simp only [rK, he] at h
  have ld : ∀ (cs : List (DT T)), WfL L cs → ldK Y t cs K = some r → ∃ d : DT T, loadD P t (denL C cs) = some (den C d) ∧ WfD L d ∧ K d = some r := by
    intro cs hwc h
    unfold ldK at h
    split at h
    · rename_i d hd
      have := loadT_ok (C := C) (P := P) hY hwc hd
      exact ⟨d, this.1, this.2, h⟩
    · cases h
  split at h
  · rename_i b off
    split at h
    case h_2 => cases h
    rename_i cs hb
    have hwb := hw b
    rw [hb] at hwb
    obtain ⟨d, h1, h2, h3⟩ := ld _ (WfL_drop off hwb) h
    refine ⟨d, ?_, h2, h3⟩
    simp only [den, loadR, denM, hb, denB, ← denL_drop, h1]
  · rename_i b g c i off
    split at h
    case h_2 => cases h
    rename_i l hl
    rw [Option.bind_eq_some_iff] at h
    obtain ⟨y, hy, h⟩ := h
    obtain ⟨d, h1, h2, h3⟩ := ld _ (WfL_drop off (cleanL_wf _ (pureTL_clean _ (hC.epure c y)))) h
    refine ⟨d, ?_, h2, h3⟩
    have hr : (denM C m).rows b g (C.sz c) = some (l.map (C.encD c)) := by
      rcases boxL_some hl with e | e <;> simp [Mem.rows, denM, e, denB]
    simp only [den, loadR, hr, List.getElem?_map, hy, Option.map_some, ← hC.enc, ← denL_drop, h1]
  · rename_i cs
    have hwc : WfL L cs := by
      simp only [den, V] at hx
      obtain ⟨b, o, _, _, hvc⟩ := hx
      obtain ⟨us, hu, _⟩ := VC_list hvc
      exact free_wfL cs us hu
    obtain ⟨d, h1, h2, h3⟩ := ld _ hwc h
    exact ⟨d, by simp only [den, loadR, h1], h2, h3⟩
  · cases h

/-! ### rows -/
theorem rowsK_ok (hw : WfM L m) {c : Nat} {x : DT T} {rows : List (T c)} (hwx : WfD L x) (h : rowsK m c x some = some rows) : rowsOf (denM C m) (C.sz c) (den C x) = some (rows.map (C.encD c)) := by
  unfold rowsK at h
  have hr : ∀ {b g : Nat} {l : List (T c)}, boxL m b g c = some l → (denM C m).rows b g (C.sz c) = some (l.map (C.encD c)) ∧ L b g = l.length := fun {b g l} hl => by
    have := hw b
    rcases boxL_some hl with e | e <;> rw [e] at this <;> exact ⟨by simp [Mem.rows, denM, e, denB], this⟩
  split at h
  · simp only [Option.some.injEq] at h; subst h; simp [den, rowsOf]
  · split at h
    · rename_i hc _
      subst hc
      simp only [Option.some.injEq] at h; subst h
      simp [den, rowsOf, castL]
    · cases h
  · split at h
    · rename_i hc
      have hc := Nat.eq_of_beq_eq_true hc
      subst hc
      split at h
      · rename_i l hl
        simp only [Option.some.injEq] at h; subst h
        obtain ⟨h1, h2⟩ := hr hl
        simp only [WfD] at hwx
        simp only [den, rowsOf, if_true, Mem.cut, h1]
        rw [if_pos (by simp; omega)]
        have : l.length = (l.map (C.encD _)).length := by simp
        rw [List.drop_zero, ← hwx, h2, this, List.take_length]
      · cases h
    · cases h
  · rename_i b g c' i n
    split at h
    · rename_i hc
      have hc := Nat.eq_of_beq_eq_true hc
      subst hc
      split at h
      · rename_i l hl
        obtain ⟨h1, h2⟩ := hr hl
        unfold winK at h
        cases hd : decide (n + i ≤ l.length) <;> simp only [hd, cond_true, cond_false] at h
        · cases h
        simp only [Option.some.injEq] at h; subst h
        have hd := of_decide_eq_true hd
        simp only [den, rowsOf, if_true, Mem.cut, h1]
        rw [if_pos (by simp; omega)]
        simp
      · cases h
    · cases h
  · cases h

theorem bytesOf_eq (hC : CdOk C) : ∀ (l : List (T C.bt)), bytesOf (l.map (C.encD C.bt)) = some (castB C l) := by
  have gen : ∀ (α : Type) (h : α = UInt8) (e : α → List D), (∀ x, e x = [.int .u8 (cast h x).toNat]) → ∀ l : List α, bytesOf (l.map e) = some (cast (congrArg List h) l) := by
    intro α h e he l
    subst h
    simp only [cast_eq] at he ⊢
    induction l with
    | nil => rfl
    | cons x l ih =>
      simp only [List.map_cons, he, bytesOf]
      have hx := x.toNat_lt
      rw [if_pos ⟨by omega, by omega⟩, ih]
      simp
  exact gen _ C.hb (C.encD C.bt) hC.byte
theorem bytesD_eq (hC : CdOk C) (l : List UInt8) : (castT C l).map (C.encD C.bt) = bytesD l := by
  have gen : ∀ (α : Type) (h : α = UInt8) (e : α → List D), (∀ x, e x = [.int .u8 (cast h x).toNat]) → ∀ l : List UInt8, (cast (congrArg List h.symm) l : List α).map e = bytesD l := by
    intro α h e he l
    subst h
    simp only [cast_eq] at he ⊢
    unfold bytesD
    congr 1; funext x; exact he x
  exact gen _ C.hb (C.encD C.bt) hC.byte l

/-- an operation that reads. -/
theorem rK_ok (hC : CdOk C) (hY : TysOk P Y) (hm : MRel O I loc (denM C m) w) (hw : WfM L m) (hG : Glob G I w) {e : Operand → DT T} {ρ : Operand → Value} (he : ∀ x, V I w (den C (e x)) loc (ρ x)) (hwe : ∀ x, WfD L (e x)) {o : Oper} {K : DT T → Option R} {r : R}
    (h : rK Y C o.op e m K = some r) : ∃ d : DT T, Follows P ⟨G, fun _ => none⟩ O I loc w o ((execOp ρ o).run P w) (den C d) (denM C m) ∧ WfD L d ∧ K d = some r := by
  obtain ⟨dst, op, type, pos, after, guard⟩ := o
  simp only at h
  have h0 := h
  unfold rK at h
  split at h
  · rename_i t x
    obtain ⟨d, h1, h2, h3⟩ := load_ok (P := P) hC hY hm hw (hwe x) (he x) e x rfl h0
    exact ⟨d, semR_ok (Sp := ⟨G, fun _ => none⟩) glob0 hm hG (e := fun x => den C (e x)) he (by simp only [semR]; exact h1), h2, h3⟩
  · rename_i src dst' x
    split at h
    case h_2 => cases h
    rename_i el hel
    split at h
    case h_2 => cases h
    rename_i hc
    simp only [Bool.and_eq_true] at hc
    rw [rowsK_law, Option.bind_eq_some_iff] at h
    obtain ⟨l, h1, h2⟩ := h
    have hr := rowsK_ok (C := C) hw (hwe x) h1
    rw [hC.bsz] at hr
    have hu : tint P el = some .u8 := by
      have := hc.1
      unfold isU8 at this
      split at this
      · rename_i i hi
        split at this
        · rename_i hk; exact (hY el i hi).int _ hk
        · cases this
      · cases this
    refine ⟨.str (castB C l), semR_ok (Sp := ⟨G, fun _ => none⟩) glob0 hm hG (e := fun x => den C (e x)) he ?_, trivial, h2⟩
    simp only [semR, elemT_ok hY hel, hu, isStr_ok hY hc.2, and_self, if_true, hr, bytesOf_eq hC, Option.map_some, den]
  · cases h
end
end Go.Abs

/- Operations that write or make memory, in typed abstract values: what they do to the world. No condition. -/
import Derived.Test.YtlinfghjilpcdaaTyI
namespace Go.Abs
open Go
set_option linter.unusedSimpArgs false

section
variable {T : Nat → Type} {C : Cd T} {O I : Nat → Prop} {w : World} {loc : Nat → Nat → Loc} {L : Nat → Nat → Nat} {m : MT T} {P : Program} {Y : Nat → Option TI} {R : Type} {G : Nat → Option (List D)}

/-- cells that say less. -/
def Imp (row row' : List D) : Prop := row'.length = row.length ∧ ∀ (I : Nat → Prop) (w : World) (vs : List Value), VL I w row free vs → VL I w row' free vs
theorem Imp.refl (row : List D) : Imp row row := ⟨rfl, fun _ _ _ h => h⟩
theorem Imp.vc {row row' : List D} (h : Imp row row') {b o : Nat} (hv : VC I w row b o) : VC I w row' b o := by
  obtain ⟨vs, h1, h2, h3⟩ := VC_list hv
  exact list_VC (h.2 I w vs h1) h2 h3

/-- rows that say less. -/
def ImpR (s : Nat) (rows rows' : List (List D)) : Prop := rows'.length = rows.length ∧ ∀ (i : Nat) (row row' : List D), rows[i]? = some row → rows'[i]? = some row' → row.length = s → Imp row row'
theorem ImpR.vr {s : Nat} {rows rows' : List (List D)} (h : ImpR s rows rows') {b o : Nat} (hv : VR I w s rows b o) : VR I w s rows' b o := by
  rw [VR_iff] at hv ⊢
  intro i row' hi
  have hlt : i < rows.length := by
    rw [← h.1]
    rcases Nat.lt_or_ge i rows'.length with q | q
    · exact q
    · rw [List.getElem?_eq_none q] at hi; cases hi
  have hr : rows[i]? = some rows[i] := List.getElem?_eq_getElem hlt
  obtain ⟨h1, h2⟩ := hv i _ hr
  have hi' := h.2 i _ row' hr hi h1
  exact ⟨by rw [hi'.1]; exact h1, hi'.vc h2⟩

theorem MRel.weakR {M : Mem} {b g s : Nat} {rows rows' : List (List D)} (hm : MRel O I loc M w) (hb : b < M.nb) (hx : M.bx b = .arr g s rows) (hr : ImpR s rows rows') : MRel O I loc (M.set b (.arr g s rows')) w := by
  have hbx : ∀ b', (M.set b (.arr g s rows')).bx b' = if b' = b then .arr g s rows' else M.bx b' := fun b' => rfl
  have hown : ∀ b', ((M.set b (.arr g s rows')).bx b').owned = (M.bx b').owned := fun b' => by
    rw [hbx]
    split
    · rename_i e; rw [e, hx]; rfl
    · rfl
  refine ⟨fun b' hb' => ?_, hm.free, fun b' g' k hb' ho hk => hm.own b' g' k hb' (by rw [← hown]; exact ho) hk, fun b1 b2 g1 g2 k h1 h2 o1 o2 k1 k2 => hm.inj b1 b2 g1 g2 k h1 h2 (by rw [← hown]; exact o1) (by rw [← hown]; exact o2) k1 k2, hm.imm, hm.up⟩
  rw [hbx]
  by_cases e : b' = b
  · subst e
    rw [if_pos rfl]
    have := hm.box b' hb
    rw [hx] at this
    simp only [RelB] at this ⊢
    refine ⟨this.1, ?_⟩
    rcases this.2 with ⟨h1, h2⟩ | ⟨k, c, el, fz, h1, h2, h3, h4, h5⟩
    · subst h2
      exact .inl ⟨h1, List.eq_nil_of_length_eq_zero hr.1⟩
    · exact .inr ⟨k, c, el, fz, h1, h2, h3, by rw [hr.1]; exact h4, hr.vr h5⟩
  · rw [if_neg e]; exact hm.box b' hb'

/-- one cell. -/
theorem one_cells {d : D} {v : Value} (h : V I w d loc v) (hf : d.fit = true) (hn : ∀ cs, d ≠ .agg cs) : v.cells = #[v] := by
  cases d <;> simp [D.fit, D.one] at hf
  case agg cs => exact absurd rfl (hn cs)
  case lit x =>
    simp only [V] at h
    subst h
    cases v <;> first | rfl | simp at hf
  all_goals
    cases v <;> first | rfl | (simp [V] at h; try (split at h <;> simp at h))

/-- a value, its boxes taken out. -/
def DT.re (y : DT T) (cs : List (DT T)) : DT T :=
  match y with
  | .agg _ => .agg cs
  | _ => one1 cs
theorem re_ok {I' : Nat → Prop} {y : DT T} {cs : List (DT T)} {v : Value} (hf : y.fit = true) (hv : V I w (den C y) loc v) (hc : VL I' w (denL C cs) free v.cells.toList) (hs : solidL cs = true) (hl : cs.length = y.cells.length) :
    V I' w (den C (y.re cs)) free v ∧ (y.re cs).cells = cs ∧ (y.re cs).pure = true ∧ (den C (y.re cs)).fit = true := by
  have hp := solid_pure hs
  by_cases ha : ∃ l, y = .agg l
  · obtain ⟨l, rfl⟩ := ha
    simp only [den, V] at hv
    obtain ⟨vs, rfl, h1, _⟩ := hv
    refine ⟨?_, rfl, hp, rfl⟩
    simp only [DT.re, den, V]
    exact ⟨vs, rfl, h1, by simpa [Value.cells] using hc⟩
  · have hn : ∀ l, den C y ≠ .agg l := by
      intro l e
      cases y <;> simp [den] at e
      exact ha ⟨_, rfl⟩
    have hone := one_cells hv (den_fit C y hf) hn
    rw [hone] at hc
    have hyc : y.cells = [y] := by
      cases y <;> first | rfl | exact absurd ⟨_, rfl⟩ ha
    rw [hyc] at hl
    match cs, hl with
    | [d], _ =>
      simp only [denL, VL] at hc
      obtain ⟨v', vr, he, h1, h2⟩ := hc
      simp only [List.cons.injEq] at he
      obtain ⟨rfl, rfl⟩ := he
      have hre : y.re [d] = d := by
        cases y <;> first | rfl | exact absurd ⟨_, rfl⟩ ha
      rw [hre]
      obtain ⟨hd1, hd2⟩ := solid_mem hs d (by simp)
      refine ⟨h1, ?_, hd1, den_fit C d ?_⟩
      · cases d <;> first | rfl | (simp [DT.one] at hd2)
      · cases d <;> first | rfl | exact hd2

theorem mem_setT : ∀ {cs : List (DT T)} {k : Nat} {vs : List (DT T)}, k + vs.length ≤ cs.length → ∀ d ∈ vs, d ∈ setT cs k vs
  | cs, k, [], _, d, hd => by simp at hd
  | [], k, v :: vs, h, d, hd => by simp at h
  | c :: cs, 0, v :: vs, h, d, hd => by
    simp only [setT, List.mem_cons]
    rcases List.mem_cons.1 hd with rfl | hd
    · exact .inl rfl
    · exact .inr (mem_setT (k := 0) (by simpa using h) d hd)
  | c :: cs, k + 1, v :: vs, h, d, hd => by
    simp only [setT, List.mem_cons]
    exact .inr (mem_setT (by simp at h ⊢; omega) d hd)
theorem solid_of {l l' : List (DT T)} (h : solidL l = true) (hm : ∀ d ∈ l', d ∈ l) : solidL l' = true := by
  induction l' with
  | nil => rfl
  | cons d r ih =>
    have := solid_mem h d (hm d (by simp))
    simp only [solidL, this.1, this.2, Bool.and_self, Bool.true_and]
    exact ih fun x hx => hm x (by simp [hx])

/-- the purified cells of a value are as many. -/
theorem VL_len {ds : List D} {vs : List Value} (h : VL I w ds loc vs) : vs.length = ds.length := VL_length h

theorem fit_cells {y : DT T} {v : Value} (hf : y.fit = true) (hv : V I w (den C y) loc v) : VL I w (denL C y.cells) loc v.cells.toList := by
  have := (V_cells hv (den_fit C y hf)).1
  rwa [den_cells] at this

/-- a store. -/
theorem store_ok (hC : CdOk C) (hY : TysOk P Y) (hm : MRel O I loc (denM C m) w) (hw : WfM L m) {t : Nat} {x y : DT T} {u v : Value} (hwx : WfD L x) (hwy : WfD L y) (hx : V I w (den C x) loc u) (hv : V I w (den C y) loc v) {K : DT T → MT T → Option R} {r : R} (e : Operand → DT T) (ox oy : Operand) (hex : e ox = x) (hey : e oy = y)
    (h : wK Y C (.store t ox oy) e m K = some r) : ∃ (m' : MT T) (w' : World) (I' : Nat → Prop), (Instr.storeAt t u v).run P w = .ok () w' ∧ MRel O I' loc (denM C m') w' ∧ WfM L m' ∧ Ext I I' w w' ∧ (∀ k, I' k → I k ∨ O k) ∧ Fr O w w' ∧ K .dead m' = some r := by
  simp only [wK, hex, hey] at h
  split at h
  case h_2 => cases h
  rename_i i hi
  have hsz := (hY t i hi).sz
  split at h
  case h_2 => cases h
  rename_i hc
  simp only [Bool.and_eq_true] at hc
  have hlen : y.cells.length = i.sz := Nat.eq_of_beq_eq_true hc.2
  split at h
  · rename_i b off
    split at h
    case h_2 => cases h
    rename_i cs hb
    split at h
    case h_2 => cases h
    rename_i hle
    have hle : off + i.sz ≤ cs.length := by simpa using hle
    have hlt : b < m.length := by
      simp only [den, V] at hx
      exact lt_len (C := C) (g := 0) hm (by intro e; simp [e] at hx)
    have hbx : (denM C m).bx b = .var (denL C cs) := by simp [denM, hb, denB]
    obtain ⟨w', h1, h2, h3, h4⟩ := run_store_var (P := P) hm hx hv (den_fit C y hc.1) hsz (by rw [den_cells, denL_length]; exact hlen) hbx (by rw [denL_length]; exact hle)
    have hwb := hw b
    rw [hb] at hwb
    refine ⟨m.put b (.var (setT cs off y.cells)), w', I, h1, ?_, WfM_put hlt hw (WfL_setT cs off y.cells hwb (WfD_cells hwy)), h3, fun _ h => .inl h, h4, h⟩
    rw [denM_put hlt]
    simpa [denB, denL_setT, den_cells] using h2
  · rename_i b g c k off
    split at h
    case h_2 => cases h
    rename_i l hl
    have hbA := boxA_some hl
    rw [Option.bind_eq_some_iff] at h
    obtain ⟨x0, hx0, h⟩ := h
    have hcs := fit_cells hc.1 hv
    obtain ⟨cs', m1, I1, g1, g2, g3, g4, g5, g6, g7, g8, h⟩ := frK_ok hC hm hw (WfD_cells hwy) hcs h
    have g4 := fz_own hm g4
    split at h
    case h_2 => cases h
    rename_i hle
    have hle : off + i.sz ≤ (C.enc c x0).length := by simpa using hle
    split at h
    case h_2 => cases h
    rename_i x' hx'
    split at h
    case h_2 => cases h
    rename_i g' c' l' hb1
    -- the box is still one's own
    have hsame : m1.get b = .arr g c l := by
      rcases g8 b with q | ⟨g2', c2, l2, q1, q2⟩
      · rw [q, hbA]
      · rw [q2] at hb1; cases hb1
    have hlc : cs'.length = y.cells.length := by
      have h1 := VL_length g5
      have h2 := VL_length hcs
      rw [denL_length] at h1 h2
      omega
    obtain ⟨hs, himp⟩ := hC.dec c _ x' hx'
    have hsol : solidL cs' = true := solid_of hs (mem_setT (by rw [hlc, hlen]; exact hle))
    obtain ⟨r1, r2, r3, r4⟩ := re_ok hc.1 hv g5 hsol hlc
    have hlt : b < m1.length := by
      rw [g7]
      simp only [den, V] at hx
      exact lt_len (C := C) (g := g) hm (by intro e; simp [e] at hx)
    have hbx : (denM C m1).bx b = .arr g (C.sz c) (l.map (C.encD c)) := by simp [denM, hsame, denB]
    have hxI : V I1 w (den C (.ap b g c k off : DT T)) loc u := V_mono (imm_all2 g3) _ loc loc u (.refl _) hx
    have hrow : (l.map (C.encD c))[k]? = some (C.encD c x0) := by simp [hx0]
    have hel : (C.encD c x0).length = (C.enc c x0).length := by rw [← hC.enc, denL_length]
    obtain ⟨w', h1, h2, h3, h4⟩ := run_store_arr (P := P) g1 hxI (V_free r1) r4 (DT.pure_den C _ r3) hsz (by rw [den_cells, r2, denL_length, hlc, hlen]) hbx hrow (by rw [hel]; exact hle)
    refine ⟨_, w', I1, h1, ?_, WfM_put hlt g2 ?_, (imm_all2 g3).trans h3, g4, h4, h⟩
    · rw [denM_put hlt]
      have hb2 : ((denM C m1).set b (.arr g (C.sz c) ((l.map (C.encD c)).set k (setCells (C.encD c x0) off (den C (y.re cs')).cells)))).bx b = .arr g (C.sz c) ((l.map (C.encD c)).set k (setCells (C.encD c x0) off (den C (y.re cs')).cells)) := by simp [Mem.set, upd]
      have := h2.weakR (b := b) (rows' := (l.set k x').map (C.encD c)) hlt hb2 ⟨by simp, fun i row row' hi hi' _ => ?_⟩
      · have e : ((denM C m1).set b (.arr g (C.sz c) ((l.map (C.encD c)).set k (setCells (C.encD c x0) off (den C (y.re cs')).cells)))).set b (.arr g (C.sz c) ((l.set k x').map (C.encD c))) = (denM C m1).set b (denB C (.arr g c (l.set k x'))) := by
          simp only [Mem.set, denB, Mem.mk.injEq, true_and]
          funext b'; simp only [upd]; split <;> rfl
        rw [← e]; exact this
      · rw [List.getElem?_set] at hi
        rw [List.getElem?_map, List.getElem?_set] at hi'
        by_cases q : k = i
        · subst q
          have hk : k < l.length := by
            rcases Nat.lt_or_ge k l.length with h | h
            · exact h
            · rw [List.getElem?_eq_none h] at hx0; cases hx0
          simp only [if_true, List.length_map, hk, Option.some.injEq, Option.map_some] at hi hi'
          subst hi; subst hi'
          rw [den_cells, r2, ← hC.enc, ← denL_setT]
          refine ⟨?_, himp⟩
          rw [hC.len, denL_setT, setCells_length _ _ _ (by simp only [denL_length]; rw [hlc, hlen]; exact hle), hC.enc, hC.len]
        · rw [if_neg q] at hi hi'
          rw [List.getElem?_map] at hi
          rw [hi] at hi'
          cases hi'
          exact .refl _
    · have := g2 b
      rw [hsame] at this
      simp only [WfB] at this ⊢
      simpa using this
  · cases h
end
end Go.Abs

/- Every operation that writes or makes memory, in typed abstract values. No condition. -/
import Derived.Test.YtlinfghjilpcdaaTyL
namespace Go.Abs
open Go
set_option linter.unusedSimpArgs false

section
variable {T : Nat → Type} {C : Cd T} {O I : Nat → Prop} {w : World} {loc : Nat → Nat → Loc} {L : Nat → Nat → Nat} {m : MT T} {P : Program} {Y : Nat → Option TI} {R : Type} {G : Nat → Option (List D)}

theorem zeroD_cells (hY : TysOk P Y) {t : Nat} {i : TI} (hi : Y t = some i) : ∃ z, tzero P t = some z ∧ z.fit = true ∧ z.cells = i.zero.map Zc.toD := by
  have ht := hY t i hi
  refine ⟨_, ht.zero, ?_⟩
  cases hk : i.kind.agg with
  | true => simp only [if_true]; exact ⟨rfl, rfl⟩
  | false =>
    have h1 := ht.zlen
    rw [ht.one hk] at h1
    match hzz : i.zero, h1 with
    | [q], _ =>
      simp only [Bool.false_eq_true, if_false, List.map_cons, List.map_nil, List.headD_cons]
      cases q <;> exact ⟨rfl, rfl⟩

/-- a new variable's box. -/
theorem newVar_ok {cs : List (DT T)} {r : Result Next} (hm : MRel O I loc (denM C m) w) (hw : WfM L m) (hc : WfL L cs) (h : Res O I loc w r (.bp (denM C m).nb 0) ((denM C m).add (.var (denL C cs)))) : ResT C O I loc L w r (.bp m.length 0) (m ++ [.var cs]) :=
  ResT.of_res L (.refl _ _) trivial (WfM_add hw hc) (by rw [denM_add]; exact h)

theorem wK_ok (hC : CdOk C) (hY : TysOk P Y) (hm : MRel O I loc (denM C m) w) (hw : WfM L m) {e : Operand → DT T} {ρ : Operand → Value} (he : ∀ x, V I w (den C (e x)) loc (ρ x)) (hwe : ∀ x, WfD L (e x)) {o : Oper} {K : DT T → MT T → Option R} {r : R}
    (h : wK Y C o.op e m K = some r) : ∃ d m', ResT C O I loc L w ((execOp ρ o).run P w) d m' ∧ K d m' = some r := by
  obtain ⟨dst, op, type, pos, after, guard⟩ := o
  simp only at h
  have h0 := h
  unfold wK at h
  split at h
  · -- alloc
    split at h
    case h_2 => cases h
    rename_i i hi
    obtain ⟨z, z1, z2, z3⟩ := zeroD_cells hY hi
    refine ⟨_, _, newVar_ok hm hw (zeroT_wf _) ?_, h⟩
    rw [zeroT_den, ← z3]
    exact run_alloc hm z1 z2 ρ _ _ _ _ _
  · -- box
    rename_i t x
    split at h
    case h_2 => cases h
    rename_i hf
    refine ⟨_, _, newVar_ok hm hw (WfD_cells (hwe x)) ?_, h⟩
    rw [← den_cells]
    exact run_box hm ρ (he x) (den_fit C _ hf) _ _ _ _ _
  · -- store
    rename_i t x y
    obtain ⟨m', w', I', h1, h2, h3, h4, h5, h6, h7⟩ := store_ok (P := P) hC hY hm hw (hwe x) (hwe y) (he x) (he y) e x y rfl rfl h0
    exact ⟨.dead, m', ⟨undef, w', I', loc, L, .inr ⟨by simp [execOp, h1], rfl⟩, h2, h3, trivial, trivial, h4, h5, .refl _, .refl _ _, h6⟩, h7⟩
  · -- a literal of a slice
    split at h
    case h_2 => cases h
    rename_i el hel
    split at h
    case h_2 => cases h
    rename_i j hj
    split at h
    case h_2 => cases h
    rename_i z hz
    split at h
    case h_2 => cases h
    rename_i hn
    obtain ⟨rows, m', h1, h2⟩ := buildSlice_ok (P := P) hC hY hm hw he hwe hel hj hz (by simpa using hn) h
    exact ⟨_, _, h1, h2⟩
  · -- range
    rename_i t x
    split at h
    case h_2 => cases h
    rename_i l hl
    split at h
    case h_2 => cases h
    rename_i hs
    refine ⟨.bp m.length 0, m ++ [.iter l 0], ResT.of_res L (.refl _ _) trivial (WfM_add (x := .iter l 0) hw trivial) ?_, h⟩
    have hx := he x
    rw [hl] at hx; simp only [den, V] at hx
    have : (execOp ρ ⟨dst, .range t x, type, pos, after, guard⟩).run P w = .ok (.value (.pointer (some ⟨w.heap.size, 0, none⟩))) (w.alloc (.stringIter ⟨l.toArray⟩ 0)) := by
      simp [execOp, Instr.range, run_underlying (und_str (isStr_ok hY hs)), hx]
    rw [this, denM_add]
    refine ⟨_, _, locNew loc (denM C m).nb (.blk w.heap.size), .inl rfl, hm.alloc _ _ ?_, V_new _ _, Ext_alloc hm.imm _, locNew_ext hm _, Fr_alloc _ _⟩
    simp only [denB, RelB]
    exact ⟨fun g hg => by simp [locNew, hg], w.heap.size, by simp [locNew], heap_new _ _⟩
  · -- next
    rename_i x
    split at h
    case h_2 => cases h
    rename_i b hx
    split at h
    case h_2 => cases h
    rename_i l ps hb
    have hv := he x
    rw [hx] at hv; simp only [den, V] at hv
    have hlt : b < m.length := lt_len (C := C) (g := 0) hm (by intro e; simp [e] at hv)
    have hbx : (denM C m).bx b = .iter l ps := by simp [denM, hb, denB]
    have hsem : ∀ {d : D} {M' : Mem}, semW P ⟨fun _ => none, fun _ => none⟩ (.next x true) (fun x => den C (e x)) (denM C m) = some (d, M') → Res O I loc w ((execOp ρ ⟨dst, .next x true, type, pos, after, guard⟩).run P w) d M' := by
      intro d M' hq
      exact next_res hm he hx hb hlt hq
    by_cases hps : ps < l.length
    · rw [decide_eq_true hps, cond_true] at h
      refine ⟨.tup [.bool true, .int .i64 ps, .int .i32 (Utf8.decode ⟨l.toArray⟩ ps).1], m.put b (.iter l (ps + (Utf8.decode ⟨l.toArray⟩ ps).2)), ResT.of_res L (.refl _ _) (by simp [WfD, WfL]) (WfM_put hlt hw trivial) (hsem ?_), h⟩
      rw [denM_put hlt]
      simp only [semW, hx, den, denL, hbx, if_pos hps, denB]
    · rw [decide_eq_false hps, cond_false] at h
      refine ⟨.tup [.bool false], m, ResT.of_res L (.refl _ _) (by simp [WfD, WfL]) hw (hsem ?_), h⟩
      simp only [semW, hx, den, denL, hbx, if_neg hps]
  · -- the bytes of a string
    rename_i src dst' x
    split at h
    case h_2 => cases h
    rename_i hs
    split at h
    case h_2 => cases h
    rename_i el hel
    split at h
    case h_2 => cases h
    rename_i hu
    split at h
    case h_2 => cases h
    rename_i l hl
    have hx := he x
    rw [hl] at hx; simp only [den, V] at hx
    refine ⟨_, _, ?_, h⟩
    have := bytes_ok (P := P) (L := L) hC hY hm hw hs hel hu l
    simpa only [execOp, hx] using this
  · -- make
    rename_i t ln cp
    split at h
    case h_2 => cases h
    rename_i el hel
    split at h
    case h_2 => cases h
    rename_i j hj
    split at h
    case h_2 => cases h
    rename_i z hz
    split at h
    case h_2 => cases h
    rename_i kl n hln
    split at h
    case h_2 => cases h
    rename_i kc k hcp
    cases hq : (decide (0 ≤ n) && (decide (n ≤ k) && decide ((j.bts : Int) * k ≤ 281474976710656 ∧ k ≤ 9223372036854775807))) <;> simp only [hq, cond_true, cond_false] at h
    · cases h
    simp only [Bool.and_eq_true, decide_eq_true_eq] at hq
    have h1 := he ln
    have h2 := he cp
    rw [hln] at h1; rw [hcp] at h2
    simp only [den, V] at h1 h2
    refine ⟨_, _, ?_, h⟩
    have := make_ok (P := P) (L := L) hC hY hm hw hel hj hz kl kc n k hq.1 hq.2.1 hq.2.2.1 hq.2.2.2
    simpa only [execOp, h1, h2] using this
  · -- append
    rename_i args argTypes
    split at h
    case h_2 => cases h
    rename_i s x t t' hargs htys
    have ha : args = #[s, x] := by apply Array.ext'; simpa using hargs
    have hb : argTypes = #[t, t'] := by apply Array.ext'; simpa using htys
    subst ha; subst hb
    have hexec : (execOp ρ ⟨dst, .call ⟨.builtin .append, #[s, x], #[t, t']⟩, type, pos, after, guard⟩).run P w = (do pure (.value (← Builtin.append_ #[t, t'] type #[ρ s, ρ x])) : Sem Next).run P w := by
      simp [execOp, resolve, invoke, builtin]
    split at h
    case h_2 => cases h
    rename_i el hel
    split at h
    case h_2 => cases h
    rename_i j hj
    split at h
    case h_2 => cases h
    rename_i z hz
    rw [hexec]
    split at h
    · rename_i l hl
      split at h
      case h_2 => cases h
      rename_i hs
      split at h
      case h_2 => cases h
      rename_i hcd _
      refine app_ok (P := P) (ty := type) hC hY hm hw hel hj hz (und_str (isStr_ok hY hs)) (.inl rfl) (hwe s) (he s) ?_ h
      have hx := he x
      rw [hl] at hx; simp only [den, V] at hx
      rw [hx]
      have e1 : ∀ (c : Nat) (q : C.bt = c), C.sz c = 1 ∧ (castL q (castT C l)).map (C.encD c) = bytesD l := by
        intro c q; subst q; exact ⟨hC.bsz, bytesD_eq hC l⟩
      rw [(e1 _ hcd).1, (e1 _ hcd).2]
      exact src_str l
    · rename_i hne
      split at h
      case h_2 => cases h
      rename_i e' he'
      rw [rowsK_law, Option.bind_eq_some_iff] at h
      obtain ⟨rows, h1, h2⟩ := h
      exact app_ok (P := P) (ty := type) hC hY hm hw hel hj hz (und_elem (elemT_ok hY he')) (.inr ⟨_, rfl⟩) (hwe s) (he s) (src_of hm (he x) (rowsK_ok hw (hwe x) h1)) h2
  · cases h
where
  next_res {T : Nat → Type} {C : Cd T} {O I : Nat → Prop} {w : World} {loc : Nat → Nat → Loc} {m : MT T} {P : Program} {G : Nat → Option (List D)} {e : Operand → DT T} {ρ : Operand → Value} {x : Operand} {b : Nat} {l : List UInt8} {ps : Nat} {dst : Option Tmp} {type : TypeId} {pos : String} {after : Array Edge} {guard : Option (Nat × Bool)} {d : D} {M' : Mem}
      (hm : MRel O I loc (denM C m) w) (he : ∀ x, V I w (den C (e x)) loc (ρ x)) (hx : e x = .bp b 0) (hb : m.get b = .iter l ps) (hlt : b < m.length) (h : semW P ⟨G, fun _ => none⟩ (.next x true) (fun x => den C (e x)) (denM C m) = some (d, M')) :
      Res O I loc w ((execOp ρ ⟨dst, .next x true, type, pos, after, guard⟩).run P w) d M' := by
    have hbx : (denM C m).bx b = .iter l ps := by simp [denM, hb, denB]
    have hv := he x
    rw [hx] at hv; simp only [den, V] at hv
    have hbr := hm.box b hlt
    rw [hbx] at hbr; simp only [RelB] at hbr
    obtain ⟨h0, k, hl, hw⟩ := hbr
    simp only [hl] at hv
    have hget : (getObj k).run P w = .ok (.stringIter ⟨l.toArray⟩ ps) w := by simp [getObj, Sem.run, hw]
    simp only [semW, hx, den, hbx] at h
    split at h
    · rename_i hps
      simp only [Option.some.injEq, Prod.mk.injEq] at h
      obtain ⟨rfl, rfl⟩ := h
      let w' : World := { w with heap := w.heap.setIfInBounds k (.stringIter ⟨l.toArray⟩ (ps + (Utf8.decode ⟨l.toArray⟩ ps).2)) }
      have hset : (setObj k (.stringIter ⟨l.toArray⟩ (ps + (Utf8.decode ⟨l.toArray⟩ ps).2))).run P w = .ok () w' := by simp [setObj, Sem.run, hw, w']
      have hrun : (execOp ρ ⟨dst, .next x true, type, pos, after, guard⟩).run P w = .ok (.value (.tuple #[.bool true, .int .i64 ps, .int .i32 (Utf8.decode ⟨l.toArray⟩ ps).1])) w' := by
        simp only [execOp, Instr.next, hv, Sem.run_bind, hget, Result.andThen_ok, size_mk, if_pos hps, hset, Sem.run_pure, goInt]
      rw [hrun]
      have ho : ((denM C m).bx b).owned = true := by rw [hbx]; rfl
      have hk := hm.own b 0 k hlt ho hl
      have hoth : ∀ q, q ≠ k → w'.heap[q]? = w.heap[q]? := fun q hq => by
        simp only [w', Array.getElem?_setIfInBounds]
        rw [if_neg (Ne.symm hq)]
      have hsame : w'.heap[k]? = some (.stringIter ⟨l.toArray⟩ (ps + (Utf8.decode ⟨l.toArray⟩ ps).2)) := by
        simp only [w', Array.getElem?_setIfInBounds]
        rw [if_pos trivial, if_pos hk.2.2]
      have hext : Ext I I w w' := ⟨fun _ h => h, fun q hq => hoth q (fun e => hk.2.1 (e ▸ hq)), fun q => by
        by_cases e : q = k
        · subst e; simp [rowSize, hw]
        · simp [rowSize, hoth q e]⟩
      refine ⟨_, w', loc, .inl rfl, hm.change hlt ho (fun _ _ _ => rfl) hext (.refl _) ?_ ?_ (fun q _ hq => hoth q (fun e => hq 0 (e ▸ hl))) (by simp [w']), ?_, hext, .refl _, ⟨rfl, rfl, rfl, by simp [w'], fun q _ hq => hoth q (fun e => hq (e ▸ hk.1))⟩⟩
      · simp only [RelB]
        exact ⟨h0, k, hl, hsame⟩
      · intro g' k' hk'
        have := hm.own b g' k' hlt ho hk'
        exact ⟨this.1, this.2.1, by simpa [w'] using this.2.2, fun b' hb' h1 h2 g2 hg2 => hb' (hm.inj b' b g2 g' k' h1 hlt h2 ho hg2 hk')⟩
      · simp only [V]
        exact ⟨[.bool true, .int .i64 ps, .int .i32 (Utf8.decode ⟨l.toArray⟩ ps).1], rfl, by simp [VL, V]⟩
    · rename_i hps
      simp only [Option.some.injEq, Prod.mk.injEq] at h
      obtain ⟨rfl, rfl⟩ := h
      refine Res.of_same hm ⟨.tuple #[.bool false], ?_, ?_⟩
      · simp only [execOp, Instr.next, hv, Sem.run_bind, hget, Result.andThen_ok, size_mk, if_neg hps, Sem.run_pure]
      · simp only [V]
        exact ⟨[.bool false], rfl, by simp [VL, V]⟩
end
end Go.Abs

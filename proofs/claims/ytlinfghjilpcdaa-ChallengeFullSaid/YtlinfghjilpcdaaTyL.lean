/- make, append, bytes of a string; then: every operation that writes or makes memory. No condition. -/
import Derived.Test.YtlinfghjilpcdaaTyK
namespace Go.Abs
open Go
set_option linter.unusedSimpArgs false

section
variable {T : Nat → Type} {C : Cd T} {O I : Nat → Prop} {w : World} {loc : Nat → Nat → Loc} {L : Nat → Nat → Nat} {m : MT T} {P : Program} {Y : Nat → Option TI} {R : Type} {G : Nat → Option (List D)}

/-- a new block that holds the rows; a place behind its cells may be marked. -/
theorem arr_newF {M : Mem} (hm : MRel O I loc M w) {s n cap : Nat} {rows : List (List D)} {vs : List Value} (el : TypeId) (fz : Nat × Nat) (hs : ∀ row ∈ rows, row.length = s) (hv : VL I w rows.flatten free vs) (h1 : ∀ x ∈ vs, x.oneCell' = true) (rest : List Value) (hfz : Unfz fz (vs ++ rest).length) (hcap : cap * s = (vs ++ rest).length) (hle : n ≤ cap) :
    Res O I loc w (.ok (.value (.slice (some ⟨w.heap.size, 0, none⟩) n cap)) (w.alloc (.cells (vs ++ rest).toArray el fz))) (.bs M.nb 0 s 0 n) (M.add (.arr 0 s rows)) := by
  have hvl := VL_length hv
  have he := Ext_alloc hm.imm (.cells (vs ++ rest).toArray el fz)
  refine ⟨_, _, locNew loc M.nb (.blk w.heap.size), .inl rfl, hm.alloc _ _ ?_, ?_, he, locNew_ext hm _, Fr_alloc _ _⟩
  · simp only [RelB]
    refine ⟨⟨fun g hg => by omega, fun g hg => by simp [locNew]; omega⟩, .inr ⟨w.heap.size, _, el, fz, by simp [locNew], heap_new _ _, by simpa using hfz, ?_, ?_⟩⟩
    · rw [flatten_length rows hs] at hvl
      simp; omega
    · refine VR_of_list hs (VL_mono he _ free free vs (.refl _) hv) h1 fun j x hj => ?_
      simp only [World.cell?, heap_new, Nat.zero_add]
      have hj' : j < vs.length := by
        rcases Nat.lt_or_ge j vs.length with h | h
        · exact h
        · rw [List.getElem?_eq_none h] at hj; cases hj
      simp [List.getElem?_append_left hj', hj]
  · simp only [V, locNew, if_true]
    exact ⟨0, cap, rfl, hle, .inr (by simp), by rw [rowSize, heap_new]; simpa using Nat.le_of_eq hcap⟩

/-- a new array's box, its rows said as elements. -/
theorem newArr_ok {c n : Nat} {rowsD : List (List D)} {rows : List (T c)} {r : Result Next} (hm : MRel O I loc (denM C m) w) (hw : WfM L m) (hr : Rw C c rowsD rows) (hn : rows.length = n) (h : Res O I loc w r (.bs (denM C m).nb 0 (C.sz c) 0 n) ((denM C m).add (.arr 0 (C.sz c) rowsD))) :
    ResT C O I loc L w r (.bw m.length 0 c n) (m ++ [.arr 0 c rows]) := by
  obtain ⟨v0, w0, loc', c1, c2, c3, c4, c5, c6⟩ := h
  have hnb : (denM C m).nb = m.length := rfl
  have hwk := c2.weakR (b := m.length) (g := 0) (s := C.sz c) (rows := rowsD) (rows' := rows.map (C.encD c)) (by simp [Mem.add, hnb]) (by simp [Mem.add, upd, hnb]) hr.imp
  refine ⟨v0, w0, I, loc', updL L m.length 0 n, c1, ?_, WfM_addL hm hw (by simp [WfB, updL, hn]), ?_, by simp [WfD, updL], c4, fun _ h => .inl h, c5, LExt.upd (hm.free _ _ (Nat.le_refl _)), c6⟩
  · have e : ((denM C m).add (.arr 0 (C.sz c) rowsD)).set m.length (.arr 0 (C.sz c) (rows.map (C.encD c))) = denM C (m ++ [.arr 0 c rows]) := by
      rw [denM_add]
      simp only [Mem.add, Mem.set, denB, hnb, Mem.mk.injEq, true_and]
      funext b'; simp only [upd]; split <;> rfl
    rw [← e]; exact hwk
  · exact c3

theorem info_of {t n : Nat} (h : tsz P t = some n) : ∃ i, P.info? t = some i ∧ i.size = n := by
  unfold tsz at h
  rw [Option.map_eq_some_iff] at h
  exact h

theorem make_ok (hC : CdOk C) (hY : TysOk P Y) (hm : MRel O I loc (denM C m) w) (hw : WfM L m) {t el : Nat} {j : TI} {z : T j.code} (ht : elemT Y t = some el) (hj : Y el = some j) (hz : zeroE C j = some z) (kl kc : IntKind) (n k : Int)
    (h1 : 0 ≤ n) (h2 : n ≤ k) (h3 : (j.bts : Int) * k ≤ 281474976710656) (h4 : k ≤ 9223372036854775807) :
    ResT C O I loc L w ((do pure (.value (← Instr.makeSlice t (.int kl n) (.int kc k))) : Sem Next).run P w) (.bw m.length 0 j.code n.toNat) (m ++ [.arr 0 j.code (List.replicate n.toNat z)]) := by
  obtain ⟨row, z1, z2, z3, z4, z5⟩ := zeroE_ok hC hY hj hz
  obtain ⟨zv, q1, q2, q3, q4, q5, q6⟩ := zrow_some z1 w
  obtain ⟨i, hi, his⟩ := info_of (hY el j hj).sz
  have hib : i.bytes = j.bts := by
    have := (hY el j hj).bts
    unfold tbytes at this
    rw [hi] at this
    simpa using this
  have hzero : i.zero = some zv := by
    have : (zeroValue el).run P w = .ok zv w := q1
    unfold zeroValue typeInfo at this
    cases hzz : i.zero with
    | none => simp [hi, hzz] at this
    | some z0 => simp [hi, hzz] at this; rw [this]
  have hrun := run_make (P := P) w t el i zv (und_elem (elemT_ok hY ht)) hi hzero kl kc n k h1 h2 (by rw [hib]; exact h3) h4
  have hb : (do pure (.value (← Instr.makeSlice t (.int kl n) (.int kc k))) : Sem Next).run P w = .ok (.value (.slice (some ⟨w.heap.size, 0, none⟩) n.toNat k.toNat)) (w.alloc (.cells (madeCells zv.cells (k.toNat * i.size)) el)) := by
    simp [hrun]
  rw [hb]
  obtain ⟨hc1, hc2⟩ := V_cells (I := I) (w := w) (loc := free) (ofV_V zv) q5
  have hflat : ∀ n, VL I w (List.replicate n row).flatten free (List.replicate n zv.cells.toList).flatten := by
    intro n
    induction n with
    | zero => simp [VL]
    | succ n ih => simp only [List.replicate_succ, List.flatten_cons]; rw [q2]; exact VL_append hc1 (by rw [q2] at ih; exact ih)
  have hone : ∀ n, ∀ x ∈ (List.replicate n zv.cells.toList).flatten, x.oneCell' = true := by
    intro n x hx
    rw [List.mem_flatten] at hx
    obtain ⟨l, hl, hx⟩ := hx
    rw [List.eq_of_mem_replicate hl] at hx
    exact hc2 x hx
  have hmade : madeCells zv.cells (k.toNat * i.size) = ((List.replicate n.toNat zv.cells.toList).flatten ++ (List.replicate (k.toNat - n.toNat) zv.cells.toList).flatten).toArray := by
    rw [← List.flatten_append, List.replicate_append_replicate]
    have e : n.toNat + (k.toNat - n.toNat) = k.toNat := by omega
    rw [e, his]
    unfold madeCells
    apply Array.ext'
    have := rangeMod zv.cells.toList k.toNat
    simp only [Array.length_toList, q6, Array.toArray_toList] at this
    simpa [Array.toList_range, q6] using this
  rw [hmade]
  have hlen : ∀ n, ((List.replicate n zv.cells.toList).flatten).length = n * C.sz j.code := by
    intro n
    rw [List.length_flatten]; simp [List.map_replicate, List.sum_replicate_nat, q6, z5]
  refine newArr_ok hm hw (Rw.rep n.toNat z2 z3 z4) (by simp) ?_
  refine arr_newF hm (s := C.sz j.code) (n := n.toNat) (cap := k.toNat) (rows := List.replicate n.toNat row) el (0, 0) (fun r hr => by rw [List.eq_of_mem_replicate hr]; exact z2) (hflat _) (hone _) _ (fun o _ => by simp) ?_ (by omega)
  rw [List.length_append, hlen, hlen, ← Nat.add_mul]
  congr 1; omega

theorem bytes_ok (hC : CdOk C) (hY : TysOk P Y) (hm : MRel O I loc (denM C m) w) (hw : WfM L m) {src dst el : Nat} (hs : isStr Y src = true) (hd : elemT Y dst = some el) (hu : isU8 Y el = true) (l : List UInt8) :
    ResT C O I loc L w ((do pure (.value (← convert src dst (.string ⟨l.toArray⟩))) : Sem Next).run P w) (.bw m.length 0 C.bt l.length) (m ++ [.arr 0 C.bt (castT C l)]) := by
  have hint : tint P el = some .u8 := by
    unfold isU8 at hu
    split at hu
    · rename_i i hi
      split at hu
      · rename_i hk; exact (hY el i hi).int _ hk
      · cases hu
    · cases hu
  have hrun := run_bytes_of_string (P := P) w src dst el ⟨l.toArray⟩ (und_str (isStr_ok hY hs)) (und_elem (elemT_ok hY hd)) (und_int hint)
  rw [size_mk] at hrun
  rw [Sem.run_bind, hrun, Result.andThen_ok, Sem.run_pure]
  let cap := grownCap w l.length 0 el
  have hcl : l.length ≤ cap := by
    show l.length ≤ (Question.appendCap l.length 0 el).cut _
    simp [Question.cut]
  have hrow : bytesRow ⟨l.toArray⟩ cap = ((l.map fun (b : UInt8) => Value.int .u8 b.toNat) ++ List.replicate (cap - l.length) (Value.int .u8 0)).toArray := by
    unfold bytesRow
    apply Array.ext'
    simp [size_mk]
  have hm2 : MRel O I loc (denM C m) w.drew := MRel.of_heap (w := w) rfl hm
  have hv : VL I w.drew (bytesD l).flatten free (l.map fun (b : UInt8) => Value.int .u8 b.toNat) := by
    clear hrun hrow hcl
    unfold bytesD
    induction l with
    | nil => simp [VL]
    | cons b r ih => simp only [List.map_cons, List.flatten_cons, List.cons_append, List.nil_append, VL]; exact ⟨_, _, rfl, by simp [V], ih⟩
  have hrw : Rw C C.bt (bytesD l) (castT C l) := by
    have e := bytesD_eq hC l
    refine ⟨by rw [← e]; simp, fun i row x hi hx => ?_⟩
    rw [← e, List.getElem?_map, hx] at hi
    simp only [Option.map_some, Option.some.injEq] at hi
    subst hi
    refine ⟨hC.len _ _, ?_, .refl _⟩
    rw [← hC.enc]; exact pureTL_den C _ (hC.epure _ _)
  have hlen : (castT C l).length = l.length := by
    have := congrArg List.length (bytesD_eq hC l)
    simpa [bytesD] using this
  show ResT C O I loc L w (.ok (.value (.slice (some ⟨w.heap.size, 0, none⟩) l.length cap)) (w.drew.alloc (.cells (bytesRow ⟨l.toArray⟩ cap) el ((bytesRow ⟨l.toArray⟩ cap).size, (bytesRow ⟨l.toArray⟩ cap).size + 1)))) _ _
  rw [hrow]
  refine newArr_ok hm hw hrw hlen ?_
  rw [hC.bsz]
  refine Res.from (w1 := w.drew) rfl rfl rfl rfl ?_
  have := arr_newF hm2 (s := 1) (n := l.length) (cap := cap) (rows := bytesD l) el ((List.toArray ((l.map fun (b : UInt8) => Value.int .u8 b.toNat) ++ List.replicate (cap - l.length) (Value.int .u8 0))).size, (List.toArray ((l.map fun (b : UInt8) => Value.int .u8 b.toNat) ++ List.replicate (cap - l.length) (Value.int .u8 0))).size + 1) (fun r hr => by
    unfold bytesD at hr
    rw [List.mem_map] at hr
    obtain ⟨b, _, rfl⟩ := hr; rfl) hv (fun x hx => by
      rw [List.mem_map] at hx
      obtain ⟨b, _, rfl⟩ := hx; rfl) (List.replicate (cap - l.length) (Value.int .u8 0)) (fun o ho => by simp at ho ⊢; omega) (by simp; omega) hcl
  rw [show w.drew.heap.size = w.heap.size from rfl] at this
  exact this

theorem castT_len (hC : CdOk C) (l : List UInt8) : (castT C l).length = l.length := by
  have := congrArg List.length (bytesD_eq hC l)
  simpa [bytesD] using this

theorem WfM_gen (hm : MRel O I loc (denM C m) w) (hw : WfM L m) {b g c n : Nat} {l : List (T c)} (hb : b < m.length) (hf : loc b (g + 1) = .free) (hl : l.length = n) : WfM (updL L b (g + 1) n) (m.put b (.arr (g + 1) c l)) := fun b' => by
  rw [get_put hb]
  split
  · rename_i e; subst e; simp [WfB, updL, hl]
  · rcases Nat.lt_or_ge b' m.length with h | h
    · exact WfM_ext hm (LExt.upd hf) hw b' h
    · rw [get_none h]; trivial

theorem app_ok (hC : CdOk C) (hY : TysOk P Y) (hm : MRel O I loc (denM C m) w) (hw : WfM L m) {t t' ty el : Nat} {dsc : TypeDesc} {j : TI} {z : T j.code} (ht : elemT Y t = some el) (hj : Y el = some j) (hz : zeroE C j = some z) (ht' : P.underlying t' = some dsc) (hni : dsc = .string ∨ ∃ e, dsc = .slice e)
    {s : DT T} {u x : Value} (hws : WfD L s) (hs : V I w (den C s) loc u) {rows : List (T j.code)} (hsrc : ∃ vs, Src P I w (C.sz j.code) (rows.map (C.encD j.code)) vs x) {K : DT T → MT T → Option R} {r : R} (h : appK m j.bts j.code s rows K = some r) :
    ∃ d m', ResT C O I loc L w ((do pure (.value (← Builtin.append_ #[t, t'] ty #[u, x])) : Sem Next).run P w) d m' ∧ K d m' = some r := by
  obtain ⟨row, z1, z2, z3, z4, z5⟩ := zeroE_ok hC hY hj hz
  have z1' := z1
  rw [z5] at z1'
  have hsz := (hY el j hj).sz
  have hby := (hY el j hj).bts
  have hel := elemT_ok hY ht
  let more : Nat → Option (List (List D)) := fun sz => if sz = C.sz j.code then some (rows.map (C.encD j.code)) else none
  have hmore : ∀ sz rows', more sz = some rows' → ∃ vs, Src P I w sz rows' vs x := by
    intro sz rows' hq
    simp only [more] at hq
    split at hq
    · rename_i e; subst e
      simp only [Option.some.injEq] at hq; subst hq; exact hsrc
    · cases hq
  have key : ∀ {d : D} {M' : Mem}, appendW P (denM C m) t (den C s) more = some (d, M') → Res O I loc w ((do pure (.value (← Builtin.append_ #[t, t'] ty #[u, x])) : Sem Next).run P w) d M' := fun hq => run_appendW (ty := ty) hm ht' hni hs hmore hq
  unfold appK at h
  split at h
  · cases hsm : small rows.length j.bts <;> simp only [hsm, cond_true, cond_false] at h
    · cases h
    refine ⟨_, _, ?_, h⟩
    have hq : appendW P (denM C m) t (den C (.nils : DT T)) more = some (.bs (denM C m).nb 0 j.sz 0 rows.length, (denM C m).add (.arr 0 j.sz (rows.map (C.encD j.code)))) := by
      simp only [appendW, hel, hsz, hby, z1', more, z5, if_true, den, List.length_map, hsm]
    refine (key hq).elim fun v hv => ?_
    obtain ⟨w', loc', c1, c2, c3, c4, c5, c6⟩ := hv
    refine ⟨v, w', I, loc', updL L m.length 0 rows.length, c1, ?_, WfM_addL hm hw (by simp [WfB, updL]), ?_, by simp [WfD, updL], c4, fun _ h => .inl h, c5, LExt.upd (hm.free _ _ (Nat.le_refl _)), c6⟩
    · rw [denM_add]; simp only [denB]; rw [← z5]; exact c2
    · simp only [den]; rw [← z5]; exact c3
  · rename_i b g c' n
    split at h
    case h_2 => cases h
    rename_i hc
    have hc := Nat.eq_of_beq_eq_true hc
    subst hc
    split at h
    case h_2 => cases h
    rename_i l hl
    have hb := boxA_some hl
    have hlt : b < m.length := by
      simp only [den, V] at hs
      exact lt_len (C := C) (g := g) hm (by intro e; simp [e] at hs)
    have hwb := hw b
    rw [hb] at hwb
    simp only [WfB] at hwb
    simp only [WfD] at hws
    have hn : n = l.length := by rw [← hws, hwb]
    have hbx : (denM C m).bx b = .arr g j.sz (l.map (C.encD j.code)) := by simp [denM, hb, denB, z5]
    cases hsm : small (l.length + rows.length) j.bts <;> simp only [hsm, cond_true, cond_false] at h
    · cases h
    refine ⟨_, _, ?_, h⟩
    have hq : appendW P (denM C m) t (den C (.bw b g j.code n : DT T)) more = some (.bs b (g + 1) j.sz 0 (n + rows.length), (denM C m).set b (.arr (g + 1) j.sz ((l.map (C.encD j.code)).take n ++ rows.map (C.encD j.code)))) := by
      simp only [appendW, hel, hsz, hby, z1', more, z5, if_true, den, List.length_map, hbx, true_and]
      rw [if_pos ⟨by omega, by rw [hn]; exact hsm⟩]
    have hfree : loc b (g + 1) = .free := by
      have := hm.box b hlt
      rw [hbx] at this
      simp only [RelB] at this
      exact this.1.2 (g + 1) (by omega)
    have hrows : (l.map (C.encD j.code)).take n ++ rows.map (C.encD j.code) = (l ++ rows).map (C.encD j.code) := by
      have : n = (l.map (C.encD j.code)).length := by simp [hn]
      rw [this, List.take_length, List.map_append]
    obtain ⟨v, w', loc', c1, c2, c3, c4, c5, c6⟩ := key hq
    refine ⟨v, w', I, loc', updL L b (g + 1) (l ++ rows).length, c1, ?_, WfM_gen hm hw hlt hfree rfl, ?_, by simp [WfD, updL], c4, fun _ h => .inl h, c5, LExt.upd hfree, c6⟩
    · rw [denM_put hlt]; simp only [denB]; rw [← z5, ← hrows]; exact c2
    · simp only [den]; rw [← z5, List.length_append, ← hn]; exact c3
  · rename_i b g c' n
    split at h
    case h_2 => cases h
    rename_i hc
    have hc := Nat.eq_of_beq_eq_true hc
    subst hc
    split at h
    case h_2 => cases h
    rename_i l hl
    have hb := boxA_some hl
    have hlt : b < m.length := by
      simp only [den, V] at hs
      exact lt_len (C := C) (g := g) hm (by intro e; simp [e] at hs)
    have hbx : (denM C m).bx b = .arr g j.sz (l.map (C.encD j.code)) := by simp [denM, hb, denB, z5]
    cases hsm : (decide (n ≤ l.length) && small (n + rows.length) j.bts) <;> simp only [hsm, cond_true, cond_false] at h
    · cases h
    simp only [Bool.and_eq_true, decide_eq_true_eq] at hsm
    refine ⟨_, _, ?_, h⟩
    have hq : appendW P (denM C m) t (den C (.bs b g j.code 0 n : DT T)) more = some (.bs b (g + 1) j.sz 0 (n + rows.length), (denM C m).set b (.arr (g + 1) j.sz ((l.map (C.encD j.code)).take n ++ rows.map (C.encD j.code)))) := by
      simp only [appendW, hel, hsz, hby, z1', more, z5, if_true, den, List.length_map, hbx, true_and]
      rw [if_pos ⟨hsm.1, hsm.2⟩]
    have hfree : loc b (g + 1) = .free := by
      have := hm.box b hlt
      rw [hbx] at this
      simp only [RelB] at this
      exact this.1.2 (g + 1) (by omega)
    have hrows : (l.map (C.encD j.code)).take n ++ rows.map (C.encD j.code) = (l.take n ++ rows).map (C.encD j.code) := by
      rw [List.map_append, List.map_take]
    have hlen : (l.take n ++ rows).length = n + rows.length := by rw [List.length_append, List.length_take, Nat.min_eq_left hsm.1]
    obtain ⟨v, w', loc', c1, c2, c3, c4, c5, c6⟩ := key hq
    refine ⟨v, w', I, loc', updL L b (g + 1) (l.take n ++ rows).length, c1, ?_, WfM_gen hm hw hlt hfree rfl, ?_, by simp [WfD, updL], c4, fun _ h => .inl h, c5, LExt.upd hfree, c6⟩
    · rw [denM_put hlt]; simp only [denB]; rw [← z5, ← hrows]; exact c2
    · simp only [den]; rw [← z5, hlen]; exact c3
  · cases h
end
end Go.Abs

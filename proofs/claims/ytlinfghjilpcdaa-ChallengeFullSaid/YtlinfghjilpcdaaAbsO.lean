/- Every operation is followed by its abstract one, calls by their contracts. No condition. -/
import Derived.Test.YtlinfghjilpcdaaAbsN
import Derived.Laws.BytesString
import Derived.Laws.BytesArg
namespace Go.Abs
open Go
set_option linter.unusedSimpArgs false

section
variable {P : Program} {O I : Nat → Prop} {w : World} {loc : Nat → Nat → Loc} {m : Mem}

def locJoin (loc : Nat → Nat → Loc) (n : Nat) (loc' : Nat → Nat → Loc) : Nat → Nat → Loc := fun b g => if b < n then loc b g else loc' (b - n) g

mutual
theorem V_shift {J K : Nat → Prop} (hJ : ∀ k, J k → K k) {loc' : Nat → Nat → Loc} (n : Nat) : ∀ (d : D) (v : Value), V J w d loc' v → V K w (d.shift n) (locJoin loc n loc') v
  | .dead, _, _ => trivial
  | .bool _, _, h => by simpa only [V, D.shift] using h
  | .int _ _, _, h => by simpa only [V, D.shift] using h
  | .str _, _, h => by simpa only [V, D.shift] using h
  | .lit _, _, h => by simpa only [V, D.shift] using h
  | .nilp, _, h => by simpa only [V, D.shift] using h
  | .nils, _, h => by simpa only [V, D.shift] using h
  | .rs s rows, v, h => V_mono (imm_all hJ) (.rs s rows) free _ v (.free _) (by simpa only [V] using h)
  | .rp cs, v, h => V_mono (imm_all hJ) (.rp cs) free _ v (.free _) (by simpa only [V] using h)
  | .bp b off, v, h => by
    simp only [V, D.shift, locJoin] at h ⊢
    rw [if_neg (by omega), Nat.add_sub_cancel]; exact h
  | .ap b g s i off, v, h => by
    simp only [V, D.shift, locJoin] at h ⊢
    rw [if_neg (by omega), Nat.add_sub_cancel]; exact h
  | .bs b g s i k, v, h => by
    simp only [V, D.shift, locJoin] at h ⊢
    rw [if_neg (by omega), Nat.add_sub_cancel]; exact h
  | .agg cs, v, h => by
    simp only [V, D.shift] at h ⊢
    obtain ⟨vs, rfl, h1, h2⟩ := h
    exact ⟨vs, rfl, h1, VL_shift hJ n cs vs h2⟩
  | .tup cs, v, h => by
    simp only [V, D.shift] at h ⊢
    obtain ⟨vs, rfl, h2⟩ := h
    exact ⟨vs, rfl, VL_shift hJ n cs vs h2⟩
  | .fn f cs, v, h => by
    simp only [V, D.shift] at h ⊢
    obtain ⟨vs, rfl, h2⟩ := h
    exact ⟨vs, rfl, VL_shift hJ n cs vs h2⟩
theorem VL_shift {J K : Nat → Prop} (hJ : ∀ k, J k → K k) {loc' : Nat → Nat → Loc} (n : Nat) : ∀ (ds : List D) (vs : List Value), VL J w ds loc' vs → VL K w (shiftL n ds) (locJoin loc n loc') vs
  | [], _, h => by simpa only [VL, shiftL] using h
  | d :: r, vs, h => by
    simp only [VL, shiftL] at h ⊢
    obtain ⟨v, vr, rfl, h1, h2⟩ := h
    exact ⟨v, vr, rfl, V_shift hJ n d v h1, VL_shift hJ n r vr h2⟩
end

theorem Ext_of_Fr {w' : World} {K : Nat → Prop} (hf : Fr none' w w') (hi : ∀ k, I k → k < w.heap.size) (hK : ∀ k, I k → K k) : Ext I K w w' := by
  refine ⟨hK, fun k hk => hf.block k (hi k hk) (fun h => h), fun k => ?_⟩
  rcases Nat.lt_or_ge k w.heap.size with h | h
  · simp only [rowSize, hf.block k h (fun h => h)]; exact Nat.le_refl _
  · have : w.heap[k]? = none := Array.getElem?_eq_none h
    simp [rowSize, this]

theorem MRel.step {w' : World} (hm : MRel O I loc m w) (hf : Fr none' w w') : MRel O I loc m w' := by
  have he := Ext_of_Fr hf hm.imm (fun _ h => h)
  refine ⟨fun b hb => RelB_mono he (.refl _) (fun _ => rfl) (fun ho g k hk => ?_) (hm.box b hb), hm.free, fun b g k hb ho hk => ?_, hm.inj, fun k hk => ?_, fun k hk => hm.up k ?_⟩
  · exact hf.block k (hm.own b g k hb ho hk).2.2 (fun h => h)
  · have := hm.own b g k hb ho hk
    exact ⟨this.1, this.2.1, Nat.lt_of_lt_of_le this.2.2 hf.size⟩
  · exact Nat.lt_of_lt_of_le (hm.imm k hk) hf.size
  · exact Nat.le_trans hf.size hk

theorem Box.shift_owned (n : Nat) (b : Box) : (b.shift n).owned = b.owned := by cases b <;> rfl

theorem RelB_shift {J K : Nat → Prop} (hJ : ∀ k, J k → K k) {loc' : Nat → Nat → Loc} {n b : Nat} {x : Box} (h : RelB J w loc' b x) : RelB K w (locJoin loc n loc') (b + n) (x.shift n) := by
  have hl : ∀ g, locJoin loc n loc' (b + n) g = loc' b g := fun g => by unfold locJoin; rw [if_neg (by omega), Nat.add_sub_cancel]
  have he : Ext J K w w := imm_all hJ
  cases x with
  | gone => simp only [RelB, Box.shift] at h ⊢; intro g; rw [hl]; exact h g
  | lent => trivial
  | var cs =>
    simp only [RelB, Box.shift] at h ⊢
    obtain ⟨h0, k, c, el, fz, h1, h2, h3, h4, h5⟩ := h
    exact ⟨fun g hg => by rw [hl]; exact h0 g hg, k, c, el, fz, by rw [hl]; exact h1, h2, h3, h4, VL_shift hJ n cs _ h5⟩
  | arr g s rows =>
    simp only [RelB, Box.shift] at h ⊢
    refine ⟨⟨fun g' hg => by rw [hl]; exact h.1.1 g' hg, fun g' hg => by rw [hl]; exact h.1.2 g' hg⟩, ?_⟩
    rcases h.2 with ⟨h1, h2⟩ | ⟨k, c, el, fz, h1, h2, h3, h4, h5⟩
    · exact .inl ⟨by rw [hl]; exact h1, h2⟩
    · exact .inr ⟨k, c, el, fz, by rw [hl]; exact h1, h2, h3, h4, VR_mono he s rows k 0 rfl h5⟩
  | frz g s rows =>
    simp only [RelB, Box.shift] at h ⊢
    refine ⟨⟨fun g' hg => by rw [hl]; exact h.1.1 g' hg, fun g' hg => by rw [hl]; exact h.1.2 g' hg⟩, ?_⟩
    rcases h.2 with ⟨h1, h2⟩ | ⟨k, h1, h2, h3⟩
    · exact .inl ⟨by rw [hl]; exact h1, h2⟩
    · exact .inr ⟨k, by rw [hl]; exact h1, hJ k h2, VR_mono he s rows k 0 rfl h3⟩
  | iter l pos =>
    simp only [RelB, Box.shift] at h ⊢
    obtain ⟨h0, k, h1, h2⟩ := h
    exact ⟨fun g hg => by rw [hl]; exact h0 g hg, k, by rw [hl]; exact h1, h2⟩

/-- the answer's boxes beside the state's own. -/
theorem MRel.join {J K : Nat → Prop} {w0 : World} {loc' : Nat → Nat → Loc} {bx : List Box} (hm : MRel O I loc m w) (hm2 : MRel (fun k => w0.heap.size ≤ k) J loc' ⟨bx.length, bxOf bx⟩ w)
    (hI : ∀ k, I k → K k) (hJ : ∀ k, J k → K k) (hK : ∀ k, K k → k < w.heap.size) (hO : ∀ k, w0.heap.size ≤ k → O k)
    (hold : ∀ b g k, b < m.nb → (m.bx b).owned = true → loc b g = .blk k → k < w0.heap.size ∧ ¬ K k) (hnew : ∀ k, w0.heap.size ≤ k → ¬ J k → ¬ K k) :
    MRel O K (locJoin loc m.nb loc') (m.join bx) w ∧ LocExt loc (locJoin loc m.nb loc') := by
  have hl1 : ∀ b g, b < m.nb → locJoin loc m.nb loc' b g = loc b g := fun b g h => by unfold locJoin; rw [if_pos h]
  have hl2 : ∀ b g, ¬ b < m.nb → locJoin loc m.nb loc' b g = loc' (b - m.nb) g := fun b g h => by unfold locJoin; rw [if_neg h]
  have hext : LocExt loc (locJoin loc m.nb loc') := fun b g => by
    by_cases h : b < m.nb
    · exact .inr (.inr (hl1 b g h))
    · exact .inl (hm.free b g (by omega))
  have hb1 : ∀ b, b < m.nb → (m.join bx).bx b = m.bx b := fun b h => by simp [Mem.join, h]
  have hb2 : ∀ b, ¬ b < m.nb → (m.join bx).bx b = (bxOf bx (b - m.nb)).shift m.nb := fun b h => by simp [Mem.join, h]
  have hnb : (m.join bx).nb = m.nb + bx.length := rfl
  refine ⟨⟨fun b hb => ?_, fun b g hb => ?_, fun b g k hb ho hk => ?_, fun b b' g g' k hb hb' ho ho' hk hk' => ?_, hK, hm.up⟩, hext⟩
  · by_cases h : b < m.nb
    · rw [hb1 b h]
      exact RelB_mono (imm_all hI) hext (fun g => hl1 b g h) (fun _ _ _ _ => rfl) (hm.box b h)
    · rw [hb2 b h]
      have := RelB_shift (loc := loc) (n := m.nb) hJ (hm2.box (b - m.nb) (by simp only; omega))
      rwa [Nat.sub_add_cancel (by omega)] at this
  · rw [hl2 b g (by omega)]
    exact hm2.free _ g (by simp only; omega)
  · by_cases h : b < m.nb
    · rw [hb1 b h] at ho
      rw [hl1 b g h] at hk
      have h1 := hm.own b g k h ho hk
      exact ⟨h1.1, (hold b g k h ho hk).2, h1.2.2⟩
    · rw [hb2 b h, Box.shift_owned] at ho
      rw [hl2 b g h] at hk
      have h1 := hm2.own (b - m.nb) g k (by simp only; omega) ho hk
      exact ⟨hO k h1.1, hnew k h1.1 h1.2.1, h1.2.2⟩
  · by_cases h : b < m.nb
    · by_cases h' : b' < m.nb
      · rw [hb1 b h] at ho
        rw [hb1 b' h'] at ho'
        rw [hl1 b g h] at hk
        rw [hl1 b' g' h'] at hk'
        exact hm.inj b b' g g' k h h' ho ho' hk hk'
      · rw [hb1 b h] at ho
        rw [hb2 b' h', Box.shift_owned] at ho'
        rw [hl1 b g h] at hk
        rw [hl2 b' g' h'] at hk'
        have h1 := (hold b g k h ho hk).1
        have h2 : w0.heap.size ≤ k := (hm2.own (b' - m.nb) g' k (by simp only; omega) ho' hk').1
        omega
    · by_cases h' : b' < m.nb
      · rw [hb2 b h, Box.shift_owned] at ho
        rw [hb1 b' h'] at ho'
        rw [hl2 b g h] at hk
        rw [hl1 b' g' h'] at hk'
        have h1 := (hold b' g' k h' ho' hk').1
        have h2 : w0.heap.size ≤ k := (hm2.own (b - m.nb) g k (by simp only; omega) ho hk).1
        omega
      · rw [hb2 b h, Box.shift_owned] at ho
        rw [hb2 b' h', Box.shift_owned] at ho'
        rw [hl2 b g h] at hk
        rw [hl2 b' g' h'] at hk'
        have := hm2.inj (b - m.nb) (b' - m.nb) g g' k (by simp only; omega) (by simp only; omega) ho ho' hk hk'
        omega

theorem Glob_mono {G : Nat → Option (List D)} {I' : Nat → Prop} {w' : World} (h : Glob G I w) (he : Ext I I' w w') : Glob G I' w' := fun g cs hg => by
  obtain ⟨h1, h2⟩ := h g cs hg
  exact ⟨he.imm g h1, VC_mono he cs g 0 (he.same g h1) h2⟩

def SpecsOk (P : Program) (Sp : Specs) : Prop := ∀ f k F, Sp.fn f = some (k, F) → Sound P Sp.glob f k F

theorem Fr.weaken {w' : World} (h : Fr none' w w') : Fr O w w' := ⟨h.os, h.tape, h.output, h.size, fun b hb _ => h.block b hb (fun h => h)⟩

/-- an operation is followed. -/
def Follows (P : Program) (Sp : Specs) (O I : Nat → Prop) (loc : Nat → Nat → Loc) (w : World) (o : Oper) (r : Result Next) (d : D) (m' : Mem) : Prop :=
  ∀ (a : Act) (next : Act → World → Prop) (Q : Exit → Act → World → Prop), (∀ v w' I' loc', MRel O I' loc' m' w' → Glob Sp.glob I' w' → V I' w' d loc' v → Ext I I' w w' → (∀ k, I' k → I k ∨ w.heap.size ≤ k) → LocExt loc loc' → Fr O w w' → next (a.put o.dst v) w') →
    o.upon P a next Q r

theorem Follows.of_res {Sp : Specs} {o : Oper} {r : Result Next} {d : D} {m' : Mem} (hG : Glob Sp.glob I w) (h : Res O I loc w r d m') : Follows P Sp O I loc w o r d m' := by
  obtain ⟨v, w', loc', h1, h2, h3, h4, h5, h6⟩ := h
  intro a next Q hn
  have := hn v w' I loc' h2 (Glob_mono hG h4) h3 h4 (fun _ h => .inl h) h5 h6
  rcases h1 with rfl | ⟨rfl, rfl⟩
  · exact this
  · exact this

theorem run_call {ρ : Operand → Value} {f : Operand} {args : Array Operand} {at' : Array TypeId} {k : Nat} {vs : List Value} (hf : ρ f = .func (.func k) #[] vs.toArray)
    (hb : ∃ fn, P.funcs[k]? = some fn ∧ fn.body.isSome = true ∧ (fn.name == "runtime.NumGoroutine") = false) (dst : Option Tmp) (ty : TypeId) (pos : String) (af : Array Edge) (gd : Option (Nat × Bool)) :
    (execOp ρ ⟨dst, .call ⟨.value f, args, at'⟩, ty, pos, af, gd⟩).run P w = .ok (.enter k (args.toList.map ρ ++ vs).toArray) w := by
  obtain ⟨fn, h1, h2, h3⟩ := hb
  have hn : fn.body.isNone = false := by cases h : fn.body <;> simp_all
  have : args.map ρ ++ vs.toArray = (args.toList.map ρ ++ vs).toArray := by apply Array.ext'; simp
  simp only [execOp, resolve, hf, Deferred.ofValue, Sem.run_bind, Sem.run_pure, Result.andThen_ok, invoke, callFunc, run_program, h1, h3, Bool.false_eq_true, if_false, hn, Array.empty_append, this]

theorem call_ok {Sp : Specs} (hSp : SpecsOk P Sp) (hm : MRel O I loc m w) (hG : Glob Sp.glob I w) {e : Operand → D} {ρ : Operand → Value} (he : ∀ x, V I w (e x) loc (ρ x)) {f : Operand} {args : Array Operand} {at' : Array TypeId}
    {dst : Option Tmp} {ty : TypeId} {pos : String} {af : Array Edge} {gd : Option (Nat × Bool)} {k : Nat} {cap : List D} {kind : Nat} {F : List D → Option (D × List Box)} {ds : List D} {d : D} {bx : List Box}
    (hf : e f = .fn k cap) (hs : Sp.fn k = some (kind, F)) (hF : F ds = some (d, bx))
    (hds : (kind ≤ 1 ∧ snapL m 8 (args.toList.map e ++ cap) = some ds) ∨ (¬ kind ≤ 1 ∧ pureL (args.toList.map e ++ cap) = true ∧ ds = args.toList.map e ++ cap)) :
    Follows P Sp O I loc w ⟨dst, .call ⟨.value f, args, at'⟩, ty, pos, af, gd⟩ ((execOp ρ ⟨dst, .call ⟨.value f, args, at'⟩, ty, pos, af, gd⟩).run P w) (d.shift m.nb) (m.join bx) := by
  have hv := he f
  rw [hf] at hv; simp only [V] at hv
  obtain ⟨vs, hv1, hv2⟩ := hv
  obtain ⟨hb, hS⟩ := hSp k kind F hs
  rw [run_call hv1 hb]
  have hall : VL I w (args.toList.map e ++ cap) loc (args.toList.map ρ ++ vs) := VL_append (VL_map he _) hv2
  intro a next Q hn
  simp only [Oper.upon]
  by_cases hk : kind ≤ 1
  · obtain ⟨_, hsn⟩ := hds.resolve_right (fun h => h.1 hk)
    have hJ := (snap_both (J := fun k => k < w.heap.size) hm hm.imm (fun _ h => h) 8).2 _ _ _ hsn hall
    refine (hS (fun k => k < w.heap.size) w _ ds d bx (fun _ h => h) (Glob_mono hG (imm_all hm.imm)) hJ hF).mono ?_
    rintro _ w' ⟨v, I', loc', rfl, hfr, hI', hvv, hm2⟩
    rw [if_pos hk] at hI'
    subst hI'
    have hj := (hm.step hfr).join (w0 := w) (K := I) hm2 (fun _ h => h) (fun _ h => h.elim) (fun k h => Nat.lt_of_lt_of_le (hm.imm k h) hfr.size) (fun k h => hm.up k h)
      (fun b g k hb ho hk => ⟨(hm.own b g k hb ho hk).2.2, (hm.own b g k hb ho hk).2.1⟩) (fun k h _ hI => by have := hm.imm k hI; omega)
    have hx := Ext_of_Fr hfr hm.imm (fun _ h => h)
    exact hn v w' I _ hj.1 (Glob_mono hG hx) (V_shift (fun _ h => h.elim) m.nb d v hvv) hx (fun _ h => .inl h) hj.2 hfr.weaken
  · obtain ⟨_, hp, rfl⟩ := hds.resolve_left (fun h => hk h.1)
    refine (hS I w _ _ d bx hm.imm hG (VL_pure hp hall) hF).mono ?_
    rintro _ w' ⟨v, I', loc', rfl, hfr, hI', hvv, hm2⟩
    rw [if_neg hk] at hI'
    have hj := (hm.step hfr).join (w0 := w) (K := I') hm2 hI'.1 (fun _ h => h) hm2.imm (fun k h => hm.up k h)
      (fun b g k hb ho hk => ⟨(hm.own b g k hb ho hk).2.2, fun h => by
        rcases hI'.2 k h with h | h
        · exact (hm.own b g k hb ho hk).2.1 h
        · have := (hm.own b g k hb ho hk).2.2; omega⟩) (fun k _ h => h)
    have hx := Ext_of_Fr hfr hm.imm hI'.1
    exact hn v w' I' _ hj.1 (Glob_mono hG hx) (V_shift (fun _ h => h) m.nb d v hvv) hx hI'.2 hj.2 hfr.weaken

theorem call_ok0 {Sp : Specs} (hSp : SpecsOk P Sp) (hm : MRel O I loc m w) (hG : Glob Sp.glob I w) {e : Operand → D} {ρ : Operand → Value} (he : ∀ x, V I w (e x) loc (ρ x)) {f : Operand} {args : Array Operand} {at' : Array TypeId}
    {dst : Option Tmp} {ty : TypeId} {pos : String} {af : Array Edge} {gd : Option (Nat × Bool)} {k : Nat} {cap : List D} {F : List D → Option (D × List Box)} {ds : List D} {d : D}
    (hf : e f = .fn k cap) (hs : Sp.fn k = some (0, F)) (hF : F ds = some (d, [])) (hds : snapL m 8 (args.toList.map e ++ cap) = some ds) :
    Follows P Sp O I loc w ⟨dst, .call ⟨.value f, args, at'⟩, ty, pos, af, gd⟩ ((execOp ρ ⟨dst, .call ⟨.value f, args, at'⟩, ty, pos, af, gd⟩).run P w) d m := by
  have hv := he f
  rw [hf] at hv; simp only [V] at hv
  obtain ⟨vs, hv1, hv2⟩ := hv
  obtain ⟨hb, hS⟩ := hSp k 0 F hs
  rw [run_call hv1 hb]
  have hall : VL I w (args.toList.map e ++ cap) loc (args.toList.map ρ ++ vs) := VL_append (VL_map he _) hv2
  intro a next Q hn
  simp only [Oper.upon]
  have hJ := (snap_both (J := fun k => k < w.heap.size) hm hm.imm (fun _ h => h) 8).2 _ _ _ hds hall
  refine (hS (fun k => k < w.heap.size) w _ ds d [] (fun _ h => h) (Glob_mono hG (imm_all hm.imm)) hJ hF).mono ?_
  rintro _ w' ⟨v, I', loc', rfl, hfr, hI', hvv, hm2⟩
  rw [if_pos (by omega)] at hI'
  subst hI'
  have hl : loc' = free := by funext b g; exact hm2.free b g (Nat.zero_le _)
  subst hl
  have hx := Ext_of_Fr hfr hm.imm (fun _ h => h)
  exact hn v w' I loc (hm.step hfr) (Glob_mono hG hx) (V_mono (imm_all (fun _ h => h.elim)) d free loc v (.free _) hvv) hx (fun _ h => .inl h) (.refl _) hfr.weaken

theorem bytesOf_ok : ∀ (rows : List (List D)) (l : List UInt8) (vs : List Value), bytesOf rows = some l → VL I w rows.flatten free vs →
    ∃ ns : List Int, vs = ns.map (Value.int .u8) ∧ (ns.map fun n => UInt8.ofNat n.toNat) = l
  | [], l, vs, h, hv => by
    simp only [bytesOf, Option.some.injEq] at h; subst h
    simp only [List.flatten_nil, VL] at hv; subst hv
    exact ⟨[], rfl, rfl⟩
  | row :: r, l, vs, h, hv => by
    unfold bytesOf at h
    split at h
    · rename_i heq; cases heq
    · rename_i n r' heq
      simp only [List.cons.injEq] at heq
      obtain ⟨rfl, rfl⟩ := heq
      split at h
      · rw [Option.map_eq_some_iff] at h
        obtain ⟨l', hl, rfl⟩ := h
        simp only [List.flatten_cons, List.cons_append, List.nil_append, VL] at hv
        obtain ⟨v, vr, rfl, h1, h2⟩ := hv
        simp only [V] at h1; subst h1
        obtain ⟨ns, rfl, rfl⟩ := bytesOf_ok r l' vr hl h2
        exact ⟨n :: ns, rfl, rfl⟩
      · cases h
    · cases h

theorem slice_of_rows {s : Nat} {x : D} {u : Value} {rows : List (List D)} (hx : V I w x loc u) (h : rowsOf m s x = some rows) : ∃ a n cap, u = .slice a n cap := by
  unfold rowsOf at h
  split at h
  · simp only [V] at hx; exact ⟨_, _, _, hx⟩
  · simp only [V] at hx
    rcases hx with ⟨_, _, _, rfl⟩ | ⟨b, o, cap, rfl, _⟩ <;> exact ⟨_, _, _, rfl⟩
  · rename_i b g s' i n
    simp only [V] at hx
    cases hl : loc b g <;> simp only [hl] at hx
    · obtain ⟨a, cap, rfl, _⟩ := hx; exact ⟨_, _, _, rfl⟩
    · exact ⟨_, _, _, hx.2.2⟩
    · obtain ⟨o, cap, rfl, _⟩ := hx; exact ⟨_, _, _, rfl⟩
  · cases h

theorem semR_ok {Sp : Specs} (hSp : SpecsOk P Sp) (hm : MRel O I loc m w) (hG : Glob Sp.glob I w) {e : Operand → D} {ρ : Operand → Value} (he : ∀ x, V I w (e x) loc (ρ x)) {o : Oper} {d : D} (h : semR P Sp o.op e m = some d) :
    Follows P Sp O I loc w o ((execOp ρ o).run P w) d m := by
  obtain ⟨dst, op, type, pos, after, guard⟩ := o
  simp only at h
  unfold semR at h
  split at h
  · rename_i t x
    obtain ⟨z, hz, hv⟩ := run_loadR (P := P) hm (he x) h
    exact Follows.of_res hG (Res.of_same hm ⟨z, by simp [execOp, hz], hv⟩)
  · rename_i src dst' x
    split at h
    case h_2 => cases h
    rename_i el hel
    split at h
    case isFalse => cases h
    rename_i hc
    split at h
    case h_2 => cases h
    rename_i rows hr
    rw [Option.map_eq_some_iff] at h
    obtain ⟨l, hl, rfl⟩ := h
    obtain ⟨vs, hsrc⟩ := src_of (P := P) hm (he x) hr
    obtain ⟨a, n, cap, hu⟩ := slice_of_rows (he x) hr
    obtain ⟨ns, rfl, rfl⟩ := bytesOf_ok rows l vs hl hsrc.vl
    have hlen := hsrc.len
    rw [hu] at hlen
    have hn : n = rows.length := by
      have := congrArg (fun s : Sem Nat => s.run P w) hlen
      simpa [Builtin.lenOf] using this
    have hfirst := hsrc.first w rfl
    rw [hu] at hfirst
    have hconv := run_convert_bytes_string (P := P) w src dst' el a n cap (und_elem hel) (und_int hc.1) (und_str hc.2)
    refine Follows.of_res hG (Res.of_same hm ⟨.string ⟨(ns.map fun n => UInt8.ofNat n.toNat).toArray⟩, ?_, by simp [V]⟩)
    have : (Conv.bytesToString (.slice a n cap)).run P w = .ok (.string ⟨(ns.map fun n => UInt8.ofNat n.toNat).toArray⟩) w := by
      cases a with
      | none =>
        simp only [Builtin.firstCells, Sem.run_pure, Result.ok.injEq, and_true] at hfirst
        have hns : ns = [] := by
          have := congrArg Array.toList hfirst
          simpa using this.symm
        subst hns
        rfl
      | some a =>
        subst hn
        simp only [Builtin.firstCells, Nat.mul_one] at hfirst
        rw [run_bytesToString w a rows.length cap ns hfirst, foldl_push_bytes]
        simp [ByteArray.empty, ByteArray.emptyWithCapacity]
        rfl
    simp [execOp, hu, hconv, this]
  · rename_i f args at'
    split at h
    case h_2 => cases h
    rename_i k cap hf
    split at h
    case h_2 => cases h
    rename_i F hs
    split at h
    case h_2 => cases h
    rename_i ds hds
    split at h
    case h_2 => cases h
    rename_i d' hF
    simp only [Option.some.injEq] at h; subst h
    exact call_ok0 hSp hm hG he hf hs hF hds
  · cases h

theorem semW_ok {Sp : Specs} (hSp : SpecsOk P Sp) (hm : MRel O I loc m w) (hG : Glob Sp.glob I w) {e : Operand → D} {ρ : Operand → Value} (he : ∀ x, V I w (e x) loc (ρ x)) {o : Oper} {d : D} {m' : Mem} (h : semW P Sp o.op e m = some (d, m')) :
    Follows P Sp O I loc w o ((execOp ρ o).run P w) d m' := by
  obtain ⟨dst, op, type, pos, after, guard⟩ := o
  simp only at h
  unfold semW at h
  split at h
  · -- alloc
    split at h
    case h_2 => cases h
    rename_i z hz
    split at h
    case isFalse => cases h
    rename_i hf
    simp only [Option.some.injEq, Prod.mk.injEq] at h
    obtain ⟨rfl, rfl⟩ := h
    exact Follows.of_res hG (run_alloc hm hz hf ρ _ _ _ _ _)
  · -- box
    split at h
    case isFalse => cases h
    rename_i hf
    simp only [Option.some.injEq, Prod.mk.injEq] at h
    obtain ⟨rfl, rfl⟩ := h
    exact Follows.of_res hG (run_box hm ρ (he _) hf _ _ _ _ _)
  · -- store
    rename_i t x y
    split at h
    case h_2 => cases h
    rename_i sz hsz
    split at h
    case isFalse => cases h
    rename_i hc
    have fin : ∀ {w'}, (Instr.storeAt t (ρ x) (ρ y)).run P w = .ok () w' → MRel O I loc m' w' → Ext I I w w' → Fr O w w' → d = .dead →
        Follows P Sp O I loc w ⟨dst, .store t x y, type, pos, after, guard⟩ ((execOp ρ ⟨dst, .store t x y, type, pos, after, guard⟩).run P w) d m' := by
      intro w' h1 h2 h3 h4 h5
      subst h5
      refine Follows.of_res hG ⟨undef, w', loc, .inr ⟨by simp [execOp, h1], rfl⟩, h2, trivial, h3, .refl _, h4⟩
    split at h
    · rename_i b off hx
      split at h
      case h_2 => cases h
      rename_i cs hb
      split at h
      case isFalse => cases h
      rename_i hoff
      simp only [Option.some.injEq, Prod.mk.injEq] at h
      obtain ⟨rfl, rfl⟩ := h
      obtain ⟨w', h1, h2, h3, h4⟩ := run_store_var (P := P) hm (hx ▸ he x) (he y) hc.1 hsz hc.2 hb hoff
      exact fin h1 h2 h3 h4 rfl
    · rename_i b g s i off hx
      split at h
      case h_2 => cases h
      rename_i g' s' rows hb
      split at h
      case isFalse => cases h
      rename_i hc2
      obtain ⟨rfl, rfl, hp⟩ := hc2
      split at h
      case h_2 => cases h
      rename_i row hrow
      split at h
      case isFalse => cases h
      rename_i hoff
      simp only [Option.some.injEq, Prod.mk.injEq] at h
      obtain ⟨rfl, rfl⟩ := h
      obtain ⟨w', h1, h2, h3, h4⟩ := run_store_arr (P := P) hm (hx ▸ he x) (he y) hc.1 hp hsz hc.2 hb hrow hoff
      exact fin h1 h2 h3 h4 rfl
    · cases h
  · -- buildSlice
    split at h
    case h_2 => cases h
    rename_i el hel
    split at h
    case h_2 => cases h
    rename_i sz hsz
    split at h
    case isFalse => cases h
    rename_i hn
    split at h
    case h_2 => cases h
    rename_i z hz
    split at h
    case h_2 => cases h
    rename_i rows hr
    simp only [Option.some.injEq, Prod.mk.injEq] at h
    obtain ⟨rfl, rfl⟩ := h
    obtain ⟨v, w', h1, h2⟩ := run_buildSlice (P := P) hm he hel hsz hn hz hr
    refine Follows.of_res hG ?_
    exact Res.bind h1 h2
  · -- range
    rename_i t x
    split at h
    case h_2 => cases h
    rename_i l hl
    split at h
    case isFalse => cases h
    rename_i hs
    simp only [Option.some.injEq, Prod.mk.injEq] at h
    obtain ⟨rfl, rfl⟩ := h
    have hx := he x
    rw [hl] at hx; simp only [V] at hx
    refine Follows.of_res hG ?_
    have : (execOp ρ ⟨dst, .range t x, type, pos, after, guard⟩).run P w = .ok (.value (.pointer (some ⟨w.heap.size, 0, none⟩))) (w.alloc (.stringIter ⟨l.toArray⟩ 0)) := by
      simp [execOp, Instr.range, run_underlying (und_str hs), hx]
    rw [this]
    refine ⟨_, _, locNew loc m.nb (.blk w.heap.size), .inl rfl, hm.alloc _ _ ?_, V_new _ _, Ext_alloc hm.imm _, locNew_ext hm _, Fr_alloc _ _⟩
    simp only [RelB]
    exact ⟨fun g hg => by simp [locNew, hg], w.heap.size, by simp [locNew], heap_new _ _⟩
  · -- next
    rename_i x
    split at h
    case h_2 => cases h
    rename_i b hx
    split at h
    case h_2 => cases h
    rename_i l ps hb
    have hv := he x
    rw [hx] at hv; simp only [V] at hv
    have hlt : b < m.nb := lt_nb (g := 0) hm (by intro e; simp [e] at hv)
    have hbr := hm.box b hlt
    rw [hb] at hbr; simp only [RelB] at hbr
    obtain ⟨h0, k, hl, hw⟩ := hbr
    simp only [hl] at hv
    refine Follows.of_res hG ?_
    have hget : (getObj k).run P w = .ok (.stringIter ⟨l.toArray⟩ ps) w := by simp [getObj, Sem.run, hw]
    split at h
    · rename_i hps
      simp only [Option.some.injEq, Prod.mk.injEq] at h
      obtain ⟨rfl, rfl⟩ := h
      let w' : World := { w with heap := w.heap.setIfInBounds k (.stringIter ⟨l.toArray⟩ (ps + (Utf8.decode ⟨l.toArray⟩ ps).2)) }
      have hset : (setObj k (.stringIter ⟨l.toArray⟩ (ps + (Utf8.decode ⟨l.toArray⟩ ps).2))).run P w = .ok () w' := by simp [setObj, Sem.run, hw, w']
      have hrun : (execOp ρ ⟨dst, .next x true, type, pos, after, guard⟩).run P w = .ok (.value (.tuple #[.bool true, .int .i64 ps, .int .i32 (Utf8.decode ⟨l.toArray⟩ ps).1])) w' := by
        simp only [execOp, Instr.next, hv, Sem.run_bind, hget, Result.andThen_ok, size_mk, if_pos hps, hset, Sem.run_pure, goInt]
      rw [hrun]
      have hk := hm.own b 0 k hlt (by rw [hb]; rfl) hl
      have hoth : ∀ q, q ≠ k → w'.heap[q]? = w.heap[q]? := fun q hq => by
        simp only [w', Array.getElem?_setIfInBounds]
        rw [if_neg (Ne.symm hq)]
      have hsame : w'.heap[k]? = some (.stringIter ⟨l.toArray⟩ (ps + (Utf8.decode ⟨l.toArray⟩ ps).2)) := by
        simp only [w', Array.getElem?_setIfInBounds]
        rw [if_pos trivial, if_pos hk.2.2]
      have hext : Ext I I w w' := ⟨fun _ h => h, fun q hq => hoth q (fun e => hk.2.1 (e ▸ hq)), fun q => by
        by_cases e : q = k
        · subst e; simp [rowSize, hw]
        · simp [rowSize, hoth q e]⟩
      refine ⟨_, w', loc, .inl rfl, hm.change hlt (by rw [hb]; rfl) (fun _ _ _ => rfl) hext (.refl _) ?_ ?_ (fun q _ hq => hoth q (fun e => hq 0 (e ▸ hl))) (by simp [w']), ?_, hext, .refl _, ⟨rfl, rfl, rfl, by simp [w'], fun q _ hq => hoth q (fun e => hq (e ▸ hk.1))⟩⟩
      · simp only [RelB]
        exact ⟨h0, k, hl, hsame⟩
      · intro g' k' hk'
        have := hm.own b g' k' hlt (by rw [hb]; rfl) hk'
        exact ⟨this.1, this.2.1, by simpa [w'] using this.2.2, fun b' hb' h1 h2 g2 hg2 => hb' (hm.inj b' b g2 g' k' h1 hlt h2 (by rw [hb]; rfl) hg2 hk')⟩
      · simp only [V]
        exact ⟨[.bool true, .int .i64 ps, .int .i32 (Utf8.decode ⟨l.toArray⟩ ps).1], rfl, by simp [VL, V]⟩
    · rename_i hps
      simp only [Option.some.injEq, Prod.mk.injEq] at h
      obtain ⟨rfl, rfl⟩ := h
      refine Res.of_same hm ⟨.tuple #[.bool false], ?_, ?_⟩
      · simp only [execOp, Instr.next, hv, Sem.run_bind, hget, Result.andThen_ok, size_mk, if_neg hps, Sem.run_pure]
      · simp only [V]
        exact ⟨[.bool false], rfl, by simp [VL, V]⟩
  · -- append
    rename_i args argTypes
    split at h
    case h_2 => cases h
    rename_i s x t t' hargs htys
    have ha : args = #[s, x] := by apply Array.ext'; simpa using hargs
    have hb : argTypes = #[t, t'] := by apply Array.ext'; simpa using htys
    subst ha; subst hb
    have fin : Res O I loc w ((do pure (.value (← Builtin.append_ #[t, t'] type #[ρ s, ρ x])) : Sem Next).run P w) d m' →
        Follows P Sp O I loc w ⟨dst, .call ⟨.builtin .append, #[s, x], #[t, t']⟩, type, pos, after, guard⟩ ((execOp ρ ⟨dst, .call ⟨.builtin .append, #[s, x], #[t, t']⟩, type, pos, after, guard⟩).run P w) d m' := by
      intro hr
      refine Follows.of_res hG ?_
      have : (execOp ρ ⟨dst, .call ⟨.builtin .append, #[s, x], #[t, t']⟩, type, pos, after, guard⟩).run P w = (do pure (.value (← Builtin.append_ #[t, t'] type #[ρ s, ρ x])) : Sem Next).run P w := by
        simp [execOp, resolve, invoke, builtin]
      rw [this]; exact hr
    split at h
    · rename_i l hl
      split at h
      case isFalse => cases h
      rename_i hs
      refine fin (run_appendW hm (und_str hs) (.inl rfl) (he s) (fun sz rows' hr => ?_) h)
      split at hr
      · rename_i h1
        subst h1
        simp only [Option.some.injEq] at hr; subst hr
        have := he x
        rw [hl] at this; simp only [V] at this
        rw [this]
        exact src_str l
      · cases hr
    · split at h
      case isFalse => cases h
      rename_i hs
      obtain ⟨e', he'⟩ := Option.isSome_iff_exists.1 hs
      exact fin (run_appendW hm (und_elem he') (.inr ⟨_, rfl⟩) (he s) (fun sz rows' hr => src_of hm (he x) hr) h)
  · -- a call
    split at h
    case h_2 => cases h
    rename_i k cap hf
    split at h
    · rename_i F hs
      split at h
      case h_2 => cases h
      rename_i ds hds
      split at h
      case h_2 => cases h
      rename_i d' bx hF
      simp only [Option.some.injEq, Prod.mk.injEq] at h
      obtain ⟨rfl, rfl⟩ := h
      exact call_ok hSp hm hG he hf hs hF (.inl ⟨by omega, hds⟩)
    · rename_i F hs
      split at h
      case isFalse => cases h
      rename_i hp
      split at h
      case h_2 => cases h
      rename_i d' bx hF
      simp only [Option.some.injEq, Prod.mk.injEq] at h
      obtain ⟨rfl, rfl⟩ := h
      exact call_ok hSp hm hG he hf hs hF (.inr ⟨by omega, hp, rfl⟩)
    · cases h
  · cases h

theorem sem_ok {Sp : Specs} (hSp : SpecsOk P Sp) (hm : MRel O I loc m w) (hG : Glob Sp.glob I w) {e : Operand → D} {ρ : Operand → Value} (he : ∀ x, V I w (e x) loc (ρ x)) {o : Oper} {d : D} {m' : Mem} (h : sem P Sp o.op e m = some (d, m')) :
    Follows P Sp O I loc w o ((execOp ρ o).run P w) d m' := by
  unfold sem at h
  split at h
  · rw [Option.map_eq_some_iff] at h
    obtain ⟨d', hd, h⟩ := h
    simp only [Prod.mk.injEq] at h
    obtain ⟨rfl, rfl⟩ := h
    exact Follows.of_res hG (Res.of_same hm (semN_ok he hd))
  · rw [Option.map_eq_some_iff] at h
    obtain ⟨d', hd, h⟩ := h
    simp only [Prod.mk.injEq] at h
    obtain ⟨rfl, rfl⟩ := h
    exact semR_ok hSp hm hG he hd
  · exact semW_ok hSp hm hG he h
end
end Go.Abs

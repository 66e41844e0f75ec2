/- Every operation without memory on typed abstract values is followed by the one on what they denote. No condition. -/
import Derived.Test.YtlinfghjilpcdaaTyC
namespace Go.Abs
open Go
set_option linter.unusedSimpArgs false
section
variable {T : Nat → Type} {R : Type} {C : Cd T} {L : Nat → Nat → Nat} {P : Program} {Y : Nat → Option TI}

theorem neg_bv (k : IntKind) (hk : k.signed = false) (x : BitVec k.bits) : k.wrap (0 - (x.toNat : Int)) = ((- x).toNat : Int) := by
  rw [BitVec.toNat_neg, ← wrapN k hk, wrapU k hk, wrapU k hk]
  have hx := x.isLt
  have : ((2 ^ k.bits - x.toNat : Nat) : Int) = 0 - (x.toNat : Int) + 2 ^ k.bits := by
    rw [Int.natCast_sub (Nat.le_of_lt hx)]; simp; omega
  rw [this]; simp
theorem not_bv (k : IntKind) (hk : k.signed = false) (x : BitVec k.bits) : k.wrap (BitVec.ofInt k.bits (if k.signed then -1 else k.max) ^^^ BitVec.ofInt k.bits (x.toNat : Int)).toNat = ((~~~ x).toNat : Int) := by
  rw [ofInt_bv]
  have : BitVec.ofInt k.bits (if k.signed then -1 else k.max) = BitVec.allOnes k.bits := by
    cases k <;> first | (simp [IntKind.signed] at hk; done) | decide
  rw [this, BitVec.allOnes_xor, wrap_bv k hk]

theorem unK_ok {op : UnOp} {x : DT T} {K : DT T → Option R} {r : R} (h : unK op x K = some r) : ∃ d : DT T, unD op (den C x) = some (den C d) ∧ WfD L d ∧ K d = some r := by
  unfold unK at h
  split at h
  · exact ex_of h rfl trivial
  · exact ex_of h rfl trivial
  · rename_i x; exact ex_of h (congrArg (fun z => some (D.int .u8 z)) (neg_bv .u8 rfl x.toBitVec)) trivial
  · rename_i x; exact ex_of h (congrArg (fun z => some (D.int .u16 z)) (neg_bv .u16 rfl x)) trivial
  · rename_i x; exact ex_of h (congrArg (fun z => some (D.int .u32 z)) (neg_bv .u32 rfl x)) trivial
  · rename_i x; exact ex_of h (congrArg (fun z => some (D.int .u64 z)) (neg_bv .u64 rfl x)) trivial
  · exact ex_of h rfl trivial
  · rename_i x; exact ex_of h (congrArg (fun z => some (D.int .u8 z)) (not_bv .u8 rfl x.toBitVec)) trivial
  · rename_i x; exact ex_of h (congrArg (fun z => some (D.int .u16 z)) (not_bv .u16 rfl x)) trivial
  · rename_i x; exact ex_of h (congrArg (fun z => some (D.int .u32 z)) (not_bv .u32 rfl x)) trivial
  · rename_i x; exact ex_of h (congrArg (fun z => some (D.int .u64 z)) (not_bv .u64 rfl x)) trivial
  · cases h

theorem cvtI_den (k : IntKind) (n : Int) : den C (cvtI k n : DT T) = .int k (k.wrap n) := by
  have e : ∀ (w : Nat), ((BitVec.ofInt w n).toNat : Int) = n % 2 ^ w := fun w => by
    rw [BitVec.toNat_ofInt]; simp [Int.emod_nonneg]
    exact Int.max_eq_left (Int.emod_nonneg n (Int.ne_of_gt (Int.pow_pos (n := 2) (m := w) (by decide))))
  cases k <;> simp only [cvtI, den]
  · rw [wrapU .u8 rfl]; exact congrArg (D.int .u8) (e 8)
  · rw [wrapU .u16 rfl]; exact congrArg (D.int .u16) (e 16)
  · rw [wrapU .u32 rfl]; exact congrArg (D.int .u32) (e 32)
  · rw [wrapU .u64 rfl]; exact congrArg (D.int .u64) (e 64)
theorem wrapS (k : IntKind) (hk : k.signed = true) (n : Nat) (h : n < 2 ^ (k.bits - 1)) : k.wrap n = n := by
  cases k <;> first | (simp [IntKind.signed] at hk; done) | (simp [IntKind.wrap, IntKind.bits, IntKind.signed] at h ⊢; omega)
theorem cvtU_den {w : Nat} (k : IntKind) (x : BitVec w) : den C (cvtU k x : DT T) = .int k (k.wrap x.toNat) := by
  have e : ∀ (k : IntKind), k.signed = false → (((x.setWidth k.bits).toNat : Nat) : Int) = k.wrap x.toNat := fun k hk => by
    rw [BitVec.toNat_setWidth, wrapN k hk]
  have s : ∀ (k : IntKind), k.signed = true → den C ((match Nat.blt w k.bits with | true => .int k x.toNat | false => .int k (k.wrap x.toNat)) : DT T) = .int k (k.wrap x.toNat) := fun k hk => by
    split
    · rename_i hb
      have hb : w < k.bits := by simpa [Nat.blt_eq] using hb
      simp only [den]
      rw [wrapS k hk]
      exact Nat.lt_of_lt_of_le x.isLt (Nat.pow_le_pow_right (by decide) (by omega))
    · rfl
  cases k
  · exact s .i8 rfl
  · exact s .i16 rfl
  · exact s .i32 rfl
  · exact s .i64 rfl
  · exact congrArg (D.int .u8) (e .u8 rfl)
  · exact congrArg (D.int .u16) (e .u16 rfl)
  · exact congrArg (D.int .u32) (e .u32 rfl)
  · exact congrArg (D.int .u64) (e .u64 rfl)
theorem cvtI_wf (k : IntKind) (n : Int) : WfD L (cvtI k n : DT T) := by cases k <;> trivial
theorem cvtU_wf {w : Nat} (k : IntKind) (x : BitVec w) : WfD L (cvtU k x : DT T) := by
  unfold cvtU; split <;> first | trivial | (split <;> trivial)

theorem tint_tstr {t : Nat} (h : tstr P t = true) : tint P t = none := by
  have := und_str h; simp [tint, this]
theorem agg_und {t : Nat} {b : Bool} (h : tagg P t = some b) : (P.underlying t).isSome = true := by
  unfold tagg at h
  rw [Option.map_eq_some_iff] at h
  obtain ⟨i, hi, _⟩ := h
  simp [hi]

theorem convK_ok (hY : TysOk P Y) {src dst : Nat} {x : DT T} {K : DT T → Option R} {r : R} (h : convK Y src dst x K = some r) :
    (P.underlying src).isSome = true ∧ ∃ d : DT T, convD P dst (den C x) = some (den C d) ∧ WfD L d ∧ K d = some r := by
  unfold convK at h
  split at h
  · cases h
  rename_i i0 h0
  refine ⟨agg_und (hY src i0 h0).agg, ?_⟩
  split at h
  · cases h
  rename_i i hi
  split at h
  · rename_i k hk
    have ht := (hY dst i hi).int k hk
    split at h
    · exact ex_of h (by simp only [den, convD, ht, cvtI_den]) (cvtI_wf _ _)
    · exact ex_of h (by simp only [den, convD, ht, cvtU_den]; rfl) (cvtU_wf _ _)
    · exact ex_of h (by simp only [den, convD, ht, cvtU_den]) (cvtU_wf _ _)
    · exact ex_of h (by simp only [den, convD, ht, cvtU_den]) (cvtU_wf _ _)
    · exact ex_of h (by simp only [den, convD, ht, cvtU_den]) (cvtU_wf _ _)
    · cases h
  · rename_i hk
    have ht := (hY dst i hi).str hk
    split at h
    · exact ex_of h (by simp only [den, convD, tint_tstr ht, ht, if_true]) trivial
    · exact ex_of h (by simp only [den, convD, ht, if_true]) trivial
    · cases h
  · cases h

/-! ### structures -/
theorem loadT_ok (hY : TysOk P Y) {t : Nat} {cs : List (DT T)} {d : DT T} (hw : WfL L cs) (h : loadT Y t cs = some d) : loadD P t (denL C cs) = some (den C d) ∧ WfD L d := by
  unfold loadT at h
  split at h
  · cases h
  rename_i i hi
  have ha := (hY t i hi).agg
  have hs := (hY t i hi).sz
  split at h
  · rename_i hk
    split at h
    · rename_i hb
      have hb : i.sz ≤ cs.length := by simpa using hb
      simp only [Option.some.injEq] at h; subst h
      refine ⟨?_, WfL_take _ hw⟩
      simp only [loadD, ha, hk, hs, denL_length, hb, if_true, den, denL_take]
    · cases h
  · rename_i hk
    cases cs with
    | nil => cases h
    | cons c r =>
      simp only [List.head?_cons, Option.some.injEq] at h; subst h
      simp only [WfL] at hw
      exact ⟨by simp only [loadD, ha, hk, denL], hw.1⟩

theorem fillT_ok {place : Nat → Option (Nat × Nat)} : ∀ {cells : List (DT T)} {ps : List (Nat × DT T)} {r : List (DT T)}, WfL L cells → (∀ p ∈ ps, WfD L p.2) → fillT place cells ps = some r →
    fillD place (denL C cells) (ps.map fun p => (p.1, den C p.2)) = some (denL C r) ∧ WfL L r
  | cells, [], r, hc, hp, h => by
    simp only [fillT, Option.some.injEq] at h; subst h
    exact ⟨rfl, hc⟩
  | cells, (i, x) :: ps, r, hc, hp, h => by
    simp only [fillT] at h
    split at h
    case h_2 => cases h
    rename_i o s hpl
    split at h
    case h_2 => cases h
    rename_i hq
    simp only [Bool.and_eq_true, Nat.beq_eq, Nat.ble_eq] at hq
    obtain ⟨h1, h2, h3⟩ := hq
    have hx : WfD L x := hp (i, x) (by simp)
    have ih := fillT_ok (WfL_setT cells o x.cells hc (WfD_cells hx)) (fun p hpp => hp p (by simp [hpp])) h
    refine ⟨?_, ih.2⟩
    simp only [List.map_cons, fillD, hpl]
    rw [if_pos ⟨den_fit C x h1, by rw [den_cells, denL_length]; exact h2, by rw [denL_length]; exact h3⟩, den_cells, ← denL_setT]
    exact ih.1

theorem zeroT_den (l : List Zc) : denL C (l.map Zc.toT : List (DT T)) = l.map Zc.toD := by
  rw [denL_map, List.map_map]; congr 1; funext z; exact Zc.den C z
theorem zeroT_wf (l : List Zc) : WfL L (l.map Zc.toT : List (DT T)) := by
  rw [WfL_iff]
  intro d hd
  simp only [List.mem_map] at hd
  obtain ⟨z, _, rfl⟩ := hd
  cases z with
  | i k => cases k <;> trivial
  | _ => trivial

theorem buildT_ok (hY : TysOk P Y) {t : Nat} {ps : List (Nat × DT T)} {d : DT T} (hp : ∀ p ∈ ps, WfD L p.2) (h : buildT Y t ps = some d) :
    buildD P t (ps.map fun p => (p.1, den C p.2)) = some (den C d) ∧ WfD L d := by
  unfold buildT at h
  split at h
  · cases h
  rename_i i hi
  have hz := (hY t i hi).zero
  split at h
  · rename_i hk
    rw [Option.map_eq_some_iff] at h
    obtain ⟨r, hr, rfl⟩ := h
    have := fillT_ok (C := C) (L := L) (zeroT_wf i.zero) hp hr
    rw [zeroT_den] at this
    refine ⟨?_, this.2⟩
    have hpl := (hY t i hi).places hk
    simp only [hk, TK.agg, if_true] at hz
    simp only [buildD, hz, hpl, this.1, Option.map_some, den]
  · rename_i n e hk
    split at h
    case h_2 => cases h
    rename_i j hj
    rw [Option.map_eq_some_iff] at h
    obtain ⟨r, hr, rfl⟩ := h
    have := fillT_ok (C := C) (L := L) (zeroT_wf i.zero) hp hr
    rw [zeroT_den] at this
    refine ⟨?_, this.2⟩
    have hpl := (hY t i hi).nplaces (by rw [hk]; simp)
    have ha := (hY t i hi).arr n e hk
    have hs := (hY e j hj).sz
    simp only [hk, TK.agg, if_true] at hz
    simp only [buildD, hz, hpl, ha, hs, this.1, Option.map_some, den]
  · cases h

theorem fldT_ok (hY : TysOk P Y) {t k o ft : Nat} (h : fldT Y t k = some (o, ft)) : tfld P t k = some (o, ft) := by
  unfold fldT at h
  split at h
  · rename_i i hi
    split at h
    · rename_i q hq
      exact (hY t i hi).fld k o ft (by rw [hq, h])
    · cases h
  · cases h
theorem fieldAddrT_ok (hY : TysOk P Y) {t k : Nat} {x d : DT T} (h : fieldAddrT Y t x k = some d) : fieldAddrD P t (den C x) k = some (den C d) ∧ WfD L d := by
  unfold fieldAddrT at h
  split at h
  case h_2 => cases h
  rename_i o ft hf
  have hf := fldT_ok hY hf
  split at h <;> simp only [Option.some.injEq, reduceCtorEq] at h <;> subst h
  · exact ⟨by simp only [fieldAddrD, hf, den], trivial⟩
  · exact ⟨by simp only [fieldAddrD, hf, den], trivial⟩
  · exact ⟨by simp only [fieldAddrD, hf, den, denL_drop], trivial⟩
theorem fieldT_ok (hY : TysOk P Y) {t k : Nat} {x d : DT T} (hw : WfD L x) (h : fieldT Y t x k = some d) : fieldD P t (den C x) k = some (den C d) ∧ WfD L d := by
  unfold fieldT at h
  split at h
  case h_2 => cases h
  rename_i o ft hf
  have hf := fldT_ok hY hf
  split at h
  · simp only [WfD] at hw
    have := loadT_ok (C := C) hY (WfL_drop o hw) h
    rw [denL_drop] at this
    exact ⟨by simp only [fieldD, hf, den, this.1], this.2⟩
  · cases h

/-! ### slices -/
theorem elemT_ok (hY : TysOk P Y) {t e : Nat} (h : elemT Y t = some e) : telem P t = some e := by
  unfold elemT at h
  split at h
  · rename_i i hi
    split at h
    · rename_i e' hk
      simp only [Option.some.injEq] at h; subst h
      exact (hY t i hi).elem e' hk
    · cases h
  · cases h
theorem arrT_ok (hY : TysOk P Y) {t n e s : Nat} (h : arrT Y t = some (n, e, s)) : tarr P t = some (n, e) ∧ tsz P e = some s := by
  unfold arrT at h
  split at h
  · rename_i i hi
    split at h
    · rename_i n' e' hk
      split at h
      · rename_i j hj
        simp only [Option.some.injEq, Prod.mk.injEq] at h
        obtain ⟨rfl, rfl, rfl⟩ := h
        exact ⟨(hY t i hi).arr _ _ hk, (hY _ j hj).sz⟩
      · cases h
    · cases h
  · cases h
theorem isStr_ok (hY : TysOk P Y) {t : Nat} (h : isStr Y t = true) : tstr P t = true := by
  unfold isStr at h
  split at h
  · rename_i i hi
    split at h
    · rename_i hk; exact (hY t i hi).str hk
    · cases h
  · cases h
theorem elemC_ok (hY : TysOk P Y) {t c : Nat} (h : elemC Y C t c = true) : ∃ e, telem P t = some e ∧ tsz P e = some (C.sz c) := by
  unfold elemC at h
  split at h
  · rename_i e he
    split at h
    · rename_i j hj
      have h : j.sz = C.sz c := by simpa using h
      exact ⟨e, elemT_ok hY he, by rw [← h]; exact (hY e j hj).sz⟩
    · cases h
  · cases h

theorem atK_ok {α : Type} {l : List α} {x : DT T} {K : α → Option R} {r : R} (h : atK l x K = some r) : ∃ k a, idx (den C x) l.length = some k ∧ l[k]? = some a ∧ K a = some r := by
  have nat : ∀ (kd : IntKind) (n : Nat), (l[n]?).bind K = some r → ∃ k a, idx (.int kd n) l.length = some k ∧ l[k]? = some a ∧ K a = some r := fun kd n hb => by
    rw [Option.bind_eq_some_iff] at hb
    obtain ⟨a, h1, h2⟩ := hb
    have hlt : n < l.length := by
      rcases Nat.lt_or_ge n l.length with h | h
      · exact h
      · rw [List.getElem?_eq_none h] at h1; cases h1
    exact ⟨n, a, by simp [idx, hlt], h1, h2⟩
  unfold atK at h
  split at h
  · rename_i k i
    unfold getI at h
    cases hi : decide (0 ≤ i) <;> simp only [hi, cond_true, cond_false] at h
    · cases h
    · have hi : 0 ≤ i := by simpa using hi
      have := nat k i.toNat h
      rw [Int.toNat_of_nonneg hi] at this
      exact this
  · exact nat _ _ h
  · exact nat _ _ h
  · exact nat _ _ h
  · exact nat _ _ h
  · cases h
theorem ltK_ok {x : DT T} {n : Nat} {K : Nat → Option R} {r : R} (h : ltK x n K = some r) : ∃ k, idx (den C x) n = some k ∧ K k = some r := by
  have nat : ∀ (kd : IntKind) (m : Nat), (bif decide (m < n) then K m else none) = some r → ∃ k, idx (.int kd m) n = some k ∧ K k = some r := fun kd m hb => by
    cases hm : decide (m < n) <;> simp only [hm, cond_true, cond_false] at hb
    · cases hb
    · have hm : m < n := by simpa using hm
      exact ⟨m, by simp [idx, hm], hb⟩
  unfold ltK at h
  split at h
  · rename_i k i
    cases hi : (decide (0 ≤ i) && decide (i < n)) <;> simp only [hi, cond_true, cond_false] at h
    · cases h
    · have hi : 0 ≤ i ∧ i < n := by simpa using hi
      exact ⟨i.toNat, by simp [den, idx, hi], h⟩
  · exact nat _ _ h
  · exact nat _ _ h
  · exact nat _ _ h
  · exact nat _ _ h
  · cases h

theorem indexAddrK_ok (hY : TysOk P Y) (hC : CdOk C) {t : Nat} {x i : DT T} {K : DT T → Option R} {r : R} (h : indexAddrK Y C t x i K = some r) :
    ∃ d : DT T, indexAddrD P t (den C x) (den C i) = some (den C d) ∧ WfD L d ∧ K d = some r := by
  unfold indexAddrK at h
  split at h
  · rename_i c l
    split at h
    case h_2 => cases h
    rename_i he
    obtain ⟨e, h1, h2⟩ := elemC_ok hY he
    obtain ⟨k, a, h3, h4, h5⟩ := atK_ok (C := C) h
    refine ex_of h5 ?_ trivial
    simp only [den, indexAddrD, h1, h2, if_true, List.length_map, h3, List.getElem?_map, h4, Option.map_some, hC.enc]
  · split at h
    case h_2 => cases h
    rename_i he
    obtain ⟨e, h1, h2⟩ := elemC_ok hY he
    obtain ⟨k, h3, h4⟩ := ltK_ok (C := C) h
    refine ex_of h4 ?_ trivial
    simp only [den, indexAddrD, h1, h2, if_true, h3, Option.map_some, Nat.zero_add]
  · split at h
    case h_2 => cases h
    rename_i he
    obtain ⟨e, h1, h2⟩ := elemC_ok hY he
    obtain ⟨k, h3, h4⟩ := ltK_ok (C := C) h
    refine ex_of h4 ?_ trivial
    simp only [den, indexAddrD, h1, h2, if_true, h3, Option.map_some, Nat.add_comm]
  · split at h
    case h_2 => cases h
    rename_i n e s ha
    have ha := arrT_ok hY ha
    obtain ⟨k, h3, h4⟩ := ltK_ok (C := C) h
    refine ex_of h4 ?_ trivial
    simp only [den, indexAddrD, ha.1, ha.2, h3, Option.map_some]
  · split at h
    case h_2 => cases h
    rename_i n e s ha
    have ha := arrT_ok hY ha
    obtain ⟨k, h3, h4⟩ := ltK_ok (C := C) h
    refine ex_of h4 ?_ trivial
    simp only [den, indexAddrD, ha.1, ha.2, h3, Option.map_some, denL_drop]
  · cases h

theorem indexK_ok (hY : TysOk P Y) {t : Nat} {x i : DT T} {K : DT T → Option R} {r : R} (hw : WfD L x) (h : indexK Y t x i K = some r) :
    ∃ d : DT T, indexD P t (den C x) (den C i) = some (den C d) ∧ WfD L d ∧ K d = some r := by
  unfold indexK at h
  split at h
  · split at h
    case h_2 => cases h
    rename_i hs
    obtain ⟨k, a, h3, h4, h5⟩ := atK_ok (C := C) h
    refine ex_of h5 ?_ trivial
    simp only [den, indexD, isStr_ok hY hs, if_true, h3, h4, Option.map_some]
  · split at h
    case h_2 => cases h
    rename_i n e s ha
    have ha := arrT_ok hY ha
    obtain ⟨k, h3, h4⟩ := ltK_ok (C := C) h
    unfold ldK at h4
    split at h4
    case h_2 => cases h4
    rename_i d hd
    simp only [WfD] at hw
    have := loadT_ok (C := C) hY (WfL_drop _ hw) hd
    rw [denL_drop] at this
    refine ex_of h4 ?_ this.2
    simp only [den, indexD, ha.1, ha.2, h3, this.1]
  · cases h

theorem leK_ok {x : DT T} {n : Nat} {K : Nat → Option R} {r : R} (dflt : Nat) (h : leK x n K = some r) : ∃ k, bound (some (den C x)) dflt n = some k ∧ k ≤ n ∧ K k = some r := by
  have nat : ∀ (kd : IntKind) (m : Nat), (bif decide (m ≤ n) then K m else none) = some r → ∃ k, bound (some (.int kd m)) dflt n = some k ∧ k ≤ n ∧ K k = some r := fun kd m hb => by
    cases hm : decide (m ≤ n) <;> simp only [hm, cond_true, cond_false] at hb
    · cases hb
    · have hm : m ≤ n := by simpa using hm
      exact ⟨m, by simp [bound, hm], hm, hb⟩
  unfold leK at h
  split at h
  · rename_i k i
    cases hi : (decide (0 ≤ i) && decide (i ≤ n)) <;> simp only [hi, cond_true, cond_false] at h
    · cases h
    · have hi : 0 ≤ i ∧ i ≤ n := by simpa using hi
      exact ⟨i.toNat, by simp [den, bound, hi], by omega, h⟩
  · exact nat _ _ h
  · exact nat _ _ h
  · exact nat _ _ h
  · exact nat _ _ h
  · cases h

/-- a cut's bounds. -/
theorem cutK_ok {n : Nat} {lo hi : Option (DT T)} {K : Option Nat → Option Nat → Option R} {r : R} (h : cutK n lo hi K = some r) :
    ∃ a b, bound (hi.map (den C)) n n = some (b.getD n) ∧ bound (lo.map (den C)) 0 (b.getD n) = some (a.getD 0) ∧ b.getD n ≤ n ∧ a.getD 0 ≤ b.getD n ∧ K a b = some r := by
  unfold cutK at h
  split at h
  · exact ⟨none, none, by simp [bound], by simp [bound], by simp, by simp, h⟩
  · obtain ⟨k, h1, h2, h3⟩ := leK_ok (C := C) 0 h
    exact ⟨some k, none, by simp [bound], by simpa using h1, by simp, by simpa using h2, h3⟩
  · obtain ⟨k, h1, h2, h3⟩ := leK_ok (C := C) n h
    exact ⟨none, some k, by simpa using h1, by simp [bound], by simpa using h2, by simp, h3⟩
  · obtain ⟨k, h1, h2, h3⟩ := leK_ok (C := C) n h
    obtain ⟨j, h4, h5, h6⟩ := leK_ok (C := C) 0 h3
    exact ⟨some j, some k, by simpa using h1, by simpa using h4, by simpa using h2, by simpa using h5, h6⟩
theorem cutL_eq {α : Type} (l : List α) (a b : Option Nat) : cutL l a b = (l.take (b.getD l.length)).drop (a.getD 0) := by
  cases a <;> cases b <;> simp [cutL]
theorem cutB_den (b g c o n : Nat) (p q : Option Nat) (_h : p.getD 0 ≤ q.getD n) : den C (cutB b g c o n p q : DT T) = .bs b g (C.sz c) (o + p.getD 0) (q.getD n - p.getD 0) := by
  cases p <;> cases q <;> simp [cutB, den, Nat.add_comm]
theorem cutB_wf (b g c o n : Nat) (p q : Option Nat) : WfD L (cutB b g c o n p q : DT T) := by cases p <;> cases q <;> trivial

theorem sliceK_ok (hY : TysOk P Y) {t : Nat} {x : DT T} {lo hi : Option (DT T)} {K : DT T → Option R} {r : R} (h : sliceK Y C t x lo hi K = some r) :
    ∃ d : DT T, sliceD P t (den C x) (lo.map (den C)) (hi.map (den C)) = some (den C d) ∧ WfD L d ∧ K d = some r := by
  unfold sliceK at h
  split at h
  · split at h
    case h_2 => cases h
    rename_i hs
    obtain ⟨a, b, h1, h2, h3, h4, h5⟩ := cutK_ok (C := C) h
    refine ex_of h5 ?_ trivial
    simp only [den, sliceD, isStr_ok hY hs, if_true, h1, h2, Option.map_some, cutL_eq]
  · split at h
    case h_2 => cases h
    rename_i e he
    split at h
    case h_2 => cases h
    rename_i j hj
    obtain ⟨a, b, h1, h2, h3, h4, h5⟩ := cutK_ok (C := C) h
    refine ex_of h5 ?_ trivial
    simp only [den, sliceD, elemT_ok hY he, (hY e j hj).sz, Option.isSome_some, if_true, h1, h2, Option.map_some]
  · rename_i c l
    split at h
    case h_2 => cases h
    rename_i he
    obtain ⟨e, g1, g2⟩ := elemC_ok hY he
    obtain ⟨a, b, h1, h2, h3, h4, h5⟩ := cutK_ok (C := C) h
    refine ex_of h5 ?_ trivial
    simp only [den, sliceD, g1, g2, if_true, List.length_map, h1, h2, Option.map_some, cutL_eq, List.map_drop, List.map_take]
  · split at h
    case h_2 => cases h
    rename_i he
    obtain ⟨e, g1, g2⟩ := elemC_ok hY he
    obtain ⟨a, b, h1, h2, h3, h4, h5⟩ := cutK_ok (C := C) h
    refine ex_of h5 ?_ (cutB_wf _ _ _ _ _ _ _)
    rw [cutB_den _ _ _ _ _ _ _ h4]
    simp only [den, sliceD, g1, g2, if_true, h1, h2, Option.map_some]
  · split at h
    case h_2 => cases h
    rename_i he
    obtain ⟨e, g1, g2⟩ := elemC_ok hY he
    obtain ⟨a, b, h1, h2, h3, h4, h5⟩ := cutK_ok (C := C) h
    refine ex_of h5 ?_ (cutB_wf _ _ _ _ _ _ _)
    rw [cutB_den _ _ _ _ _ _ _ h4]
    simp only [den, sliceD, g1, g2, if_true, h1, h2, Option.map_some]
  · cases h

theorem lenK_ok (hY : TysOk P Y) {t : Nat} {x : DT T} {K : DT T → Option R} {r : R} (h : lenK Y t x K = some r) : ∃ d : DT T, lenD P t (den C x) = some (den C d) ∧ WfD L d ∧ K d = some r := by
  unfold lenK at h
  split at h
  · split at h
    · rename_i hs; exact ex_of h (by simp only [den, lenD, isStr_ok hY hs, if_true]) trivial
    · cases h
  · split at h
    · rename_i e he; exact ex_of h (by simp only [den, lenD, elemT_ok hY he, Option.map_some]) trivial
    · cases h
  · split at h
    · rename_i e he; exact ex_of h (by simp only [den, lenD, elemT_ok hY he, Option.map_some, List.length_map]) trivial
    · cases h
  · split at h
    · rename_i e he; exact ex_of h (by simp only [den, lenD, elemT_ok hY he, Option.map_some]) trivial
    · cases h
  · split at h
    · rename_i e he; exact ex_of h (by simp only [den, lenD, elemT_ok hY he, Option.map_some]) trivial
    · cases h
  · split at h
    · rename_i n q he
      obtain ⟨e, s⟩ := q
      exact ex_of h (by simp only [den, lenD, (arrT_ok hY he).1, Option.map_some]) trivial
    · cases h
  · split at h
    · rename_i i hi
      split at h
      · rename_i a ha
        split at h
        · rename_i n q he
          obtain ⟨e, s⟩ := q
          exact ex_of h (by simp only [den, lenD, (hY t i hi).ptr a ha, (arrT_ok hY he).1, Option.map_some]) trivial
        · cases h
      · cases h
    · cases h
  · cases h

theorem foldK_ok {f : DT T → DT T → (DT T → Option R) → Option R} {g : D → D → Option D} (hf : ∀ x y K (r : R), f x y K = some r → ∃ d : DT T, g (den C x) (den C y) = some (den C d) ∧ WfD L d ∧ K d = some r) :
    ∀ (l : List (DT T)) (x : DT T) (K : DT T → Option R) (r : R), WfD L x → foldK f x l K = some r → ∃ d : DT T, foldD g (den C x) (denL C l) = some (den C d) ∧ WfD L d ∧ K d = some r
  | [], x, K, r, hx, h => ⟨x, rfl, hx, h⟩
  | y :: l, x, K, r, hx, h => by
    simp only [foldK] at h
    obtain ⟨z, h1, h2, h3⟩ := hf x y _ r h
    obtain ⟨d, h4, h5, h6⟩ := foldK_ok hf l z K r h2 h3
    exact ⟨d, by simp only [denL, foldD, h1, h4], h5, h6⟩
theorem ite_dec {α : Type} (p : Prop) [Decidable p] (a b : α) : (bif decide p then a else b) = if p then a else b := by
  by_cases h : p <;> simp [h]
theorem mnK_ok (x y : DT T) (K : DT T → Option R) (r : R) (h : mnK x y K = some r) : ∃ d : DT T, minD (den C x) (den C y) = some (den C d) ∧ WfD L d ∧ K d = some r := by
  unfold mnK at h
  split at h
  · exact ex_of h (by simp only [den, minD, ite_dec]) trivial
  · rename_i a b
    refine ex_of h ?_ trivial
    simp only [den, minD, ite_dec]
    by_cases hb : b.toNat < a.toNat
    · rw [if_pos (by omega), if_pos hb]
    · rw [if_neg (by omega), if_neg hb]
  · cases h
theorem mxK_ok (x y : DT T) (K : DT T → Option R) (r : R) (h : mxK x y K = some r) : ∃ d : DT T, maxD (den C x) (den C y) = some (den C d) ∧ WfD L d ∧ K d = some r := by
  unfold mxK at h
  split at h
  · refine ex_of h ?_ trivial
    simp only [den, maxD, ite_dec, gt_iff_lt]
  · rename_i a b
    refine ex_of h ?_ trivial
    simp only [den, maxD, ite_dec, gt_iff_lt]
    by_cases hb : a.toNat < b.toNat
    · rw [if_pos (by omega), if_pos hb]
    · rw [if_neg (by omega), if_neg hb]
  · cases h

theorem pickK_ok {q : Bool} {a b : DT T} {K : DT T → Option R} {r : R} (ha : WfD L a) (hb : WfD L b) (h : pickK q a b K = some r) : ∃ d : DT T, (if q = true then den C a else den C b) = den C d ∧ WfD L d ∧ K d = some r := by
  unfold pickK at h
  split at h
  · rename_i x y
    exact ⟨.bool (bif q then x else y), by cases q <;> rfl, trivial, h⟩
  · rename_i k x k' y
    split at h
    · rename_i hk
      have hk := of_decide_eq_true hk
      subst hk
      exact ⟨.int k (bif q then x else y), by cases q <;> rfl, trivial, h⟩
    · cases h
  · cases q
    · exact ⟨b, by simp, hb, h⟩
    · exact ⟨a, by simp, ha, h⟩

/-- an operation without memory is followed by what it denotes. -/
theorem nK_ok (hY : TysOk P Y) (hC : CdOk C) {o : Op} {e : Operand → DT T} {K : DT T → Option R} {r : R} (hw : ∀ x, WfD L (e x)) (h : nK Y C o e K = some r) :
    ∃ d : DT T, semN P o (fun x => den C (e x)) = some (den C d) ∧ WfD L d ∧ K d = some r := by
  unfold nK at h
  split at h
  · exact ⟨_, rfl, hw _, h⟩
  · exact ⟨_, rfl, hw _, h⟩
  · rename_i c a b
    split at h
    · rename_i q hq
      obtain ⟨d, h1, h2, h3⟩ := pickK_ok (C := C) (hw a) (hw b) h
      refine ⟨d, ?_, h2, h3⟩
      simp only [semN, hq, den]
      cases q <;> simp_all
    · cases h
  · rename_i x
    split at h
    · rename_i hx; exact ex_of h (by simp only [semN, hx, den]) trivial
    · rename_i hx; exact ex_of h (by simp only [semN, hx, den]) trivial
    · rename_i hx; exact ex_of h (by simp only [semN, hx, den]) trivial
    · rename_i f cap hx
      have := hw x; rw [hx] at this
      exact ⟨_, by simp only [semN, hx, den], this, h⟩
    · cases h
  · exact binK_ok hY h
  · exact unK_ok h
  · obtain ⟨h1, h2⟩ := convK_ok (C := C) (L := L) hY h
    simp only [semN, h1, if_true]; exact h2
  · split at h
    · rename_i t ps d hd
      have := buildT_ok (C := C) (L := L) hY (fun p hp => by
        simp only [List.mem_map] at hp
        obtain ⟨q, _, rfl⟩ := hp
        exact hw _) hd
      refine ⟨d, ?_, this.2, h⟩
      simp only [semN]
      rw [← this.1]; simp [List.map_map, Function.comp_def]
    · cases h
  · split at h
    · rename_i d hd
      have := fieldAddrT_ok (C := C) (L := L) hY hd
      exact ⟨d, this.1, this.2, h⟩
    · cases h
  · split at h
    · rename_i d hd
      have := fieldT_ok (C := C) (L := L) hY (hw _) hd
      exact ⟨d, this.1, this.2, h⟩
    · cases h
  · exact indexAddrK_ok hY hC h
  · exact indexK_ok hY (hw _) h
  · rename_i t x lo hi
    obtain ⟨d, h1, h2, h3⟩ := sliceK_ok (C := C) (L := L) hY h
    refine ⟨d, ?_, h2, h3⟩
    simp only [semN]
    rw [← h1]; simp [Option.map_map, Function.comp_def]
  · rename_i x i
    split at h
    · rename_i vs hx
      split at h
      · rename_i d hd
        have hv := hw x; rw [hx] at hv; simp only [WfD] at hv
        refine ⟨d, ?_, WfL_iff.1 hv d (List.mem_of_getElem? hd), h⟩
        simp only [semN, hx, den, denL_get, hd, Option.map_some]
      · cases h
    · cases h
  · rename_i f first cap
    split at h
    · rename_i hf
      have hf : first = #[] := by apply Array.ext'; simpa using hf
      subst hf
      refine ⟨_, ?_, ?_, h⟩
      · simp only [semN]; simp [den, denL_map, List.map_map, Function.comp_def]
      · simp only [WfD, WfL_iff, List.mem_map]
        rintro d ⟨x, _, rfl⟩; exact hw x
    · cases h
  · rename_i args argTypes
    split at h
    · rename_i x t hx ht
      obtain ⟨d, h1, h2, h3⟩ := lenK_ok (C := C) (L := L) hY h
      exact ⟨d, by simp only [semN, hx, ht, h1], h2, h3⟩
    · cases h
  · rename_i args argTypes
    split at h
    · rename_i x l hx
      have hq : args.toList.map (fun x => den C (e x)) = den C x :: denL C l := by
        have := congrArg (denL C) hx
        simpa [denL_map, List.map_map, Function.comp_def] using this
      have hxw : WfD L x := by
        have : x ∈ args.toList.map e := by rw [hx]; simp
        simp only [List.mem_map] at this
        obtain ⟨y, _, rfl⟩ := this; exact hw y
      obtain ⟨d, h1, h2, h3⟩ := foldK_ok (C := C) (L := L) mnK_ok l x K r hxw h
      exact ⟨d, by simp only [semN, hq, h1], h2, h3⟩
    · cases h
  · rename_i args argTypes
    split at h
    · rename_i x l hx
      have hq : args.toList.map (fun x => den C (e x)) = den C x :: denL C l := by
        have := congrArg (denL C) hx
        simpa [denL_map, List.map_map, Function.comp_def] using this
      have hxw : WfD L x := by
        have : x ∈ args.toList.map e := by rw [hx]; simp
        simp only [List.mem_map] at this
        obtain ⟨y, _, rfl⟩ := this; exact hw y
      obtain ⟨d, h1, h2, h3⟩ := foldK_ok (C := C) (L := L) mxK_ok l x K r hxw h
      exact ⟨d, by simp only [semN, hq, h1], h2, h3⟩
    · cases h
  · cases h
end
end Go.Abs

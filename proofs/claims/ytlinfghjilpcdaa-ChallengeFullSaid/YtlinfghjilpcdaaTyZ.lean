/- A law's arguments, read as typed values. No condition. -/
import Derived.Test.YtlinfghjilpcdaaTyX
import Derived.ChangeArms
import Derived.OpenShut
import Derived.ChangeSlices
import Derived.Carry
namespace Go.Abs
open Go
set_option linter.unusedSimpArgs false

/-! ### what the claim's own reading tells: numbers are in their range, lists are not longer than the machine allows -/
mutual
def DOk : D → Prop
  | .int k n => (Lit.int k n).wf = true
  | .str l => l.length ≤ maxLen
  | .rs _ rows => rows.length ≤ maxLen ∧ DOkR rows
  | .agg cs => DOkL cs
  | _ => True
def DOkL : List D → Prop
  | [] => True
  | d :: r => DOk d ∧ DOkL r
def DOkR : List (List D) → Prop
  | [] => True
  | d :: r => DOkL d ∧ DOkR r
end
theorem DOkL_append : ∀ {a b : List D}, DOkL a → DOkL b → DOkL (a ++ b)
  | [], _, _, hb => hb
  | d :: r, b, ha, hb => by
    simp only [DOkL, List.cons_append] at ha ⊢
    exact ⟨ha.1, DOkL_append ha.2 hb⟩
theorem DOkL_app : ∀ {a b : List D}, DOkL (a ++ b) → DOkL a ∧ DOkL b
  | [], _, h => ⟨trivial, h⟩
  | d :: r, b, h => by
    simp only [DOkL, List.cons_append] at h ⊢
    exact ⟨⟨h.1, (DOkL_app h.2).1⟩, (DOkL_app h.2).2⟩
theorem DOkR_of : ∀ {rows : List (List D)}, (∀ x ∈ rows, DOkL x) → DOkR rows
  | [], _ => trivial
  | d :: r, h => by
    simp only [DOkR]
    exact ⟨h d (by simp), DOkR_of fun x hx => h x (by simp [hx])⟩
theorem DOkR_mem : ∀ {rows : List (List D)}, DOkR rows → ∀ x ∈ rows, DOkL x
  | [], _, x, hx => by cases hx
  | d :: r, h, x, hx => by
    simp only [DOkR] at h
    rcases List.mem_cons.1 hx with rfl | hx
    · exact h.1
    · exact DOkR_mem h.2 x hx

section
variable {T : Nat → Type} {C : Cd T} {P : Program} {w : World}
abbrev All (w : World) : Nat → Prop := fun k => k < w.heap.size

def joinL : (a b : List Lf) → tyLs T a → tyLs T b → tyLs T (a ++ b)
  | [], _, _, y => y
  | _ :: r, b, x, y => (x.1, joinL r b x.2 y)
theorem encLD_join (C : Cd T) : ∀ (a b : List Lf) (x : tyLs T a) (y : tyLs T b), encLD C (a ++ b) (joinL a b x y) = encLD C a x ++ encLD C b y
  | [], _, _, _ => rfl
  | l :: r, b, x, y => by
    show encLD1 C l x.1 :: encLD C (r ++ b) (joinL r b x.2 y) = encLD1 C l x.1 :: (encLD C r x.2 ++ encLD C b y)
    rw [encLD_join C r b]
theorem encLD_length (C : Cd T) : ∀ (a : List Lf) (x : tyLs T a), (encLD C a x).length = a.length
  | [], _ => rfl
  | l :: r, x => by
    show (encLD1 C l x.1 :: encLD C r x.2).length = _
    simp [encLD_length C r x.2]

theorem leaf_one {I : Nat → Prop} {l : Lf} {x : l.ty T} {v : Value} (h : V I w (encLD1 C l x) free v) : v.oneCell' = true := by
  cases l <;> simp only [encLD1, V] at h
  case rs c =>
    rcases h with ⟨_, p, cap, rfl⟩ | ⟨b, o, cap, rfl, _⟩ <;> rfl
  all_goals subst h; rfl

/-- cells that lie one after another. -/
theorem VC_of {I : Nat → Prop} {b : Nat} : ∀ (ls : List Lf) (x : tyLs T ls) (vs : List Value) (o : Nat), VL I w (encLD C ls x) free vs → (∀ i v, vs[i]? = some v → w.cell? ⟨b, o + i, none⟩ = some v) → VC I w (encLD C ls x) b o
  | [], _, _, _, _, _ => by simp only [encLD, VC]
  | l :: r, x, vs, o, h, hc => by
    change VL I w (encLD1 C l x.1 :: encLD C r x.2) free vs at h
    show VC I w (encLD1 C l x.1 :: encLD C r x.2) b o
    simp only [VL] at h
    obtain ⟨v, vr, rfl, h1, h2⟩ := h
    simp only [VC]
    refine ⟨⟨v, by simpa using hc 0 v rfl, leaf_one h1, h1⟩, VC_of r x.2 vr (o + 1) h2 fun i u hu => ?_⟩
    have := hc (i + 1) u (by simpa using hu)
    rwa [show o + (i + 1) = o + 1 + i by omega] at this

/-- A type's values read as these leaves. -/
def Opens (P : Program) (C : Cd T) (t : TypeId) (ls : List Lf) : Prop :=
  ∀ (H : Type) (enc : TypeId × Value → H) (w : World) (spare : Nat → Bool) (held : Bool) (fuel : Nat) (cs : List Value) (x : DataW H × List MemPlace), DataW.trod enc P w 0 spare held fuel t cs = some x →
    ∃ y : tyLs T ls, VL (All w) w (encLD C ls y) free cs ∧ DOkL (encLD C ls y)

theorem opens_bool {t : TypeId} (hu : P.underlying t = some .bool) : Opens P C t [.bool] := by
  intro H enc w spare held fuel cs x h
  obtain ⟨b, rfl, _⟩ := DataW.trod_bool hu h
  exact ⟨(b, ()), by simp [encLD, encLD1, VL, V], by simp [encLD, encLD1, DOkL, DOk]⟩
theorem opens_int {t : TypeId} {k : IntKind} (hu : P.underlying t = some (.int k)) : Opens P C t [.int k] := by
  intro H enc w spare held fuel cs x h
  obtain ⟨n, rfl, _, hw⟩ := DataW.trod_int hu h
  exact ⟨(n, ()), by simp [encLD, encLD1, VL, V], by simp [encLD, encLD1, DOkL, DOk, hw]⟩
theorem wf_nat {k : IntKind} (hs : k.signed = false) {n : Int} (h : (Lit.int k n).wf = true) : 0 ≤ n ∧ n < 2 ^ k.bits := by
  cases k <;> simp [IntKind.signed] at hs <;> simp [Lit.wf, IntKind.min, IntKind.max, IntKind.signed, IntKind.bits] at h ⊢ <;> omega
theorem opens_u8 {t : TypeId} (hu : P.underlying t = some (.int .u8)) : Opens P C t [.u8] := by
  intro H enc w spare held fuel cs x h
  obtain ⟨n, rfl, _, hw⟩ := DataW.trod_int hu h
  have hr := wf_nat rfl hw
  simp only [IntKind.bits] at hr
  have e : (((UInt8.ofNat n.toNat).toNat : Nat) : Int) = n := by
    simp only [UInt8.toNat_ofNat']
    omega
  exact ⟨(UInt8.ofNat n.toNat, ()), by simp only [encLD, encLD1, VL, V, e]; exact ⟨_, _, rfl, rfl, rfl⟩, by simp only [encLD, encLD1, DOkL, DOk, e]; exact ⟨hw, trivial⟩⟩
theorem opens_u16 {t : TypeId} (hu : P.underlying t = some (.int .u16)) : Opens P C t [.u16] := by
  intro H enc w spare held fuel cs x h
  obtain ⟨n, rfl, _, hw⟩ := DataW.trod_int hu h
  have hr := wf_nat rfl hw
  simp only [IntKind.bits] at hr
  have e : (((BitVec.ofNat 16 n.toNat).toNat : Nat) : Int) = n := by
    simp only [BitVec.toNat_ofNat]
    omega
  exact ⟨(BitVec.ofNat 16 n.toNat, ()), by simp only [encLD, encLD1, VL, V, e]; exact ⟨_, _, rfl, rfl, rfl⟩, by simp only [encLD, encLD1, DOkL, DOk, e]; exact ⟨hw, trivial⟩⟩
theorem opens_u32 {t : TypeId} (hu : P.underlying t = some (.int .u32)) : Opens P C t [.u32] := by
  intro H enc w spare held fuel cs x h
  obtain ⟨n, rfl, _, hw⟩ := DataW.trod_int hu h
  have hr := wf_nat rfl hw
  simp only [IntKind.bits] at hr
  have e : (((BitVec.ofNat 32 n.toNat).toNat : Nat) : Int) = n := by
    simp only [BitVec.toNat_ofNat]
    omega
  exact ⟨(BitVec.ofNat 32 n.toNat, ()), by simp only [encLD, encLD1, VL, V, e]; exact ⟨_, _, rfl, rfl, rfl⟩, by simp only [encLD, encLD1, DOkL, DOk, e]; exact ⟨hw, trivial⟩⟩
theorem opens_u64 {t : TypeId} (hu : P.underlying t = some (.int .u64)) : Opens P C t [.u64] := by
  intro H enc w spare held fuel cs x h
  obtain ⟨n, rfl, _, hw⟩ := DataW.trod_int hu h
  have hr := wf_nat rfl hw
  simp only [IntKind.bits] at hr
  have e : (((BitVec.ofNat 64 n.toNat).toNat : Nat) : Int) = n := by
    simp only [BitVec.toNat_ofNat]
    omega
  exact ⟨(BitVec.ofNat 64 n.toNat, ()), by simp only [encLD, encLD1, VL, V, e]; exact ⟨_, _, rfl, rfl, rfl⟩, by simp only [encLD, encLD1, DOkL, DOk, e]; exact ⟨hw, trivial⟩⟩
theorem opens_str {t : TypeId} (hu : P.underlying t = some .string) : Opens P C t [.str] := by
  intro H enc w spare held fuel cs x h
  obtain ⟨s, rfl, _, hw⟩ := DataW.trod_string hu h
  refine ⟨(s.data.toList, ()), ?_, ?_⟩
  · simp only [encLD, encLD1, VL, V]
    exact ⟨_, _, rfl, rfl, rfl⟩
  · simp only [encLD, encLD1, DOkL, DOk]
    refine ⟨?_, trivial⟩
    have e : s.data.toList.length = s.size := by rw [Array.length_toList]; rfl
    rw [e]
    exact hw

/-! ### a slice -/
theorem opens_slice {t e : TypeId} {c : Nat} {ls : List Lf} {of : tyLs T ls → T c} (hu : P.underlying t = some (.slice e)) (ho : Opens P C e ls) (he : ∀ y, C.encD c (of y) = encLD C ls y)
    (hs : P.cellsOf e = ls.length) (hz : C.sz c = ls.length) (hp : 0 < ls.length) : Opens P C t [.rs c] := by
  intro H enc w spare held fuel cs x h
  rcases DataW.trod_slice hu h with ⟨rfl, rfl⟩ | ⟨a, len, cap, elems, rest, n, _, rfl, rfl, _, hl, hm, hlen, hel, _, _⟩
  · refine ⟨([], ()), ?_, ?_⟩
    · simp only [encLD, encLD1, VL, V]
      exact ⟨_, _, rfl, .inl ⟨rfl, _, _, rfl⟩, rfl⟩
    · simp [encLD, encLD1, DOkL, DOk, DOkR]
  · -- each element
    have each : ∀ i, i < len → ∃ y : tyLs T ls, ∃ cs', w.cells? 0 (a.add (i * ls.length)) ls.length = some cs' ∧ VL (All w) w (encLD C ls y) free cs' ∧ DOkL (encLD C ls y) := by
      intro i hi
      have h1 := hel i hi
      rw [hs, show elems[i]? = some (elems[i]'(by omega)) from List.getElem?_eq_getElem (by omega), Option.bind_eq_some_iff] at h1
      obtain ⟨cs', hc, ht⟩ := h1
      obtain ⟨y, hy, hd⟩ := ho H enc w spare held n cs' _ ht
      exact ⟨y, cs', hc, hy, hd⟩
    by_cases h0 : len = 0
    · subst h0
      refine ⟨([], ()), ?_, ?_⟩
      · simp only [encLD, encLD1, VL, V]
        exact ⟨_, _, rfl, .inl ⟨rfl, _, _, rfl⟩, rfl⟩
      · simp [encLD, encLD1, DOkL, DOk, DOkR]
    · -- the address is a plain one
      obtain ⟨y0, cs0, hc0, _, _⟩ := each 0 (by omega)
      have hcell := (World.cells?_some hc0).2.2 0 hp
      have hsp : a.spot = none ∧ a.block < w.heap.size := by
        have e1 : (a.add (0 * ls.length)).add 0 = a := by simp [Addr.add]
        rw [e1] at hcell
        have hlen0 : cs0[0]? ≠ none := by
          have hl0 := (World.cells?_some hc0).2.1
          simp only [ne_eq, List.getElem?_eq_none_iff]
          omega
        cases hv : cs0[0]? with
        | none => exact absurd hv hlen0
        | some v =>
          rw [hv] at hcell
          unfold World.cell? at hcell
          split at hcell
          · rename_i c t' fz hq
            constructor
            · cases hs' : a.spot with
              | none => rfl
              | some k => simp [hs'] at hcell
            · exact (Array.getElem?_eq_some_iff.1 hq).1
          · cases hcell
      obtain ⟨ab, ao, asp⟩ := a
      simp only at hsp
      obtain ⟨rfl, hblk⟩ := hsp
      have step : ∀ (m : Nat) (j : Nat), j + m = len → ∃ l : List (T c), l.length = m ∧ VR (All w) w ls.length (l.map (C.encD c)) ab (ao + j * ls.length) ∧ DOkR (l.map (C.encD c)) := by
        intro m
        induction m with
        | zero => intro j _; exact ⟨[], rfl, by simp [VR], by simp [DOkR]⟩
        | succ m ih =>
          intro j hj
          obtain ⟨l, hl1, hl2, hl3⟩ := ih (j + 1) (by omega)
          obtain ⟨y, cs', hc, hv, hd⟩ := each j (by omega)
          refine ⟨of y :: l, by simp [hl1], ?_, ?_⟩
          · simp only [List.map_cons, VR]
            refine ⟨by rw [he, encLD_length], ?_, ?_⟩
            · rw [he]
              refine VC_of ls y cs' _ hv fun i v hi => ?_
              have hcs := World.cells?_some hc
              have hi' : i < ls.length := by
                have := (List.getElem?_eq_some_iff.1 hi).1
                omega
              have := hcs.2.2 i hi'
              rw [hi] at this
              rw [← this]
              congr 1
              simp only [Addr.add]
              split <;> split <;> simp_all <;> omega
            · rwa [show ao + j * ls.length + ls.length = ao + (j + 1) * ls.length by rw [Nat.succ_mul]; omega]
          · simp only [List.map_cons, DOkR]
            exact ⟨by rw [he]; exact hd, hl3⟩
      obtain ⟨l, hl1, hl2, hl3⟩ := step len 0 (by omega)
      refine ⟨(l, ()), ?_, ?_⟩
      · simp only [encLD, encLD1, VL, V]
        refine ⟨_, _, rfl, .inr ⟨ab, ao, cap, ?_, ?_, hblk, ?_⟩, rfl⟩
        · simp [hl1]
        · simpa [hl1] using hl
        · rw [hz]; simpa using hl2
      · simp only [encLD, encLD1, DOkL, DOk]
        exact ⟨⟨by simp [hl1]; omega, hl3⟩, trivial⟩

/-! ### a struct -/
def OpensFs (P : Program) (C : Cd T) : List Field → Nat → List Lf → Prop
  | [], _, ls => ls = []
  | f :: r, pos, ls => ∃ a b, ls = a ++ b ∧ f.offset = pos ∧ P.cellsOf f.type = a.length ∧ Opens P C f.type a ∧ OpensFs P C r (pos + a.length) b
theorem opensFs_nil {pos : Nat} : OpensFs P C [] pos [] := rfl
theorem opensFs_cons {f : Field} {r : List Field} {pos : Nat} {a b : List Lf} (h1 : f.offset = pos) (h2 : P.cellsOf f.type = a.length) (h3 : Opens P C f.type a) (h4 : OpensFs P C r (pos + a.length) b) : OpensFs P C (f :: r) pos (a ++ b) :=
  ⟨a, b, rfl, h1, h2, h3, h4⟩

theorem opensFs_ok {H : Type} {enc : TypeId × Value → H} {spare : Nat → Bool} {held : Bool} {n : Nat} : ∀ (fs : List Field) (pos : Nat) (ls : List Lf) (cs : List Value) (xs : List (DataW H × List MemPlace)), OpensFs P C fs pos ls → xs.length = fs.length → cs.length = pos + ls.length →
    (∀ (i : Nat) (f : Field), fs[i]? = some f → DataW.trod enc P w 0 spare held n f.type ((cs.drop f.offset).take (P.cellsOf f.type)) = xs[i]?) → ∃ y : tyLs T ls, VL (All w) w (encLD C ls y) free (cs.drop pos) ∧ DOkL (encLD C ls y)
  | [], pos, ls, cs, xs, ho, hx, hl, _ => by
    cases ho
    refine ⟨(), ?_, trivial⟩
    simp only [encLD, VL]
    apply List.drop_eq_nil_of_le
    simp at hl; omega
  | f :: r, pos, ls, cs, xs, ho, hx, hl, ht => by
    obtain ⟨a, b, rfl, h1, h2, h3, h4⟩ := ho
    have q := ht 0 f rfl
    rw [h1, h2] at q
    cases xs with
    | nil => cases hx
    | cons x xr =>
      obtain ⟨y1, hy1, hd1⟩ := h3 H enc w spare held n _ x q
      obtain ⟨y2, hy2, hd2⟩ := opensFs_ok r (pos + a.length) b cs xr h4 (by simpa using hx) (by simp at hl; omega) (fun i f hf => ht (i + 1) f (by simpa using hf))
      refine ⟨joinL a b y1 y2, ?_, ?_⟩
      · rw [encLD_join]
        have e : cs.drop pos = (cs.drop pos).take a.length ++ cs.drop (pos + a.length) := by
          rw [← List.drop_drop, List.take_append_drop]
        rw [e]
        exact VL_append hy1 hy2
      · rw [encLD_join]; exact DOkL_append hd1 hd2
theorem opens_struct {t : TypeId} {fs : Array Field} {ls : List Lf} (hu : P.underlying t = some (.struct fs)) (ho : OpensFs P C fs.toList 0 ls) (hs : P.cellsOf t = ls.length) : Opens P C t ls := by
  intro H enc w spare held fuel cs x h
  obtain ⟨xs, n, _, _, hl, hxl, hf⟩ := DataW.trod_struct hu h
  obtain ⟨y, h1, h2⟩ := opensFs_ok (C := C) (w := w) fs.toList 0 ls cs xs ho (by simpa using hxl) (by omega) (fun i f hi => hf i f (by simpa using hi))
  exact ⟨y, by simpa using h1, h2⟩

/-- the same, by the fields' types and places alone. -/
def OpensTs (P : Program) (C : Cd T) : List (TypeId × Nat) → Nat → List Lf → Prop
  | [], _, ls => ls = []
  | f :: r, pos, ls => ∃ a b, ls = a ++ b ∧ f.2 = pos ∧ P.cellsOf f.1 = a.length ∧ Opens P C f.1 a ∧ OpensTs P C r (pos + a.length) b
theorem opensTs_nil {pos : Nat} : OpensTs P C [] pos [] := rfl
theorem opensTs_cons {t o : Nat} {r : List (TypeId × Nat)} {pos : Nat} {a b : List Lf} (h1 : o = pos) (h2 : P.cellsOf t = a.length) (h3 : Opens P C t a) (h4 : OpensTs P C r (pos + a.length) b) : OpensTs P C ((t, o) :: r) pos (a ++ b) :=
  ⟨a, b, rfl, h1, h2, h3, h4⟩
theorem opensFs_of : ∀ (fs : List Field) (ps : List (TypeId × Nat)) (pos : Nat) (ls : List Lf), fs.map (fun f => (f.type, f.offset)) = ps → OpensTs P C ps pos ls → OpensFs P C fs pos ls
  | [], _, _, _, h, ho => by subst h; exact ho
  | f :: r, _, pos, ls, h, ho => by
    subst h
    obtain ⟨a, b, h1, h2, h3, h4, h5⟩ := ho
    exact ⟨a, b, h1, h2, h3, h4, opensFs_of r _ _ b rfl h5⟩
theorem opens_struct2 {t : TypeId} {fs : Array Field} {ps : List (TypeId × Nat)} {ls : List Lf} (hu : P.underlying t = some (.struct fs)) (hp : fs.toList.map (fun f => (f.type, f.offset)) = ps) (ho : OpensTs P C ps 0 ls) (hs : P.cellsOf t = ls.length) : Opens P C t ls :=
  opens_struct hu (opensFs_of _ ps 0 ls hp ho) hs

/-! ### arguments -/
def ArgOk (P : Program) (C : Cd T) (t : TypeId) (vt : VT) : Prop :=
  ∀ (H : Type) (enc : TypeId × Value → H) (w : World) (r : Reach) (base : Nat) (v : Value) (d : DataW H) (p : List MemPlace), Value.okWide P w r base t v → DataW.Trod enc P w 0 (fun _ => true) true t v d p →
    ∃ x : vt.ty T, V (All w) w (den C (encV C vt x)) free v ∧ DOk (den C (encV C vt x))

theorem cells_one {v : Value} (h : ∀ cs, v ≠ .agg cs) : v.cells.toList = [v] := by
  cases v <;> first | rfl | exact absurd rfl (h _)
theorem okWide_notAgg {t : TypeId} {w : World} {r : Reach} {base : Nat} {v : Value} (h : Value.okWide P w r base t v) (h1 : ∀ fs, P.underlying t ≠ some (.struct fs)) (h2 : ∀ n e, P.underlying t ≠ some (.array n e)) : ∀ cs, v ≠ .agg cs := by
  rintro cs rfl
  unfold Value.okWide at h
  split at h
  · rename_i fs hq; exact h1 _ hq
  · rename_i n e hq; exact h2 _ _ hq
  · unfold Cell.okWide at h
    split at h <;> simp_all [Cell.ok]

theorem arg_leaf {t : TypeId} {l : Lf} {vt : VT} (ho : Opens P C t [l]) (h1 : ∀ fs, P.underlying t ≠ some (.struct fs)) (h2 : ∀ n e, P.underlying t ≠ some (.array n e)) (of : l.ty T → vt.ty T) (he : ∀ x, den C (encV C vt (of x)) = encLD1 C l x) : ArgOk P C t vt := by
  intro H enc w r base v d p hok ⟨fuel, ht⟩
  obtain ⟨y, hy, hd⟩ := ho H enc w _ _ fuel _ _ ht
  rw [cells_one (okWide_notAgg hok h1 h2)] at hy
  refine ⟨of y.1, ?_, ?_⟩
  · rw [he]
    change VL (All w) w (encLD1 C l y.1 :: encLD C [] y.2) free [v] at hy
    simp only [VL] at hy
    obtain ⟨v', vr, h3, h4, _⟩ := hy
    simp only [List.cons.injEq] at h3
    rw [h3.1]; exact h4
  · rw [he]
    change DOkL (encLD1 C l y.1 :: encLD C [] y.2) at hd
    simp only [DOkL] at hd
    exact hd.1
theorem arg_struct {t : TypeId} {fs : Array Field} {ls : List Lf} {c : Nat} {of : tyLs T ls → T c} (hu : P.underlying t = some (.struct fs)) (ho : Opens P C t ls) (he : ∀ y, C.encD c (of y) = encLD C ls y) (hC : CdOk C) : ArgOk P C t (.agg c) := by
  intro H enc w r base v d p hok ⟨fuel, ht⟩
  obtain ⟨y, hy, hd⟩ := ho H enc w _ _ fuel _ _ ht
  unfold Value.okWide at hok
  rw [hu] at hok
  obtain ⟨cs, rfl, _, _⟩ := hok
  have e : den C (encV C (.agg c) (of y)) = .agg (encLD C ls y) := by
    show D.agg (denL C (C.enc c (of y))) = _
    rw [hC.enc, he]
  refine ⟨of y, ?_, ?_⟩
  · rw [e]
    simp only [V]
    refine ⟨cs.toList, by simp, ?_, by simpa [Value.cells] using hy⟩
    have hy' : VL (All w) w (encLD C ls y) free cs.toList := by simpa [Value.cells] using hy
    clear hd e hy ht he ho
    generalize cs.toList = l at hy'
    induction ls generalizing l with
    | nil => simp only [encLD, VL] at hy'; subst hy'; simp
    | cons a b ih =>
      change VL (All w) w (encLD1 C a y.1 :: encLD C b y.2) free l at hy'
      simp only [VL] at hy'
      obtain ⟨v, vr, rfl, h1, h2⟩ := hy'
      intro x hx
      rcases List.mem_cons.1 hx with rfl | hx
      · exact leaf_one h1
      · exact ih (of := fun q => of (y.1, q)) y.2 vr h2 x hx
  · rw [e]
    simp only [DOk]
    exact hd

/-- the list of a law's arguments. -/
def ArgsOk (P : Program) (C : Cd T) : List TypeId → List VT → Prop
  | [], vs => vs = []
  | t :: ts, vs => ∃ v r, vs = v :: r ∧ ArgOk P C t v ∧ ArgsOk P C ts r
theorem argsOk_nil : ArgsOk P C [] [] := rfl
theorem argsOk_cons {t : TypeId} {ts : List TypeId} {v : VT} {r : List VT} (h : ArgOk P C t v) (h2 : ArgsOk P C ts r) : ArgsOk P C (t :: ts) (v :: r) := ⟨v, r, rfl, h, h2⟩
def slots (vs : List VT) : List Slot := vs.map fun v => .f (.v v)
def ArgD (C : Cd T) : (vs : List VT) → tySs T (slots vs) → Prop
  | [], _ => True
  | v :: r, x => DOk (den C (encV C v x.1)) ∧ ArgD C r x.2

theorem args_open {H : Type} {enc : TypeId × Value → H} {rr : Reach} {base : Nat} : ∀ {ts : List TypeId} {vts : List VT} {vs : List Value} {ds : List (DataW H)} {p : List MemPlace}, ArgsOk P C ts vts → (∀ (j : Nat) (t : TypeId) (v : Value), ts[j]? = some t → vs[j]? = some v → Value.okWide P w rr base t v) →
    DataW.TrodAll enc P w 0 (fun _ => true) true ts vs ds p → ∃ x : tySs T (slots vts), SVSs C (All w) w (slots vts) x vs none' ∧ ArgD C vts x
  | [], vts, vs, ds, p, ha, _, ht => by
    cases ha
    cases vs <;> cases ds <;> simp only [DataW.TrodAll] at ht
    exact ⟨(), rfl, trivial⟩
  | t :: ts, vts, vs, ds, p, ha, hok, ht => by
    obtain ⟨vt, vr, rfl, h1, h2⟩ := ha
    cases vs with
    | nil => simp only [DataW.TrodAll] at ht
    | cons v vs =>
      cases ds with
      | nil => simp only [DataW.TrodAll] at ht
      | cons d ds =>
        obtain ⟨p1, q1, h3, h4, _⟩ := ht
        obtain ⟨x, hx1, hx2⟩ := h1 H enc w rr base v d p1 (hok 0 t v rfl rfl) h3
        obtain ⟨y, hy1, hy2⟩ := args_open h2 (fun j t v a b => hok (j + 1) t v (by simpa using a) (by simpa using b)) h4
        exact ⟨(x, y), ⟨v, vs, none', none', rfl, hx1, hy1, fun _ h => h, fun _ h => h, fun _ h => h.elim⟩, hx2, hy2⟩

theorem dok_len {c : Nat} {l : List (T c)} (h : DOk (den C (encV C (.rs c) l))) : l.length < 9223372036854775808 := by
  change DOk (.rs (C.sz c) (l.map (C.encD c))) at h
  simp only [DOk, List.length_map, maxLen] at h
  omega
theorem dok_str {l : List UInt8} (h : DOk (den C (encV C .str l))) : l.length < 9223372036854775808 := by
  change DOk (.str l) at h
  simp only [DOk, maxLen] at h
  omega
theorem dok_int {k : IntKind} {n : Int} (h : DOk (den C (encV C (.int k) n))) : (Lit.int k n).wf = true := h
theorem dok_i64 {n : Int} (h : DOk (den C (encV C (.int .i64) n))) : -9223372036854775808 ≤ n ∧ n < 9223372036854775808 := by
  have := dok_int h
  simp [Lit.wf, IntKind.min, IntKind.max, IntKind.signed, IntKind.bits] at this
  omega

/-! ### the call -/
theorem law_calls {G : Nat → Option (List D)} {f : FuncId} {S : FSpec T} {vts : List VT} {args : List Value} (hs : SoundT P C G f S) (hps : S.ps = slots vts) (hrs : S.rs = [.v .bool]) (x : tySs T (slots vts)) (hx : SVSs C (All w) w (slots vts) x args none')
    (hg : Glob G (All w) w) (hf : ∀ r, S.fn (hps ▸ x) = r → ∃ o b, r = some (o, b) ∧ b = (hrs ▸ (true, ()))) : Calls P f args.toArray w fun e w' => e = .returned (.bool true) ∧ RowKit.Below w.heap.size w w' := by
  obtain ⟨ps, rs, F⟩ := S
  simp only at hps hrs
  subst hps; subst hrs
  obtain ⟨o, b, hr, hb⟩ := hf _ rfl
  simp only at hb hr
  refine (hs.2 (All w) none' w args x (o, b) (fun _ h => h) (fun _ h => h.elim) hg hx hr).mono ?_
  rintro e w' ⟨vs, I', o1, o2, rfl, hfr, _, _, _, _, _, _, _, hv⟩
  subst hb
  simp only [SVVs] at hv
  obtain ⟨v, vr, _, _, rfl, h1, rfl, _⟩ := hv
  simp only [SVV, encV, den, V] at h1
  subst h1
  exact ⟨rfl, hfr.os, hfr.tape, hfr.output, hfr.size, fun k hk => hfr.block k hk (fun h => by rcases h with h | h; exact h; omega)⟩

/-- each argument reads behind the call as it did before. -/
theorem trodAll_stay {H : Type} {enc : TypeId × Value → H} {W W' : World} (hl : laidOutB P = true) (hb : RowKit.Below W.heap.size W W') : ∀ {ts : List TypeId} {vs : List Value} {ds : List (DataW H)} {p : List MemPlace}, (∀ t ∈ ts, P.readableRec t = true ∧ t < P.types.size) → (∀ x ∈ p, x.block < W.heap.size) →
    DataW.TrodAll enc P W 0 (fun _ => true) true ts vs ds p → DataW.TrodAll enc P W' 0 (fun b => decide (b < W.heap.size)) true ts vs ds p
  | [], vs, ds, p, _, _, h => by
    cases vs <;> cases ds <;> simp only [DataW.TrodAll] at h ⊢
    exact h
  | t :: ts, vs, ds, p, hr, hlt, h => by
    cases vs with
    | nil => simp only [DataW.TrodAll] at h
    | cons v vs =>
      cases ds with
      | nil => simp only [DataW.TrodAll] at h
      | cons d ds =>
        obtain ⟨p1, q1, h3, h4, rfl⟩ := h
        have ht := hr t (by simp)
        exact ⟨p1, q1, RowKit.Below.trod hl ht.1 ht.2 h3 hb (fun x hx => hlt x (by simp [hx])), trodAll_stay hl hb (fun t ht => hr t (by simp [ht])) (fun x hx => hlt x (by simp [hx])) h4, rfl⟩
end
end Go.Abs

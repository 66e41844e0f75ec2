/- Contracts out of the kit's own theorems on library functions. No condition. -/
import Derived.Test.YtlbafgkhnhkanaaDoorTyZ
import Derived.Below
namespace Go.Abs
open Go
set_option linter.unusedSimpArgs false

section
variable {T : Nat → Type} {C : Cd T} {P : Program}

theorem outs_none {I : Nat → Prop} {w w2 : World} {own own2 : Nat → Prop} {I2 : Nat → Prop} : ∀ (vts : List VT) (o : tyO T (slots vts)) (x : tySs T (slots vts)) (args : List Value), SVSs C I w (slots vts) x args own → SVOuts C I2 w2 (slots vts) o args own2
  | [], _, _, _, _ => trivial
  | v :: r, o, x, args, h => by
    obtain ⟨v, vr, o1, o2, rfl, h1, h2, _⟩ := h
    exact ⟨v, vr, rfl, outs_none r o x.2 vr h2⟩

/-- a function that is handed plain values, hands back one value without memory, and leaves what was there as it was. -/
theorem sound_below {G : Nat → Option (List D)} {f : FuncId} {vts : List VT} {rts : List VT} {F : tySs T (slots vts) → Option (tyO T (slots vts) × tyFs T (rts.map Fld.v))}
    (hfn : ∃ fn, P.funcs[f]? = some fn ∧ fn.body.isSome = true ∧ (fn.name == "runtime.NumGoroutine") = false)
    (h : ∀ (I own : Nat → Prop) (w : World) (args : List Value) (x : tySs T (slots vts)) (r : tyO T (slots vts) × tyFs T (rts.map Fld.v)), Glob G I w → SVSs C I w (slots vts) x args own → F x = some r →
      ∃ vs, (∀ (I' : Nat → Prop) (w' : World), SVVs C I' w' (rts.map Fld.v) r.2 vs none') ∧ Calls P f args.toArray w fun e w' => e = .returned (resV vs) ∧ RowKit.Below w.heap.size w w') :
    SoundT P C G f ⟨slots vts, rts.map Fld.v, F⟩ := by
  refine ⟨hfn, fun I own w args x r hI hown hG hv hF => ?_⟩
  obtain ⟨vs, h1, h2⟩ := h I own w args x r hG hv hF
  refine h2.mono ?_
  rintro e w' ⟨rfl, hb⟩
  refine ⟨vs, I, none', none', rfl, ⟨hb.os, hb.tape, hb.output, hb.size, fun b hb1 _ => hb.block b hb1⟩, ?_, fun _ h => h, fun _ h => .inl h, fun k hk => Nat.lt_of_lt_of_le (hI k hk) hb.size, fun k hk => by rcases hk with hk | hk <;> exact hk.elim, fun k hk => hk.elim, outs_none vts _ _ _ hv, h1 I w'⟩
  intro b
  by_cases hlt : b < w.heap.size
  · unfold rowSize; rw [hb.block b hlt]; exact Nat.le_refl _
  · unfold rowSize
    have : w.heap[b]? = none := by simp; omega
    simp [this]

/-- cells of a table. -/
theorem VC_get {I : Nat → Prop} {w : World} {b : Nat} : ∀ {cs : List D} {o i : Nat} {d : D}, VC I w cs b o → cs[i]? = some d → ∃ c, w.cell? ⟨b, o + i, none⟩ = some c ∧ V I w d free c
  | [], _, _, _, _, h => by simp at h
  | d :: r, o, 0, d', hv, h => by
    simp only [VC] at hv
    obtain ⟨⟨c, h1, _, h2⟩, _⟩ := hv
    simp only [List.getElem?_cons_zero, Option.some.injEq] at h
    subst h
    exact ⟨c, h1, h2⟩
  | d :: r, o, i + 1, d', hv, h => by
    simp only [VC] at hv
    obtain ⟨c, h1, h2⟩ := VC_get (o := o + 1) (i := i) hv.2 (by simpa using h)
    exact ⟨c, by rw [show o + (i + 1) = o + 1 + i by omega]; exact h1, h2⟩
theorem VC_mk {I : Nat → Prop} {w : World} {b : Nat} : ∀ {cs : List D} {o : Nat}, (∀ i d, cs[i]? = some d → ∃ c, w.cell? ⟨b, o + i, none⟩ = some c ∧ c.oneCell' = true ∧ V I w d free c) → VC I w cs b o
  | [], _, _ => by simp only [VC]
  | d :: r, o, h => by
    simp only [VC]
    refine ⟨?_, VC_mk fun i d' hi => ?_⟩
    · exact h 0 d rfl
    · have := h (i + 1) d' (by simpa using hi)
      rwa [show o + (i + 1) = o + 1 + i by omega] at this
/-- a table of numbers. -/
def tabD (k : IntKind) (l : List Int) : List D := l.map fun n => .int k n
theorem glob_tab {I : Nat → Prop} {w : World} {k : IntKind} {l : List Int} {b : Nat} (h : VC I w (tabD k l) b 0) {i : Nat} {n : Int} (hn : l[i]? = some n) : w.cell? ⟨b, i, none⟩ = some (.int k n) := by
  obtain ⟨c, h1, h2⟩ := VC_get (i := i) (d := .int k n) h (by simp [tabD, hn])
  simp only [V] at h2
  rw [← h2, ← h1]
  simp
theorem tab_glob {w : World} {I : Nat → Prop} {k : IntKind} {l : List Int} {b : Nat} (h : ∀ i n, l[i]? = some n → w.cell? ⟨b, i, none⟩ = some (.int k n)) : VC I w (tabD k l) b 0 := by
  refine VC_mk fun i d hi => ?_
  simp only [tabD, List.getElem?_map, Option.map_eq_some_iff] at hi
  obtain ⟨n, hn, rfl⟩ := hi
  exact ⟨_, by rw [Nat.zero_add]; exact h i n hn, rfl, by simp [V]⟩
end
end Go.Abs

/- Contracts out of the kit's own theorems on library functions. No condition. -/
import Derived.Test.YtlinfghjilpcdaaTyZ
import Derived.Below
import Derived.Laws.AppendOwn
namespace Go.Abs
open Go
set_option linter.unusedSimpArgs false

section
variable {T : Nat → Type} {C : Cd T} {P : Program}

theorem outs_none {I : Nat → Prop} {w w2 : World} {own own2 : Nat → Prop} {I2 : Nat → Prop} : ∀ (vts : List VT) (o : tyO T (slots vts)) (x : tySs T (slots vts)) (args : List Value), SVSs C I w (slots vts) x args own → SVOuts C I2 w2 (slots vts) o args own2
  | [], _, _, _, _ => trivial
  | v :: r, o, x, args, h => by
    obtain ⟨v, vr, o1, o2, rfl, h1, h2, _⟩ := h
    exact ⟨v, vr, rfl, outs_none r o x.2 vr h2⟩

/-- a function that is handed plain values, hands back one value without memory, and leaves what was there as it was. -/
theorem sound_below {G : Nat → Option (List D)} {f : FuncId} {vts : List VT} {rts : List VT} {F : tySs T (slots vts) → Option (tyO T (slots vts) × tyFs T (rts.map Fld.v))}
    (hfn : ∃ fn, P.funcs[f]? = some fn ∧ fn.body.isSome = true ∧ (fn.name == "runtime.NumGoroutine") = false)
    (h : ∀ (I own : Nat → Prop) (w : World) (args : List Value) (x : tySs T (slots vts)) (r : tyO T (slots vts) × tyFs T (rts.map Fld.v)), Glob G I w → SVSs C I w (slots vts) x args own → F x = some r →
      ∃ vs, (∀ (I' : Nat → Prop) (w' : World), SVVs C I' w' (rts.map Fld.v) r.2 vs none') ∧ Calls P f args.toArray w fun e w' => e = .returned (resV vs) ∧ RowKit.Below w.heap.size w w') :
    SoundT P C G f ⟨slots vts, rts.map Fld.v, F⟩ := by
  refine ⟨hfn, fun I own w args x r hI hown hG hv hF => ?_⟩
  obtain ⟨vs, h1, h2⟩ := h I own w args x r hG hv hF
  refine h2.mono ?_
  rintro e w' ⟨rfl, hb⟩
  refine ⟨vs, I, none', none', rfl, ⟨hb.os, hb.tape, hb.output, hb.size, fun b hb1 _ => hb.block b hb1⟩, ?_, fun _ h => h, fun _ h => .inl h, fun k hk => Nat.lt_of_lt_of_le (hI k hk) hb.size, fun k hk => by rcases hk with hk | hk <;> exact hk.elim, fun k hk => hk.elim, outs_none vts _ _ _ hv, h1 I w'⟩
  intro b
  by_cases hlt : b < w.heap.size
  · unfold rowSize; rw [hb.block b hlt]; exact Nat.le_refl _
  · unfold rowSize
    have : w.heap[b]? = none := by simp; omega
    simp [this]

/-- cells of a table. -/
theorem VC_get {I : Nat → Prop} {w : World} {b : Nat} : ∀ {cs : List D} {o i : Nat} {d : D}, VC I w cs b o → cs[i]? = some d → ∃ c, w.cell? ⟨b, o + i, none⟩ = some c ∧ V I w d free c
  | [], _, _, _, _, h => by simp at h
  | d :: r, o, 0, d', hv, h => by
    simp only [VC] at hv
    obtain ⟨⟨c, h1, _, h2⟩, _⟩ := hv
    simp only [List.getElem?_cons_zero, Option.some.injEq] at h
    subst h
    exact ⟨c, h1, h2⟩
  | d :: r, o, i + 1, d', hv, h => by
    simp only [VC] at hv
    obtain ⟨c, h1, h2⟩ := VC_get (o := o + 1) (i := i) hv.2 (by simpa using h)
    exact ⟨c, by rw [show o + (i + 1) = o + 1 + i by omega]; exact h1, h2⟩
theorem VC_mk {I : Nat → Prop} {w : World} {b : Nat} : ∀ {cs : List D} {o : Nat}, (∀ i d, cs[i]? = some d → ∃ c, w.cell? ⟨b, o + i, none⟩ = some c ∧ c.oneCell' = true ∧ V I w d free c) → VC I w cs b o
  | [], _, _ => by simp only [VC]
  | d :: r, o, h => by
    simp only [VC]
    refine ⟨?_, VC_mk fun i d' hi => ?_⟩
    · exact h 0 d rfl
    · have := h (i + 1) d' (by simpa using hi)
      rwa [show o + (i + 1) = o + 1 + i by omega] at this
/-- bytes that lie one after another. -/
def byteD (c : UInt8) : List D := [.int .u8 c.toNat]
theorem VR_bytes {I : Nat → Prop} {w : World} {b : Nat} : ∀ {l : List UInt8} {o i : Nat} {c : UInt8}, VR I w 1 (l.map byteD) b o → l[i]? = some c → w.cell? ⟨b, o + i, none⟩ = some (.int .u8 c.toNat)
  | [], _, _, _, _, h => by simp at h
  | d :: r, o, 0, c, hv, h => by
    simp only [List.map_cons, VR, byteD, VC] at hv
    obtain ⟨_, ⟨⟨v, h1, _, h2⟩, _⟩, _⟩ := hv
    simp only [V] at h2
    simp only [List.getElem?_cons_zero, Option.some.injEq] at h
    subst h
    rw [← h2]; exact h1
  | d :: r, o, i + 1, c, hv, h => by
    simp only [List.map_cons, VR] at hv
    have := VR_bytes (o := o + 1) (i := i) hv.2.2 (by simpa using h)
    rwa [show o + (i + 1) = o + 1 + i by omega]
theorem VR_of_bytes {I : Nat → Prop} {w : World} {b : Nat} : ∀ {l : List UInt8} {o : Nat}, (∀ i c, l[i]? = some c → w.cell? ⟨b, o + i, none⟩ = some (.int .u8 c.toNat)) → VR I w 1 (l.map byteD) b o
  | [], _, _ => by simp only [List.map_nil, VR]
  | d :: r, o, h => by
    simp only [List.map_cons, VR, byteD, VC]
    refine ⟨rfl, ⟨⟨_, h 0 d rfl, rfl, by simp [V]⟩, trivial⟩, VR_of_bytes fun i c hi => ?_⟩
    have := h (i + 1) c (by simpa using hi)
    rwa [show o + (i + 1) = o + 1 + i by omega] at this

/-- a function that hands back a copy of bytes, in memory of its own. -/
theorem sound_clone {G : Nat → Option (List D)} {f : FuncId} {c : Nat} (hc : T c = UInt8) {F : tySs T (slots [.rs c]) → Option (tyO T (slots [.rs c]) × tyFs T [.own c])}
    (hz : C.sz c = 1) (he : ∀ l : List (T c), l.map (C.encD c) = (cast (congrArg List hc) l).map byteD)
    (hfn : ∃ fn, P.funcs[f]? = some fn ∧ fn.body.isSome = true ∧ (fn.name == "runtime.NumGoroutine") = false) {te : TypeId}
    (hF : ∀ x r, F x = some r → r.2.1 = x.1 ∧ List.length x.1 ≤ 140737488355328)
    (hnil : ∀ (n cap : Nat) (w : World), Calls P f #[.slice none n cap] w fun e w' => e = .returned (.slice none 0 0) ∧ w' = w)
    (hat : ∀ (a : Addr) (n cap : Nat) (xs : List Int) (w : World), xs.length = n → n ≤ 140737488355328 → (∀ i, i < n → w.cell? (a.add i) = some (.int .u8 (xs.getD i 0))) →
      Calls P f #[.slice (some a) n cap] w fun e w' => ∃ v', e = .returned v' ∧ w'.ownsRow w.heap.size te 1 v' n (xs.map (Value.int .u8)) ∧ v' ≠ .slice none 0 0 ∧ RowKit.Below w.heap.size w w') :
    SoundT P C G f ⟨slots [.rs c], [.own c], F⟩ := by
  refine ⟨hfn, fun I own w args x r hI hown hG hv hFx => ?_⟩
  obtain ⟨hr, hlen⟩ := hF x r hFx
  have hv0 := hv
  obtain ⟨v, vr, _, _, rfl, h1, rfl, _⟩ := hv
  change V I w (.rs (C.sz c) (List.map (C.encD c) x.1)) free v at h1
  -- what is left to show, once the copy is known
  have fin : ∀ (a : Addr) (cap : Nat), v = .slice (some a) (List.length x.1) cap → (∀ i b, (cast (congrArg List hc) x.1 : List UInt8)[i]? = some b → w.cell? (a.add i) = some (.int .u8 b.toNat)) → Calls P f #[v] w fun e w' => ∃ vs I' o1 o2, e = .returned (resV vs) ∧ Fr (fun k => own k ∨ w.heap.size ≤ k) w w' ∧ (∀ b, rowSize w b ≤ rowSize w' b) ∧ (∀ k, I k → I' k) ∧ (∀ k, I' k → I k ∨ own k ∨ w.heap.size ≤ k) ∧ (∀ k, I' k → k < w'.heap.size) ∧
      (∀ k, o1 k ∨ o2 k → (own k ∨ w.heap.size ≤ k) ∧ ¬ I' k ∧ k < w'.heap.size) ∧ (∀ k, o1 k → ¬ o2 k) ∧ SVOuts C I' w' (slots [.rs c]) r.1 [v] o1 ∧ SVVs C I' w' [.own c] r.2 vs o2 := by
    intro a cap hva hcell
    generalize hL : (cast (congrArg List hc) x.1 : List UInt8) = L at hcell
    have hLl : L.length = List.length x.1 := by
      rw [← hL]
      have : ∀ {A B : Type} (e : A = B) (l : List A), (cast (congrArg List e) l).length = l.length := by intro A B e l; subst e; rfl
      exact this hc x.1
    subst hva
    refine (hat a (List.length x.1) cap (L.map fun b => (b.toNat : Int)) w (by simp [hLl]) hlen ?_).mono ?_
    · intro i hi
      have hi' : i < L.length := by omega
      rw [hcell i L[i] (by simp [hi'])]
      simp [List.getD_eq_getElem?_getD, hi']
    · rintro e w' ⟨v', rfl, ⟨hxl, hrow⟩, hne, hb⟩
      rcases hrow with ⟨h, _⟩ | ⟨g, cap', cur, hv', hge, hheap, hn, _, hcs, htk⟩
      · exact absurd h hne
      have hg : g < w'.heap.size := (Array.getElem?_eq_some_iff.1 hheap).1
      refine ⟨[v'], I, none', fun k => k = g, rfl, ⟨hb.os, hb.tape, hb.output, hb.size, fun b hb1 _ => hb.block b hb1⟩, ?_, fun _ h => h, fun _ h => .inl h, fun k hk => Nat.lt_of_lt_of_le (hI k hk) hb.size, ?_, fun _ h => h.elim, outs_none [.rs c] _ _ _ hv0, ?_⟩
      · intro b
        by_cases hlt : b < w.heap.size
        · unfold rowSize; rw [hb.block b hlt]; exact Nat.le_refl _
        · unfold rowSize
          have : w.heap[b]? = none := by simp; omega
          simp [this]
      · rintro k (hk | rfl)
        · exact hk.elim
        · exact ⟨.inr hge, fun h => absurd (hI _ h) (by omega), hg⟩
      · refine ⟨v', [], fun k => k = g, none', rfl, ?_, rfl, fun _ h => h, fun _ h => h.elim, fun _ _ h => h⟩
        show SVO C I w' c r.2.1 v' _
        rw [hr]
        refine .inr ⟨g, 0, cap', cur, te, (0, 0), hv', hn, .inr rfl, by rw [hz, hcs]; omega, by rw [hz, hcs]; omega, hheap, fun o ho h => by omega, rfl, ?_⟩
        rw [hz]
        have e3 : List.map (C.encD c) x.1 = List.map byteD L := (he x.1).trans (congrArg (List.map byteD) hL)
        refine Eq.mpr (congrArg (fun z => VR I w' 1 z g 0) e3) (VR_of_bytes fun i b hi => ?_)
        have hi2 : i < L.length := (List.getElem?_eq_some_iff.1 hi).1
        have e1 : cur.toList[i]? = some (.int .u8 b.toNat) := by
          have e2 := congrArg (·[i]?) htk
          simp only [Nat.mul_one] at e2
          rw [List.getElem?_take_of_lt (by omega)] at e2
          rw [e2]
          simp [hi]
        simp only [World.cell?, hheap, Nat.zero_add]
        simpa using e1
  simp only [V] at h1
  rcases h1 with ⟨hrows, p, cap, rfl⟩ | ⟨b, o, cap, rfl, hcap, hIb, hvr⟩
  · have hx0 : x.1 = [] := List.map_eq_nil_iff.1 hrows
    cases p with
    | some a => exact fin a cap (by rw [hx0]; rfl) (fun i b hb => by
        have : (cast (congrArg List hc) x.1 : List UInt8) = [] := by
          rw [hx0]
          have : ∀ {A B : Type} (e : A = B), (cast (congrArg List e) ([] : List A)) = ([] : List B) := by intro A B e; subst e; rfl
          exact this hc
        rw [this] at hb
        simp at hb)
    | none =>
      refine (hnil 0 cap w).mono ?_
      rintro e w' ⟨rfl, rfl⟩
      refine ⟨[.slice none 0 0], I, none', none', rfl, ⟨rfl, rfl, rfl, Nat.le_refl _, fun _ _ _ => rfl⟩, fun _ => Nat.le_refl _, fun _ h => h, fun _ h => .inl h, hI, fun k hk => by rcases hk with hk | hk <;> exact hk.elim, fun _ h => h.elim, outs_none [.rs c] _ _ _ hv0, ?_⟩
      refine ⟨_, [], none', none', rfl, ?_, rfl, fun _ h => h, fun _ h => h, fun _ h => h.elim⟩
      show SVO C I _ c r.2.1 _ _
      rw [hr, hx0]
      exact .inl ⟨rfl, rfl⟩
  · refine fin ⟨b, o, none⟩ cap (congrArg (fun n => Value.slice (some ⟨b, o, none⟩) n cap) (List.length_map (C.encD c))) ?_
    intro i c' hi
    rw [hz] at hvr
    have := VR_bytes (Eq.mp (congrArg (fun z => VR I w 1 z b o) (he x.1)) hvr) hi
    rw [← this]
    congr 1
    simp only [Addr.add]
    split <;> simp_all
/-- a table of numbers. -/
def tabD (k : IntKind) (l : List Int) : List D := l.map fun n => .int k n
theorem glob_tab {I : Nat → Prop} {w : World} {k : IntKind} {l : List Int} {b : Nat} (h : VC I w (tabD k l) b 0) {i : Nat} {n : Int} (hn : l[i]? = some n) : w.cell? ⟨b, i, none⟩ = some (.int k n) := by
  obtain ⟨c, h1, h2⟩ := VC_get (i := i) (d := .int k n) h (by simp [tabD, hn])
  simp only [V] at h2
  rw [← h2, ← h1]
  simp
theorem tab_glob {w : World} {I : Nat → Prop} {k : IntKind} {l : List Int} {b : Nat} (h : ∀ i n, l[i]? = some n → w.cell? ⟨b, i, none⟩ = some (.int k n)) : VC I w (tabD k l) b 0 := by
  refine VC_mk fun i d hi => ?_
  simp only [tabD, List.getElem?_map, Option.map_eq_some_iff] at hi
  obtain ⟨n, hn, rfl⟩ := hi
  exact ⟨_, by rw [Nat.zero_add]; exact h i n hn, rfl, by simp [V]⟩
end
end Go.Abs

/- A law that returns true for all typed arguments: what its statement asks. No condition. -/
import Derived.Test.YtlinfghjilpcdaaTyZ
import Derived.ProofKit
import Derived.Handed
namespace Go.Abs
open Go Go.ChangeShapes Go.WideShapes Go.ChangeAt Go.RowKit
set_option linter.unusedSimpArgs false

section
variable {T : Nat → Type} {C : Cd T} {P : Program}

theorem trodAll_len {H : Type} {enc : TypeId × Value → H} {w : World} {spare : Nat → Bool} {held : Bool} : ∀ {ts : List TypeId} {vs : List Value} {ds : List (DataW H)} {p : List MemPlace}, DataW.TrodAll enc P w 0 spare held ts vs ds p → ds.length = ts.length
  | [], vs, ds, p, h => by cases vs <;> cases ds <;> simp only [DataW.TrodAll] at h <;> rfl
  | t :: ts, vs, ds, p, h => by
    cases vs with
    | nil => simp only [DataW.TrodAll] at h
    | cons v vs =>
      cases ds with
      | nil => simp only [DataW.TrodAll] at h
      | cons d ds =>
        obtain ⟨p1, q1, h3, h4, rfl⟩ := h
        simp [trodAll_len h4]

theorem law_post {G : Nat → Option (List D)} {f : FuncId} {fn : Func} {s : ChangeSpec} {ts : List TypeId} {tb : TypeId} {vts : List VT} {F : tySs T (slots vts) → Option (tyO T (slots vts) × tyFs T [.v .bool])} {H : Type} {enc : TypeId × Value → H} {W : World} {base : Nat} {args : Array Value} {ds gs : List (DataW H)} {before : List MemPlace}
    (hl : laidOutB P = true) (hpar : fn.params.toList = ts) (hres : fn.resultTypes = #[tb]) (hub : P.underlying tb = some .bool) (hr : (ts.all fun t => P.readableRec t && decide (t < P.types.size)) = true) (hargs : ArgsOk P C ts vts)
    (hsv : s.vars = []) (hsp : ∀ ds : List (DataW H), ds.length = ts.length → s.fn H ds = { results := [.lit (.bool true)], args := ds })
    (hs : SoundT P C G f ⟨slots vts, [.v .bool], F⟩) (law : ∀ x, ArgD C vts x → ∃ o, F x = some (o, true, ()))
    (hval : ∀ (j : Nat) t v, fn.params[j]? = some t → args[j]? = some v → Value.okWide P W .any base t v) (hW : DataW.Whole enc P fn.params.toList s.vars false W args.toList ds gs before) (hg : Glob G (All W) W) :
    Calls P f args W fun e W' => ∃ v, e = .returned v ∧ s.post enc P fn false true false false W args v W' := by
  have hW' := hW
  obtain ⟨p, q, hA, hV, rfl, hfz, hnd⟩ := hW
  rw [hsv] at hV
  obtain ⟨rfl, rfl⟩ : gs = [] ∧ q = [] := by
    cases gs <;> simp only [DataW.TrodVars] at hV
    exact ⟨rfl, hV⟩
  rw [hpar] at hA
  obtain ⟨x, hx, hd⟩ := args_open (C := C) (rr := .any) (base := base) hargs (fun j t v a b => hval j t v (by rw [← hpar] at a; simpa using a) (by simpa using b)) hA
  obtain ⟨o, ho⟩ := law x hd
  have hc := law_calls (P := P) (S := ⟨slots vts, [.v .bool], F⟩) hs rfl rfl x hx hg (fun r hr => ⟨o, (true, ()), by rw [← hr]; exact ho, rfl⟩)
  rw [show args.toList.toArray = args by simp] at hc
  refine hc.mono fun e W' ⟨he, bel⟩ => ?_
  subst he
  have hlt : ∀ x ∈ p, x.block < W.heap.size := fun x hx => by simpa using hW'.lt x (by simp [hx])
  have hst := trodAll_stay hl bel (fun t ht => by
    have := List.all_eq_true.1 hr t ht
    simpa using this) hlt hA
  refine ⟨_, rfl, ds, [], p ++ [], [], p, [], hW', ?_, ?_, ?_, bel.frame _, fun h => by cases h⟩
  · rw [List.append_nil, hsp ds (trodAll_len hA), hres]
    exact trodAll_mk1 (shut_bool hub _)
  · rw [List.append_nil, hsp ds (trodAll_len hA), hpar]
    exact hst
  · rw [List.append_nil, hsp ds (trodAll_len hA), hsv]
    rfl
end
end Go.Abs

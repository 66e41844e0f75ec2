/- A law whose first argument is a slice: what its statement asks, where the slice takes no more bytes than a machine has. No condition. -/
import Derived.Test.YtjedfmknnkimmaaDoorLib8
namespace Go.Abs
open Go Go.ChangeShapes Go.WideShapes Go.ChangeAt Go.RowKit
set_option linter.unusedSimpArgs false
set_option linter.unusedVariables false
section
variable {T : Nat → Type} {C : Cd T} {P : Program}
theorem first_len {I : Nat → Prop} {w : World} {c : Nat} {vts : List VT} {x : tySs T (slots (.rs c :: vts))} {args : List Value} {own : Nat → Prop} (h : SVSs C I w (slots (.rs c :: vts)) x args own) : ∃ v vr, args = v :: vr ∧ (∀ a n cap, v = .slice a n cap → n = List.length x.1) ∧ ∃ a n cap, v = .slice a n cap := by
  obtain ⟨v, vr, _, _, rfl, h1, _⟩ := h
  change V I w (.rs (C.sz c) (List.map (C.encD c) x.1)) free v at h1
  refine ⟨v, vr, rfl, ?_, ?_⟩
  · intro a n cap hv
    simp only [V] at h1
    rcases h1 with ⟨hrows, p, cap', rfl⟩ | ⟨b, o, cap', rfl, _⟩
    · have : x.1 = [] := List.map_eq_nil_iff.1 hrows
      rw [this]
      cases hv
      rfl
    · cases hv
      exact List.length_map (C.encD c)
  · simp only [V] at h1
    rcases h1 with ⟨hrows, p, cap', rfl⟩ | ⟨b, o, cap', rfl, _⟩
    · exact ⟨_, _, _, rfl⟩
    · exact ⟨_, _, _, rfl⟩
theorem law_post_w {G : Nat → Option (List D)} {f : FuncId} {fn : Func} {s : ChangeSpec} {t e : TypeId} {ts tys : List TypeId} {tb : TypeId} {c b : Nat} {vts : List VT} {F : tySs T (slots (.rs c :: vts)) → Option (tyO T (slots (.rs c :: vts)) × tyFs T [.v .bool])} {H : Type} {enc : TypeId × Value → H} {W : World} {base : Nat} {args : Array Value} {ds gs : List (DataW H)} {before : List MemPlace}
    (hl : laidOutB P = true) (hpar : fn.params.toList = t :: ts) (hres : fn.resultTypes = #[tb]) (hub : P.underlying tb = some .bool) (hr : ((t :: ts).all fun t => P.readableRec t && decide (t < P.types.size)) = true) (hargs : ArgsOk P C (t :: ts) (.rs c :: vts))
    (hut : P.underlying t = some (.slice e)) (hbe : P.bytesOf e = b)
    (hsv : s.vars = []) (hsp : ∀ ds : List (DataW H), ds.length = (t :: ts).length → s.fn H ds = { results := [.lit (.bool true)], args := ds })
    (hs : SoundT P C G f ⟨slots (.rs c :: vts), [.v .bool], F⟩) (law : ∀ x : tySs T (slots (.rs c :: vts)), ArgD C (.rs c :: vts) x → List.length x.1 * b ≤ reachBytes → ∃ o, F x = some (o, true, ()))
    (hval : ∀ (j : Nat) t v, fn.params[j]? = some t → args[j]? = some v → Value.okWide P W .any base t v) (hW : DataW.Whole enc P fn.params.toList s.vars false W args.toList ds gs before)
    (hwt : (DataW.weightsEach P (fn.params.toList ++ tys) (ds ++ gs)).all (· ≤ reachBytes) = true) (hg : Glob G (All W) W) :
    Calls P f args W fun e W' => ∃ v, e = .returned v ∧ s.post enc P fn false true false false W args v W' := by
  have hW' := hW
  obtain ⟨p, q, hA, hV, rfl, hfz, hnd⟩ := hW
  rw [hsv] at hV
  obtain ⟨rfl, rfl⟩ : gs = [] ∧ q = [] := by
    cases gs <;> simp only [DataW.TrodVars] at hV
    exact ⟨rfl, hV⟩
  rw [hpar] at hA
  obtain ⟨x, hx, hd⟩ := args_open (C := C) (rr := .any) (base := base) hargs (fun j t v a b => hval j t v (by rw [← hpar] at a; simpa using a) (by simpa using b)) hA
  have hbytes : List.length x.1 * b ≤ reachBytes := by
    obtain ⟨v, vr, he, h1, a, n, cap, rfl⟩ := first_len hx
    have hn := h1 _ _ _ rfl
    rw [he] at hA
    cases ds with
    | nil => exact hA.elim
    | cons d ds =>
      obtain ⟨p1, q1, ⟨fuel, h3⟩, h4, h5⟩ := hA
      rw [hpar] at hwt
      simp only [List.cons_append, DataW.weightsEach, List.all_append, Bool.and_eq_true] at hwt
      rcases DataW.trod_slice hut h3 with ⟨e1, e2⟩ | ⟨a2, len, cap2, elems, rest, n2, _, e1, e2, _, _, _, hlen, _⟩
      · have : (.slice a n cap : Value) = .slice none 0 0 := by simpa [Value.cells] using e1
        cases this
        rw [← hn, Nat.zero_mul]
        exact Nat.zero_le _
      · have e3 : (.slice a n cap : Value) = .slice (some a2) len cap2 := by simpa [Value.cells] using e1
        cases e3
        have e4 := congrArg Prod.fst e2
        dsimp only at e4
        have h6 := hwt.1
        rw [e4] at h6
        simp only [DataW.weights, hut, List.all_cons, Bool.and_eq_true, decide_eq_true_eq, List.length_map, hbe] at h6
        rw [← hn, ← hlen]
        exact Nat.le_trans (Nat.mul_le_mul_right _ (Nat.le_add_right _ _)) h6.1
  obtain ⟨o, ho⟩ := law x hd hbytes
  have hc := law_calls (P := P) (S := ⟨slots (.rs c :: vts), [.v .bool], F⟩) hs rfl rfl x hx hg (fun r hr => ⟨o, (true, ()), by rw [← hr]; exact ho, rfl⟩)
  rw [show args.toList.toArray = args by simp] at hc
  refine hc.mono fun e W' ⟨he, bel⟩ => ?_
  subst he
  have hlt : ∀ x ∈ p, x.block < W.heap.size := fun x hx => by simpa using hW'.lt x (by simp [hx])
  have hst := trodAll_stay hl bel (fun t ht => by
    have := List.all_eq_true.1 hr t ht
    simpa using this) hlt hA
  refine ⟨_, rfl, ds, [], p ++ [], [], p, [], hW', ?_, ?_, ?_, bel.frame _, fun h => by cases h⟩
  · rw [List.append_nil, hsp ds (trodAll_len hA), hres]
    exact trodAll_mk1 (shut_bool hub _)
  · rw [List.append_nil, hsp ds (trodAll_len hA), hpar]
    exact hst
  · rw [List.append_nil, hsp ds (trodAll_len hA), hsv]
    rfl
end
end Go.Abs

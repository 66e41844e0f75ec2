/- The levels of a tree of keys: one round and all rounds of the iterator. -/
import Derived.Test.YteenkpgjcbhonaaGreatDoorRgB
namespace Go.Proofs.YteenkpgjcbhonaaGreatDoor
set_option linter.unusedVariables false
set_option linter.unusedSimpArgs false
set_option maxRecDepth 100000
open Go Go.Abs Go.RowKit
abbrev Own1 (w1 : World) : Nat → Prop := fun k => w1.heap.size ≤ k
abbrev yv (l : Nat) : Value := .func (.yield l) #[] #[]
/-- what is known of the rounds: they hand back true, carry J on, and leave the iterator's own memory alone. -/
def YieldsOk (I0 : Nat → Prop) (w1 : World) (l : Nat) (h : Int) (s : BitVec 64) (J : Nat → World → Prop) (q : Nat) : Prop :=
  ∀ (k : Nat) (y : Int × List (BitVec 64) × Int × Unit) (B cap : Nat) (W : World), (k : Int) ≤ h → stAt h s k = some y → J k W → w1.heap.size ≤ B → w1.heap.size ≤ W.heap.size → y.2.1.length ≤ cap →
    (∀ (i : Nat) (x : BitVec 64), y.2.1[i]? = some x → W.cell? ⟨B, i, none⟩ = some (.int .u64 x.toNat)) →
    YieldAt Fence.wide q Tryz.prog l #[.int .i64 (k : Int), .slice (some ⟨B, 0, none⟩) y.2.1.length cap] W fun e W' =>
      e = .returned (.bool true) ∧ J (k + 1) W' ∧ (∀ j, w1.heap.size ≤ j ∨ I0 j → W'.heap[j]? = W.heap[j]?) ∧ W'.heap.size = W.heap.size ∧ ∀ b, rowSize W b ≤ rowSize W' b
abbrev st24 (y : tySs T (Shape.slots shD)) : ST T := (lay E36.C shD y).put (some 24) .dead
abbrev st26 (y : tySs T (Shape.slots shD)) : ST T := ((st24 y).put (some 25) (.int .i64 y.2.2.1)).put (some 26) (.bw 0 0 2 (List.length y.2.1))
noncomputable def l12 : List Oper := [1, 2].filterMap (ops7[·]?)
noncomputable def l48 : List Oper := [4, 5, 6, 7, 8].filterMap (ops7[·]?)
theorem l12_eq : l12.map some = [1, 2].map (ops7[·]?) := by kernel_rfl
theorem l48_eq : l48.map some = [4, 5, 6, 7, 8].map (ops7[·]?) := by kernel_rfl
theorem r12 (y : tySs T (Shape.slots shD)) : Go.Abs.runT E36 ops7 l12 (st24 y) (fun τ => some τ) = some (st26 y) := by kernel_rfl
theorem r48 (y : Int × List (BitVec 64) × Int × Unit) : Go.Abs.runT E36 ops7 l48 ((st26 y).put (some 27) (.bool true)) (fun τ => takeK E36.C shE τ some) = some (y.1, y.2.1, y.2.2.1, decide (y.2.2.1 < y.1), ()) := by kernel_rfl
theorem dst7 : dstOk Tryz.f36.ntmps [0, 24] ops7 = false ∧ dstOk Tryz.f36.ntmps [0] ops7 = true := ⟨by kernel_rfl, by kernel_rfl⟩
def dstIn (n : Nat) (kq : List Nat) (ops : Array Oper) (l : List Nat) : Bool := l.all fun i => match ops[i]? with
  | some o => (match o.dst with
    | some k => Nat.blt k n && kq.all fun q => !Nat.beq q k
    | none => true)
  | none => true
theorem dstIn_ok {n : Nat} {kp : List (Nat × Value)} {kq : List Nat} {ops : Array Oper} {l : List Nat} (h : dstIn n kq ops l = true) (hq : ∀ p ∈ kp, p.1 ∈ kq) : ∀ i ∈ l, ∀ (o : Oper) (k : Nat), ops[i]? = some o → o.dst = some k → k < n ∧ ∀ p ∈ kp, p.1 ≠ k := by
  intro i hi o k ho hk
  have h1 := List.all_eq_true.1 h i hi
  rw [ho] at h1
  simp only [hk, Bool.and_eq_true] at h1
  refine ⟨by have := h1.1; simp [Nat.blt] at this; omega, fun p hp e => ?_⟩
  have h2 := List.all_eq_true.1 h1.2 p.1 (hq p hp)
  rw [e] at h2
  simp at h2
theorem d12 : dstIn Tryz.f36.ntmps [0, 24] ops7 [1, 2] = true := by kernel_rfl
theorem d48 : dstIn Tryz.f36.ntmps [0] ops7 [4, 5, 6, 7, 8] = true := by kernel_rfl
section
variable {I0 I1 I : Nat → Prop} {w0 w1 w : World} {l q : Nat} {h : Int} {s : BitVec 64} {J : Nat → World → Prop} {loc : Nat → Nat → Abs.Loc} {L : Nat → Nat → Nat} {a : Act} {y : Int × List (BitVec 64) × Int × Unit} {k : Nat} {Q : Exit → Act → World → Prop}
abbrev kpl (l : Nat) : List (Nat × Value) := [(0, yv l)]
/-- what the temporaries hold when yield is called. -/
theorem at_yield (hr : RelT E36 (Own1 w1) I1 w0 Tryz.f36.ntmps [(0, yv l), (24, yv l)] I loc L (st26 y).f a w) (hne : y.2.1 ≠ []) :
    a.eval (.tmp 24) = yv l ∧ a.eval (.tmp 25) = .int .i64 y.2.2.1 ∧ ∃ B cap, a.eval (.tmp 26) = .slice (some ⟨B, 0, none⟩) y.2.1.length cap ∧ w1.heap.size ≤ B ∧ y.2.1.length ≤ cap ∧ ∀ (i : Nat) (x : BitVec 64), y.2.1[i]? = some x → w.cell? ⟨B, i, none⟩ = some (.int .u64 x.toNat) := by
  refine ⟨hr.kept (24, yv l) (by simp), ?_, ?_⟩
  · have := (evT_ok hr (.tmp 25)).1
    change V I w (den E36.C ((st26 y).f.t 25)) loc _ at this
    have e : (st26 y).f.t 25 = .int .i64 y.2.2.1 := by kernel_rfl
    rw [e] at this
    simpa only [den, V] using this
  · have h26 := (evT_ok hr (.tmp 26)).1
    change V I w (den E36.C ((st26 y).f.t 26)) loc _ at h26
    have e : (st26 y).f.t 26 = .bw 0 0 2 (List.length y.2.1) := by kernel_rfl
    rw [e] at h26
    simp only [den, V] at h26
    have em : (st26 y).f.m = [.arr 0 2 y.2.1] := by kernel_rfl
    have hm := hr.mem
    rw [em] at hm
    have hb := hm.box 0 (by show 0 < 1; decide)
    have eb : (denM E36.C ([.arr 0 2 y.2.1] : MT T)).bx 0 = .arr 0 1 (y.2.1.map (E36.C.encD 2)) := by kernel_rfl
    rw [eb] at hb
    simp only [RelB] at hb
    obtain ⟨_, hb⟩ := hb
    rcases hb with ⟨_, hn⟩ | ⟨B, c, el, fz, hl, hw, hu, hrc, hv⟩
    · exact absurd (List.map_eq_nil_iff.1 hn) hne
    simp only [hl] at h26
    obtain ⟨o, cap, e26, hnc, ho, _⟩ := h26
    have hpos : 0 < y.2.1.length := List.length_pos_iff.2 hne
    have ho0 : o = 0 := by
      rcases ho with ho | ho
      · omega
      · simpa using ho
    subst ho0
    refine ⟨B, cap, e26, (hm.own 0 0 B (by show 0 < 1; decide) (by rw [eb]; rfl) hl).1, hnc, fun i x hx => ?_⟩
    have hvi := VR_get hv (i := i) (row := E36.C.encD 2 x) (by rw [List.getElem?_map, hx]; rfl)
    have ee : E36.C.encD 2 x = [.int .u64 x.toNat] := by kernel_rfl
    rw [ee] at hvi
    obtain ⟨_, hc⟩ := hvi
    simp only [VC] at hc
    obtain ⟨⟨cc, h1, _, h3⟩, _⟩ := hc
    simp only [V] at h3
    rw [h3] at h1
    simpa using h1
end
section
variable {I0 I1 I : Nat → Prop} {w0 w1 w : World} {l q : Nat} {h : Int} {s : BitVec 64} {J : Nat → World → Prop} {loc : Nat → Nat → Abs.Loc} {L : Nat → Nat → Nat} {a : Act} {y : Int × List (BitVec 64) × Int × Unit} {k : Nat} {Q : Exit → Act → World → Prop}
/-- what the caller keeps abides the iterator's own memory. -/
def CalmJ (w1 : World) (J : Nat → World → Prop) : Prop := ∀ (k : Nat) (W W' : World), Fr (Own1 w1) W W' → w1.heap.size ≤ W.heap.size → J k W → J k W'
theorem n36 : Tryz.f36.ntmps = 63 := by kernel_rfl
theorem range7 : List.range ops7.size = 0 :: ([1, 2] ++ (3 :: ([4, 5, 6, 7, 8] ++ []))) := by kernel_rfl
theorem put_getD {a : Act} {k n : Nat} {v : Value} (hs : a.tmps.size = n) (hk : k < n) : (a.put (some k) v).tmps.getD k undef = v := by
  simp only [Act.put, Array.getD_eq_getD_getElem?]
  rw [Array.getElem?_setIfInBounds_self_of_lt (by omega)]; rfl
theorem region7_ok (hY : YieldsOk I0 w1 l h s J q) (hC : CalmJ w1 J) (hkh : (k : Int) ≤ h) (hst : stAt h s k = some y) (hyk : y.2.2.1 = k) (hne : y.2.1 ≠ []) (hJ : J k w) (hsz : w1.heap.size ≤ w.heap.size) (hII : ∀ j, I j → I0 j ∨ w1.heap.size ≤ j)
    (hr : RelT E36 (Own1 w1) I1 w0 Tryz.f36.ntmps (kpl l) I loc L (lay E36.C shD y).f a w)
    (hQ : ∀ I' w0' I'' loc' L' a' w', RelT E36 (Own1 w1) I' w0' Tryz.f36.ntmps (kpl l) I'' loc' L' (lay E36.C shE (y.1, y.2.1, y.2.2.1, decide (y.2.2.1 < y.1), ())).f a' w' → J (k + 1) w' → w1.heap.size ≤ w'.heap.size → (∀ j, I' j → I0 j ∨ w1.heap.size ≤ j) → Q .normal a' w') :
    (Code.region 7 ops7 false).wp Tryz.prog Q a w := by
  have hr := hr.world (W := w) (fun _ _ => rfl) rfl (fun _ => Nat.le_refl _)
  refine wpIn_wide.1 (wpIn_region (n := q + 1) ?_)
  rw [range7]
  simp only [wpOpsIn, op0_eq]
  rw [show Region.wanted ⟨some 24, .move (.tmp 0), op0.type, op0.pos, op0.after, none⟩ (yielded ops7 a.tmps) = true from rfl, if_pos rfl]
  refine ⟨fun _ _ => trivial, ?_⟩
  have hsz36 : (24 : Nat) < Tryz.f36.ntmps := by rw [n36]; decide
  have e0 : a.eval (.tmp 0) = yv l := hr.kept (0, yv l) (by simp)
  have x0 : ((Oper.semAt Fence.wide.round a.eval ⟨some 24, .move (.tmp 0), op0.type, op0.pos, op0.after, none⟩).run Tryz.prog w) = .ok (.value (yv l)) w := by
    rw [Oper.semAt_eq _ _ _ (fun c h => by cases h)]
    simp [execOp, e0]
  rw [x0]
  show wpOpsIn Fence.wide (q + 1) Tryz.prog ops7 Q ([1, 2] ++ (3 :: ([4, 5, 6, 7, 8] ++ []))) (a.put (some 24) (yv l)) w
  have h24 := hr.put (d := .dead) (v := yv l) (some 24) (fun k hk => by cases hk; exact ⟨hsz36, fun p hp => by simp at hp; subst hp; show (0 : Nat) ≠ 24; decide⟩) hr.mem hr.wfm hr.glob trivial trivial (.refl _ _) (fun _ h => .inl h) (.refl _) (.refl _ _) (.refl _ _)
  have h24' : RelT E36 (Own1 w1) I w Tryz.f36.ntmps [(0, yv l), (24, yv l)] I loc L (st24 y).f (a.put (some 24) (yv l)) w := by
    have hk : ∀ p ∈ [(0, yv l), (24, yv l)], (a.put (some 24) (yv l)).tmps.getD p.1 undef = p.2 := by
      intro p hp
      simp only [List.mem_cons, List.not_mem_nil, or_false] at hp
      rcases hp with rfl | rfl
      · exact h24.kept (0, yv l) (by simp)
      · exact put_getD hr.size hsz36
    have := put_toF (lay E36.C shD y) (some 24) .dead
    unfold st24
    rw [this]
    exact { h24 with kept := hk }
  obtain ⟨σ', q1, q2⟩ := runT_ok l12 [1, 2] (st24 y) _ _ l12_eq (r12 y)
  have q3 : σ' = st26 y := Option.some.inj q2
  subst q3
  refine runIn_ok oLev [1, 2] (dstIn_ok d12 (by simp)) h24' q1 fun a2 w2 I2 loc2 L2 h26 => ?_
  obtain ⟨e24, e25, B, cap, e26, hB, hcap, hcells⟩ := at_yield h26 hne
  have hJ2 := hC k w w2 h26.fr hsz hJ
  have hsz2 : w1.heap.size ≤ w2.heap.size := Nat.le_trans hsz h26.fr.size
  obtain ⟨fn, tm, asg, bd, hy1, hy2⟩ := hY k y B cap w2 hkh hst hJ2 hB hsz2 hcap hcells
  rw [hyk] at e25
  simp only [wpOpsIn, op3_eq]
  rw [show Region.wanted ⟨some 27, .call ⟨.value (.tmp 24), #[.tmp 25, .tmp 26], #[3, 50]⟩, op3.type, op3.pos, op3.after, none⟩ (yielded ops7 a2.tmps) = true from rfl, if_pos rfl]
  refine ⟨fun _ _ => trivial, ?_⟩
  have x3 : ((Oper.semAt Fence.wide.round a2.eval ⟨some 27, .call ⟨.value (.tmp 24), #[.tmp 25, .tmp 26], #[3, 50]⟩, op3.type, op3.pos, op3.after, none⟩).run Tryz.prog w2) = .ok (.round l fn tm asg bd) w2 := by
    rw [Oper.semAt_eq _ _ _ (fun c h => by cases h)]
    have gen : ∀ ρ : Operand → Value, ρ (.tmp 24) = yv l → ρ (.tmp 25) = .int .i64 (k : Int) → ρ (.tmp 26) = .slice (some ⟨B, 0, none⟩) y.2.1.length cap →
        (execOp ρ ⟨some 27, .call ⟨.value (.tmp 24), #[.tmp 25, .tmp 26], #[3, 50]⟩, op3.type, op3.pos, op3.after, none⟩).run Tryz.prog w2 = .ok (.round l fn tm asg bd) w2 := by
      intro ρ e1 e2 e3
      simp [execOp, resolve, invoke, e1, e2, e3, Deferred.ofValue, hy1]
    exact gen _ e24 e25 e26
  rw [x3, Oper.uponIn_round]
  refine ⟨(fun h => by cases h), hy2.mono ?_⟩
  rintro e W' ⟨rfl, hJ', hsame, hsize, hrows⟩
  show wpOpsIn Fence.wide (q + 1) Tryz.prog ops7 Q ([4, 5, 6, 7, 8] ++ []) (a2.put (some 27) (.bool true)) W'
  have hI2 : ∀ j, I2 j → I0 j ∨ w1.heap.size ≤ j := fun j hj => (h26.imm1 j hj).elim (hII j) .inr
  have h26' : RelT E36 (Own1 w1) I w Tryz.f36.ntmps (kpl l) I2 loc2 L2 (st26 y).f a2 w2 := { h26 with kept := fun p hp => h26.kept p (by simp at hp; simp [hp]) }
  have h3 := h26'.world (W := W') (fun j hj => hsame j (hj.elim .inl fun hj => (hI2 j hj).symm)) hsize hrows
  have hsz27 : (27 : Nat) < Tryz.f36.ntmps := by rw [n36]; decide
  have h27 := h3.put (d := .bool true) (v := .bool true) (some 27) (fun k hk => by cases hk; exact ⟨hsz27, fun p hp => by simp at hp; subst hp; show (0 : Nat) ≠ 27; decide⟩) h3.mem h3.wfm h3.glob (by simp only [den, V]) trivial (.refl _ _) (fun _ h => .inl h) (.refl _) (.refl _ _) (.refl _ _)
  have h27' : RelT E36 (Own1 w1) I2 W' Tryz.f36.ntmps (kpl l) I2 loc2 L2 ((st26 y).put (some 27) (.bool true)).f (a2.put (some 27) (.bool true)) W' := by
    rw [put_toF]; exact h27
  obtain ⟨τ, t1, t2⟩ := runT_ok l48 [4, 5, 6, 7, 8] _ _ _ l48_eq (r48 y)
  refine runIn_ok oLev [4, 5, 6, 7, 8] (dstIn_ok d48 (by simp)) h27' t1 fun a4 w4 I4 loc4 L4 h4 => ?_
  obtain ⟨x, I5, loc5, L5, g1, g2⟩ := takeK_ok cd_ok h4 t2
  have g3 := Option.some.inj g2
  subst g3
  show Q .normal a4 w4
  exact hQ _ _ _ _ _ _ _ g1 (hC (k + 1) W' w4 h4.fr (by omega) hJ') (by have := h4.fr.size; omega) hI2
end
end Go.Proofs.YteenkpgjcbhonaaGreatDoor

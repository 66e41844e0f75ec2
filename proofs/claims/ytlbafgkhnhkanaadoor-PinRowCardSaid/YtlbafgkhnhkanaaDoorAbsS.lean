/- The state at a loop's head: what is kept, what is forgotten. No condition. -/
import Derived.Test.YtlbafgkhnhkanaaDoorAbsR
namespace Go.Abs
open Go
set_option linter.unusedSimpArgs false

mutual
/-- it leads into no box from number n on. -/
def D.bel (n : Nat) : D → Bool
  | .bp b _ => decide (b < n)
  | .ap b _ _ _ _ => decide (b < n)
  | .bs b _ _ _ _ => decide (b < n)
  | .agg cs => belL n cs
  | .tup cs => belL n cs
  | .fn _ cs => belL n cs
  | _ => true
def belL (n : Nat) : List D → Bool
  | [] => true
  | d :: r => d.bel n && belL n r
end
def Box.bel (n : Nat) : Box → Bool
  | .var cs => belL n cs
  | _ => true

def locCut (n : Nat) (loc : Nat → Nat → Loc) : Nat → Nat → Loc := fun b g => if b < n then loc b g else .free

section
variable {I : Nat → Prop} {w : World} {loc : Nat → Nat → Loc} {n : Nat}
mutual
theorem V_cut : ∀ (d : D) (v : Value), d.bel n = true → V I w d loc v → V I w d (locCut n loc) v
  | .dead, _, _, _ => trivial
  | .bool _, _, _, h => by simpa only [V] using h
  | .int _ _, _, _, h => by simpa only [V] using h
  | .str _, _, _, h => by simpa only [V] using h
  | .lit _, _, _, h => by simpa only [V] using h
  | .nilp, _, _, h => by simpa only [V] using h
  | .nils, _, _, h => by simpa only [V] using h
  | .rs _ _, _, _, h => by simpa only [V] using h
  | .rp _, _, _, h => by simpa only [V] using h
  | .bp b o, v, hb, h => by
    simp only [D.bel, decide_eq_true_eq] at hb
    simp only [V, locCut, hb, if_true] at h ⊢; exact h
  | .ap b g s i o, v, hb, h => by
    simp only [D.bel, decide_eq_true_eq] at hb
    simp only [V, locCut, hb, if_true] at h ⊢; exact h
  | .bs b g s i k, v, hb, h => by
    simp only [D.bel, decide_eq_true_eq] at hb
    simp only [V, locCut, hb, if_true] at h ⊢; exact h
  | .agg cs, v, hb, h => by
    simp only [D.bel] at hb
    simp only [V] at h ⊢
    obtain ⟨vs, rfl, h1, h2⟩ := h
    exact ⟨vs, rfl, h1, VL_cut cs vs hb h2⟩
  | .tup cs, v, hb, h => by
    simp only [D.bel] at hb
    simp only [V] at h ⊢
    obtain ⟨vs, rfl, h2⟩ := h
    exact ⟨vs, rfl, VL_cut cs vs hb h2⟩
  | .fn f cs, v, hb, h => by
    simp only [D.bel] at hb
    simp only [V] at h ⊢
    obtain ⟨vs, rfl, h2⟩ := h
    exact ⟨vs, rfl, VL_cut cs vs hb h2⟩
theorem VL_cut : ∀ (ds : List D) (vs : List Value), belL n ds = true → VL I w ds loc vs → VL I w ds (locCut n loc) vs
  | [], _, _, h => by simpa only [VL] using h
  | d :: r, vs, hb, h => by
    simp only [belL, Bool.and_eq_true] at hb
    simp only [VL] at h ⊢
    obtain ⟨v, vr, rfl, h1, h2⟩ := h
    exact ⟨v, vr, rfl, V_cut d v hb.1 h1, VL_cut r vr hb.2 h2⟩
end
end

/-- a state written out: the slots that are kept, the boxes. -/
def St (ts : List (Nat × D)) (bs : List Box) : S := ⟨tmpsOf ts, ⟨bs.length, bxOf bs⟩⟩

def okT (t : Nat → D) (n : Nat) : List (Nat × D) → Prop
  | [] => True
  | (i, d) :: r => (t i = d ∧ d.bel n = true) ∧ okT t n r
def okB (bx : Nat → Box) (n : Nat) : Nat → List Box → Prop
  | _, [] => True
  | i, b :: r => (b = .gone ∨ (bx i = b ∧ b.bel n = true)) ∧ okB bx n (i + 1) r

theorem okT_spec {t : Nat → D} {n : Nat} : ∀ {ts : List (Nat × D)}, okT t n ts → ∀ i, tmpsOf ts i = .dead ∨ (t i = tmpsOf ts i ∧ (tmpsOf ts i).bel n = true)
  | [], _, i => .inl rfl
  | (j, d) :: r, h, i => by
    simp only [okT] at h
    simp only [tmpsOf]
    by_cases e : i = j
    · subst e; rw [if_pos rfl]; exact .inr h.1
    · rw [if_neg e]; exact okT_spec h.2 i

theorem okB_spec {bx : Nat → Box} {n : Nat} : ∀ {bs : List Box} {k : Nat}, okB bx n k bs → ∀ i, i < bs.length → bxOf bs i = .gone ∨ (bx (k + i) = bxOf bs i ∧ (bxOf bs i).bel n = true)
  | [], k, _, i, hi => by simp at hi
  | b :: r, k, h, i, hi => by
    simp only [okB] at h
    cases i with
    | zero => simpa [bxOf] using h.1
    | succ i =>
      have := okB_spec h.2 i (by simpa using hi)
      simp only [bxOf]
      have e : k + (i + 1) = k + 1 + i := by omega
      rw [e]; exact this

theorem weak_st {Sp : Specs} {σ : S} {ts : List (Nat × D)} {bs : List Box} (hn : bs.length ≤ σ.m.nb) (ht : okT σ.t bs.length ts) (hb : okB σ.m.bx bs.length 0 bs) : Weak Sp σ (St ts bs) := by
  intro O I0 w0 n I loc a w h
  classical
  let loc' : Nat → Nat → Loc := fun b g => if b < bs.length then (if bxOf bs b = .gone then (match loc b g with | .free => .free | _ => .stale) else loc b g) else .free
  have hx : LocExt (locCut bs.length loc) loc' := fun b g => by
    simp only [locCut, loc']
    by_cases e : b < bs.length
    · rw [if_pos e, if_pos e]
      by_cases e2 : bxOf bs b = .gone
      · rw [if_pos e2]
        cases loc b g <;> simp
      · rw [if_neg e2]; exact .inr (.inr rfl)
    · rw [if_neg e]; exact .inl rfl
  have hlt : ∀ b, b < bs.length → b < σ.m.nb := fun b hb => Nat.lt_of_lt_of_le hb hn
  have hspec := fun i hi => okB_spec hb i hi
  have hkeep : ∀ b, b < bs.length → bxOf bs b ≠ .gone → σ.m.bx b = bxOf bs b ∧ (bxOf bs b).bel bs.length = true := fun b hb hne => by
    have := (hspec b hb).resolve_left hne
    simpa using this
  have hlk : ∀ b g, b < bs.length → bxOf bs b ≠ .gone → loc' b g = loc b g := fun b g hb hne => by
    simp only [loc', if_pos hb, if_neg hne]
  refine ⟨I, loc', h.size, h.defers, fun i => ?_, ⟨fun b hb' => ?_, fun b g hb' => ?_, fun b g k hb' ho hk => ?_, fun b b' g g' k h1 h2 ho ho' hk hk' => ?_, h.mem.imm, h.mem.up⟩, h.glob, h.fr, h.imm0, h.imm1⟩
  · rcases okT_spec ht i with e | ⟨e1, e2⟩
    · show V I w (tmpsOf ts i) loc' _
      rw [e]; trivial
    · have hv := h.tmp i
      rw [e1] at hv
      exact V_mono (.refl _ _) _ _ _ _ hx (V_cut _ _ e2 hv)
  · show RelB I w loc' b (bxOf bs b)
    by_cases hne : bxOf bs b = .gone
    · rw [hne]
      simp only [RelB]
      intro g
      have hb2 : b < bs.length := hb'
      simp only [loc', if_pos hb2, if_pos hne]
      cases loc b g <;> simp
    · obtain ⟨e1, e2⟩ := hkeep b hb' hne
      have hr := h.mem.box b (hlt b hb')
      rw [e1] at hr
      have hl := fun g => hlk b g hb' hne
      cases hx2 : bxOf bs b with
      | gone => exact absurd hx2 hne
      | var cs =>
        rw [hx2] at hr e2
        simp only [RelB] at hr ⊢
        obtain ⟨h0, k, c, el, fz, h1, h2, h3, h4, h5⟩ := hr
        simp only [Box.bel] at e2
        exact ⟨fun g hg => by rw [hl]; exact h0 g hg, k, c, el, fz, by rw [hl]; exact h1, h2, h3, h4, VL_mono (.refl _ _) _ _ _ _ hx (VL_cut _ _ e2 h5)⟩
      | arr g s rows =>
        rw [hx2] at hr
        simp only [RelB] at hr ⊢
        refine ⟨⟨fun g' hg => by rw [hl]; exact hr.1.1 g' hg, fun g' hg => by rw [hl]; exact hr.1.2 g' hg⟩, ?_⟩
        rw [hl]; exact hr.2
      | frz g s rows =>
        rw [hx2] at hr
        simp only [RelB] at hr ⊢
        refine ⟨⟨fun g' hg => by rw [hl]; exact hr.1.1 g' hg, fun g' hg => by rw [hl]; exact hr.1.2 g' hg⟩, ?_⟩
        rw [hl]; exact hr.2
      | iter l ps =>
        rw [hx2] at hr
        simp only [RelB] at hr ⊢
        obtain ⟨h0, k, h1, h2⟩ := hr
        exact ⟨fun g hg => by rw [hl]; exact h0 g hg, k, by rw [hl]; exact h1, h2⟩
  · have : ¬ b < bs.length := by have : bs.length ≤ b := hb'; omega
    simp only [loc', if_neg this]
  · have hb' : b < bs.length := hb'
    have hne : bxOf bs b ≠ .gone := fun e => by
      have : (bxOf bs b).owned = true := ho
      rw [e] at this; cases this
    rw [hlk b g hb' hne] at hk
    obtain ⟨e1, _⟩ := hkeep b hb' hne
    exact h.mem.own b g k (hlt b hb') (by rw [e1]; exact ho) hk
  · have h1 : b < bs.length := h1
    have h2 : b' < bs.length := h2
    have hne : bxOf bs b ≠ .gone := fun e => by
      have : (bxOf bs b).owned = true := ho
      rw [e] at this; cases this
    have hne' : bxOf bs b' ≠ .gone := fun e => by
      have : (bxOf bs b').owned = true := ho'
      rw [e] at this; cases this
    rw [hlk b g h1 hne] at hk
    rw [hlk b' g' h2 hne'] at hk'
    obtain ⟨e1, _⟩ := hkeep b h1 hne
    obtain ⟨e2, _⟩ := hkeep b' h2 hne'
    exact h.mem.inj b b' g g' k (hlt b h1) (hlt b' h2) (by rw [e1]; exact ho) (by rw [e2]; exact ho') hk hk'

section
variable {P : Program} {Sp : Specs} {K : S → Prop} {σ : S} {dst : Option Nat} {ty : TypeId} {pos : String} {af : Array Edge} {g : Option (Nat × Bool)} {k : IntKind} {a b : Int}
/-! more rules -/
theorem i_add : intBin .add k a k b = some (.int k (k.wrap (a + b))) := by simp [intBin]
theorem i_sub : intBin .sub k a k b = some (.int k (k.wrap (a - b))) := by simp [intBin]
theorem i_mul : intBin .mul k a k b = some (.int k (k.wrap (a * b))) := by simp [intBin]
theorem i_quo (h : b ≠ 0) : intBin .quo k a k b = some (.int k (k.wrap (a.tdiv b))) := by simp [intBin, h]
theorem i_rem (h : b ≠ 0) : intBin .rem k a k b = some (.int k (a.tmod b)) := by simp [intBin, h]
theorem i_and : intBin .and k a k b = some (.int k (k.wrap (BitVec.ofInt k.bits a &&& BitVec.ofInt k.bits b).toNat)) := by simp [intBin]
theorem i_or : intBin .or k a k b = some (.int k (k.wrap (BitVec.ofInt k.bits a ||| BitVec.ofInt k.bits b).toNat)) := by simp [intBin]
theorem i_xor : intBin .xor k a k b = some (.int k (k.wrap (BitVec.ofInt k.bits a ^^^ BitVec.ofInt k.bits b).toNat)) := by simp [intBin]
theorem i_andNot : intBin .andNot k a k b = some (.int k (k.wrap (BitVec.ofInt k.bits a &&& ~~~ BitVec.ofInt k.bits b).toNat)) := by simp [intBin]
theorem i_eql : intBin .eql k a k b = some (.bool (decide (a = b))) := by simp [intBin]; rfl
theorem i_neq : intBin .neq k a k b = some (.bool (!decide (a = b))) := by simp [intBin]; rfl
theorem i_lss : intBin .lss k a k b = some (.bool (decide (a < b))) := by simp [intBin]
theorem i_leq : intBin .leq k a k b = some (.bool (decide (a ≤ b))) := by simp [intBin]
theorem i_gtr : intBin .gtr k a k b = some (.bool (decide (b < a))) := by simp [intBin]
theorem i_geq : intBin .geq k a k b = some (.bool (decide (b ≤ a))) := by simp [intBin]
theorem i_shl {k' : IntKind} (h : ¬ b < 0) : intBin .shl k a k' b = some (.int k (k.wrap (a * 2 ^ (min b.toNat k.bits)))) := by simp [intBin, h]
theorem i_shr {k' : IntKind} (h : ¬ b < 0) : intBin .shr k a k' b = some (.int k (a.fdiv (2 ^ (min b.toNat k.bits)))) := by simp [intBin, h]
theorem b_int {op : BinOp} {t : TypeId} {k' : IntKind} : binD P op t (.int k a) (.int k' b) = intBin op k a k' b := nrfl rfl
theorem b_str {op : BinOp} {t : TypeId} {x y : List UInt8} : binD P op t (.str x) (.str y) = strBin op x y := nrfl rfl
theorem s_eql {x y : List UInt8} : strBin .eql x y = some (.bool (decide (x = y))) := by
  have : (x == y) = decide (x = y) := by rw [Bool.eq_iff_iff]; simp
  simp only [strBin, this]
theorem s_neq {x y : List UInt8} : strBin .neq x y = some (.bool (!decide (x = y))) := by
  have : (x == y) = decide (x = y) := by rw [Bool.eq_iff_iff]; simp
  simp only [strBin, this]
theorem u_not {q : Bool} : unD .not (.bool q) = some (.bool (!q)) := nrfl rfl
theorem u_neg : unD .neg (.int k a) = some (.int k (k.wrap (0 - a))) := nrfl rfl
theorem s_conv {src dst' : TypeId} {x : Operand} (h1 : telem P src = none) (h2 : telem P dst' = none) : stepK P Sp ⟨dst, .convert src dst' x, ty, pos, af, g⟩ σ K = goD σ dst K (if (P.underlying src).isSome = true then convD P dst' (ev Sp σ.t x) else none) := by
  rw [of_n (by simp [cls, h1, h2])]; rfl
theorem c_int {dst' : TypeId} {k' : IntKind} (h : tint P dst' = some k') : convD P dst' (.int k a) = some (.int k' (k'.wrap a)) := by simp [convD, h]
theorem c_str {dst' : TypeId} {l : List UInt8} (h : tstr P dst' = true) : convD P dst' (.str l) = some (.str l) := by simp [convD, h]
theorem s_append {x y : Operand} {t t' : TypeId} : stepK P Sp ⟨dst, .call ⟨.builtin .append, #[x, y], #[t, t']⟩, ty, pos, af, g⟩ σ K = goM σ.t dst K (match ev Sp σ.t y with
      | .str l => if tstr P t' = true then appendW P σ.m t (ev Sp σ.t x) (fun sz => if sz = 1 then some (bytesD l) else none) else none
      | d => if (telem P t').isSome then appendW P σ.m t (ev Sp σ.t x) (fun sz => rowsOf σ.m sz d) else none) := by
  rw [of_w rfl]; rfl
theorem s_buildSlice {t : TypeId} {n : Nat} {ps : List (Nat × Operand)} : stepK P Sp ⟨dst, .buildSlice t n ps.toArray, ty, pos, af, g⟩ σ K = goM σ.t dst K (match telem P t with
    | some el => match tsz P el with
      | some sz => if n * sz ≤ 16777216 then match zrow P el sz with
          | some z => match rowParts P sz (List.replicate n z) (ps.map fun p => (p.1, ev Sp σ.t p.2)) with
            | some rows => some (.bs σ.m.nb 0 sz 0 n, σ.m.add (.arr 0 sz rows))
            | none => none
          | none => none
        else none
      | none => none
    | none => none) := by
  rw [of_w rfl]; rfl
/-- a call of a function with a contract of kind 0. -/
def callD (m : Mem) (F : List D → Option (D × List Box)) (ds : List D) : Option D :=
  match snapL m 8 ds with
  | some ds => match F ds with
    | some (d, []) => some d
    | _ => none
  | none => none
theorem s_call0 {f : Nat} {args : List Operand} {at' : Array TypeId} {F : List D → Option (D × List Box)} (h : Sp.fn f = some (0, F)) :
    stepK P Sp ⟨dst, .call ⟨.value (.func f), args.toArray, at'⟩, ty, pos, af, g⟩ σ K = goD σ dst K (callD σ.m F (args.map (ev Sp σ.t))) := by
  rw [of_r (by simp [cls, h])]
  simp only [semR, ev, h, List.append_nil, callD]
  congr 1
theorem s_range {u : TypeId} {x : Operand} : stepK P Sp ⟨dst, .range u x, ty, pos, af, g⟩ σ K = goM σ.t dst K (match ev Sp σ.t x with
    | .str l => if tstr P u then some (.bp σ.m.nb 0, σ.m.add (.iter l 0)) else none
    | _ => none) := by
  rw [of_w rfl]; rfl
def nextD (m : Mem) (d : D) : Option (D × Mem) :=
  match d with
    | .bp b 0 => match m.bx b with
      | .iter l pos => if pos < l.length then
          some (.tup [.bool true, .int .i64 pos, .int .i32 (Utf8.decode ⟨l.toArray⟩ pos).1], m.set b (.iter l (pos + (Utf8.decode ⟨l.toArray⟩ pos).2)))
        else some (.tup [.bool false], m)
      | _ => none
    | _ => none
theorem s_next {x : Operand} : stepK P Sp ⟨dst, .next x true, ty, pos, af, g⟩ σ K = goM σ.t dst K (nextD σ.m (ev Sp σ.t x)) := by
  rw [of_w rfl]; rfl
theorem a_loop1 {c : Code} {Q : Ex → S → Prop} (h : awp P Sp c σ (thenK P Sp (.loop c) Q)) : awp P Sp (.loop c) σ Q :=
  awp_unroll (awp_mono c _ _ _ (fun e τ h => by cases e <;> exact h) h)
/-- at a round's end. -/
def headK {α : Type} (Sp : Specs) (H : α → S) (μ : α → Nat) (x : α) (Q : Ex → S → Prop) : Ex → S → Prop
  | .normal, τ => ∃ y, Weak Sp τ (H y) ∧ μ y < μ x
  | .exit j, τ => Q (.exit j) τ
  | .ret, τ => Q .ret τ
theorem head_normal {α : Type} {H : α → S} {μ : α → Nat} {x : α} {Q : Ex → S → Prop} : headK Sp H μ x Q .normal σ = ∃ y, Weak Sp σ (H y) ∧ μ y < μ x := nrfl rfl
theorem head_exit {α : Type} {H : α → S} {μ : α → Nat} {x : α} {Q : Ex → S → Prop} {j : Nat} : headK Sp H μ x Q (.exit j) σ = Q (.exit j) σ := nrfl rfl
theorem head_ret {α : Type} {H : α → S} {μ : α → Nat} {x : α} {Q : Ex → S → Prop} : headK Sp H μ x Q .ret σ = Q .ret σ := nrfl rfl
theorem a_loopH {α : Type} (H : α → S) (μ : α → Nat) {c : Code} {Q : Ex → S → Prop} (x0 : α) (h0 : Weak Sp σ (H x0)) (hr : ∀ x, awp P Sp c (H x) (headK Sp H μ x Q)) : awp P Sp (.loop c) σ Q :=
  awp_loop H μ x0 h0 fun x => awp_mono c _ _ _ (fun e τ h => by cases e <;> exact h) (hr x)
/-- what a function owes at its end. -/
def retQ (P : Program) (fn : Func) (r : D) : Ex → S → Prop
  | .exit _, _ => False
  | .normal, σ => resOf P fn σ = some r
  | .ret, σ => resOf P fn σ = some r
theorem ret_normal {fn : Func} {r : D} : retQ P fn r .normal σ = (resOf P fn σ = some r) := nrfl rfl
theorem ret_ret {fn : Func} {r : D} : retQ P fn r .ret σ = (resOf P fn σ = some r) := nrfl rfl
theorem sound0 {f : FuncId} {fn : Func} {c : Code} {F : List D → Option (D × List Box)} (hmix : P.follows .mixedOrders = true) (hSp : SpecsOk P Sp) (hf : P.funcs[f]? = some fn) (hb : fn.body = some c) (hname : (fn.name == "runtime.NumGoroutine") = false)
    (hok : codeOk P Sp fn.ntmps c = true) (h : ∀ ds r bx, F ds = some (r, bx) → bx = [] ∧ r.flat = true ∧ ds.length ≤ fn.ntmps ∧ awp P Sp c (S0 ds) (retQ P fn r)) : Sound P Sp.glob f 0 F :=
  sound_flat hmix hSp hf hb hname hok fun ds r bx hF => by
    obtain ⟨h1, h2, h3, h4⟩ := h ds r bx hF
    exact ⟨h1, h2, h3, awp_mono c _ _ _ (fun e τ h => by cases e <;> exact h) h4⟩
end
end Go.Abs

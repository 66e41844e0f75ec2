/- The table of types: what is asked of it, as a check that the kernel carries out; recursion by rounds. No condition. -/
import Derived.Test.YtlinfghjilpcdaaTyW
namespace Go.Abs
open Go
set_option linter.unusedSimpArgs false
set_option linter.unusedVariables false

section
def zcOf : D → Option Zc
  | .bool false => some .b
  | .int k 0 => some (.i k)
  | .str [] => some .s
  | .nilp => some .np
  | .nils => some .ns
  | .lit .nilFunc => some .nf
  | .lit .nilIface => some .ni
  | .lit (.map none) => some .nm
  | _ => none
theorem zcOf_ok {d : D} {z : Zc} (h : zcOf d = some z) : d = z.toD := by
  unfold zcOf at h
  split at h <;> first | (cases h; done) | (simp only [Option.some.injEq] at h; subst h; rfl)
def zcL : List D → Option (List Zc)
  | [] => some []
  | d :: r => match zcOf d, zcL r with
    | some z, some l => some (z :: l)
    | _, _ => none
theorem zcL_ok : ∀ {ds : List D} {l : List Zc}, zcL ds = some l → ds = l.map Zc.toD
  | [], l, h => by simp only [zcL, Option.some.injEq] at h; subst h; rfl
  | d :: r, l, h => by
    simp only [zcL] at h
    split at h
    · rename_i z q hz hq
      simp only [Option.some.injEq] at h; subst h
      simp only [List.map_cons]
      rw [← zcOf_ok hz, ← zcL_ok hq]
    · cases h
def onat : Option Nat → Option Nat → Bool
  | some a, some b => Nat.beq a b
  | none, none => true
  | _, _ => false
theorem onat_eq {a b : Option Nat} (h : onat a b = true) : a = b := by
  cases a <;> cases b <;> simp only [onat] at h <;> first | rfl | (cases h; done) | (rw [Nat.eq_of_beq_eq_true h])

def zeroOk (P : Program) (t : Nat) (i : TI) : Bool :=
  match tzero P t with
  | some (.agg cs) => i.kind.agg && decide (zcL cs = some i.zero)
  | some d => !i.kind.agg && decide (zcL [d] = some i.zero)
  | none => false
def fldsOk (P : Program) (t : Nat) : Nat → List (Option (Nat × Nat)) → Bool
  | _, [] => true
  | k, none :: r => fldsOk P t (k + 1) r
  | k, some p :: r => decide (tfld P t k = some p) && fldsOk P t (k + 1) r
theorem fldsOk_ok {P : Program} {t : Nat} : ∀ {fs : List (Option (Nat × Nat))} {k : Nat}, fldsOk P t k fs = true → ∀ j o ft, fs[j]? = some (some (o, ft)) → tfld P t (k + j) = some (o, ft)
  | [], k, h, j, o, ft, hj => by simp at hj
  | none :: r, k, h, 0, o, ft, hj => by simp at hj
  | none :: r, k, h, j + 1, o, ft, hj => by
    have := fldsOk_ok (fs := r) (k := k + 1) h j o ft (by simpa using hj)
    rw [← this]; congr 1; omega
  | some p :: r, k, h, 0, o, ft, hj => by
    simp only [fldsOk, Bool.and_eq_true, decide_eq_true_eq] at h
    simp only [List.getElem?_cons_zero, Option.some.injEq] at hj
    rw [Nat.add_zero, h.1, hj]
  | some p :: r, k, h, j + 1, o, ft, hj => by
    simp only [fldsOk, Bool.and_eq_true, decide_eq_true_eq] at h
    have := fldsOk_ok (fs := r) (k := k + 1) h.2 j o ft (by simpa using hj)
    rw [← this]; congr 1; omega
def kindOk (P : Program) (t : Nat) (i : TI) : Bool :=
  match i.kind with
  | .int k => decide (tint P t = some k)
  | .str => tstr P t
  | .bool => tbool P t
  | .ptr e => match P.underlying t with
    | some (.pointer e') => Nat.beq e' e
    | _ => false
  | _ => true
def tiOk (P : Program) (t : Nat) (i : TI) : Bool :=
  (onat (tsz P t) (some i.sz) && onat (tbytes P t) (some i.bts) && decide (tagg P t = some i.kind.agg) && kindOk P t i) &&
  ((match i.kind with | .slice e => onat (telem P t) (some e) | _ => onat (telem P t) none) &&
  (match i.kind with | .arr n e => decide (tarr P t = some (n, e)) | _ => decide (tarr P t = none))) &&
  (zeroOk P t i && Nat.beq i.zero.length i.sz && (i.kind.agg || Nat.beq i.sz 1) && fldsOk P t 0 i.flds) &&
  ((match i.kind with | .strct => decide (tplaces P t = some i.places) | _ => decide (tplaces P t = none)) &&
  (match i.eqs with | some q => decide (flatEq P t = some q) | none => true))
theorem tiOk_ok {P : Program} {t : Nat} {i : TI} (h : tiOk P t i = true) : TIok P t i := by
  simp only [tiOk, Bool.and_eq_true, decide_eq_true_eq] at h
  obtain ⟨⟨⟨⟨⟨⟨h1, h2⟩, h3⟩, h4⟩, h5, h6⟩, ⟨⟨h7, h8⟩, h9⟩, h10⟩, h11, h12⟩ := h
  refine ⟨onat_eq h1, onat_eq h2, h3, fun k hk => ?_, fun hk => ?_, fun hk => ?_, fun e hk => ?_, fun hk => ?_, fun n e hk => ?_, fun hk => ?_, fun e hk => ?_, ?_, Nat.eq_of_beq_eq_true h8, fun ha => ?_, fun k o ft hk => ?_, fun hk => ?_, fun hk => ?_, fun q hq => ?_⟩
  · simpa [kindOk, hk] using h4
  · simpa [kindOk, hk] using h4
  · simpa [kindOk, hk] using h4
  · rw [hk] at h5; exact onat_eq h5
  · split at h5
    · rename_i e he; exact absurd he (hk e)
    · exact onat_eq h5
  · rw [hk] at h6; simpa using h6
  · split at h6
    · rename_i n e he; exact absurd he (hk n e)
    · simpa using h6
  · simp only [kindOk, hk] at h4
    split at h4
    · rename_i e' he; rw [he, Nat.eq_of_beq_eq_true h4]
    · cases h4
  · unfold zeroOk at h7
    split at h7
    · rename_i cs hz
      simp only [Bool.and_eq_true, decide_eq_true_eq] at h7
      rw [hz, if_pos h7.1, zcL_ok h7.2]
    · rename_i d hne hz
      simp only [Bool.and_eq_true, decide_eq_true_eq, Bool.not_eq_true'] at h7
      rw [hz, if_neg (by rw [h7.1]; simp), ← zcL_ok h7.2]
      rfl
    · cases h7
  · rw [ha] at h9; simp only [Bool.false_or] at h9; exact Nat.eq_of_beq_eq_true h9
  · have := fldsOk_ok h10 k o ft hk
    rwa [Nat.zero_add] at this
  · rw [hk] at h11; simpa using h11
  · split at h11
    · rename_i he; exact absurd he hk
    · simpa using h11
  · rw [hq] at h12; simpa using h12
def Tr.allB (p : Nat → TI → Bool) : Tr → Bool
  | .leaf => true
  | .node l k v r => l.allB p && (p k v && r.allB p)
theorem Tr.allB_ok {p : Nat → TI → Bool} {q : Nat → TI → Prop} (hq : ∀ t i, p t i = true → q t i) : ∀ {y : Tr}, y.allB p = true → y.All q
  | .leaf, _ => trivial
  | .node l k v r, h => by
    simp only [Tr.allB, Bool.and_eq_true] at h
    exact ⟨Tr.allB_ok hq h.1, hq k v h.2.1, Tr.allB_ok hq h.2.2⟩
theorem tys_ok {P : Program} {y : Tr} (h : y.allB (tiOk P) = true) : TysOk P y.find := fun t i hf => Tr.find_all (Tr.allB_ok (fun _ _ h => tiOk_ok h) h) hf
end

section
variable {T : Nat → Type}
section
variable {P : Program} {E : Env T} {A : Loc2 T} {n : Nat} {kq : List Nat} {c0 : Code}
theorem done_nil : ∀ id ∈ ([] : List Nat), ∀ S, A.lp id = some S → LoopOk P E n kq (loopAt id c0) S := fun _ h => by cases h
theorem done_cons {id : Nat} {done : List Nat} {S0 : LSpec T} (h0 : A.lp id = some S0) (h : LoopOk P E n kq (loopAt id c0) S0) (hr : ∀ id ∈ done, ∀ S, A.lp id = some S → LoopOk P E n kq (loopAt id c0) S) :
    ∀ id' ∈ id :: done, ∀ S, A.lp id' = some S → LoopOk P E n kq (loopAt id' c0) S := fun id' hm S hS => by
  rcases List.mem_cons.1 hm with rfl | hm
  · rw [h0] at hS; cases hS; exact h
  · exact hr id' hm S hS
end
/-- an environment's contracts hold. -/
theorem envOk {P : Program} {E : Env T} (h1 : CdOk E.C) (h2 : TysOk P E.Y) (h3 : FlOk E.C E.fl) (h4 : ∀ f ds S, E.F f ds = some S → SoundT P E.C (fun g => (E.G g).map (denL E.C)) f S) : EnvOk P E := ⟨h1, h2, h3, h4⟩
end
end Go.Abs

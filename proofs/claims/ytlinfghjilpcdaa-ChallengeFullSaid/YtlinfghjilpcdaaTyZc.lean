/- Plain tools for functions in the Option monad: loops, indices, words. No condition. -/
import Derived.Test.YtlinfghjilpcdaaTyE
namespace Go.Abs
open Go
set_option linter.unusedSimpArgs false

theorem wrap_id {n : Int} (h1 : -9223372036854775808 ≤ n) (h2 : n < 9223372036854775808) : IntKind.wrap .i64 n = n := by
  simp only [IntKind.wrap, IntKind.bits, IntKind.signed]
  simp
  omega
theorem rounds_eq : rounds = 1180591620717411303424 := rfl

def ati {α : Type} [Inhabited α] (l : List α) (i : Int) : α := l.getD i.toNat default
theorem getI_some {α : Type} [Inhabited α] {l : List α} {i : Int} (h1 : 0 ≤ i) (h2 : i < l.length) : getI l i = some (ati l i) := by
  unfold getI ati
  have : i.toNat < l.length := by omega
  simp [h1, this]
theorem ati_append_left {α : Type} [Inhabited α] {l m : List α} {i : Int} (h1 : 0 ≤ i) (h2 : i < l.length) : ati (l ++ m) i = ati l i := by
  unfold ati
  have : i.toNat < l.length := by omega
  simp [List.getD_eq_getElem?_getD, List.getElem?_append_left this]
theorem ati_append_right {α : Type} [Inhabited α] {l m : List α} {i : Int} (h1 : l.length ≤ i) : ati (l ++ m) i = ati m (i - l.length) := by
  unfold ati
  have h : l.length ≤ i.toNat := by omega
  simp only [List.getD_eq_getElem?_getD, List.getElem?_append_right h]
  congr 2
  omega

theorem iter_succ {α β : Type} (f : α → Option (α ⊕ β)) (n : Nat) (s : α) : iter f (n + 1) s = (f s).bind (Sum.elim (iter f n) some) := rfl

/-- a loop with an invariant and a measure. -/
theorem iter_ok {α β : Type} {f : α → Option (α ⊕ β)} (Inv : α → Prop) (μ : α → Nat) (Q : β → Prop)
    (h : ∀ s, Inv s → (∃ t, f s = some (.inl t) ∧ Inv t ∧ μ t < μ s) ∨ ∃ b, f s = some (.inr b) ∧ Q b) : ∀ (n : Nat) (s : α), Inv s → μ s < n → ∃ b, iter f n s = some b ∧ Q b := by
  intro n
  induction n with
  | zero => intro s _ hm; omega
  | succ n ih =>
    intro s hs hm
    rw [iter_succ]
    rcases h s hs with ⟨t, h1, h2, h3⟩ | ⟨b, h1, h2⟩
    · rw [h1]
      exact ih t h2 (by omega)
    · rw [h1]
      exact ⟨b, rfl, h2⟩

/-- a loop that runs a pure function of its state: with what it computes told ahead. -/
theorem iter_fun {α β : Type} {f : α → Option (α ⊕ β)} (Inv : α → Prop) (μ : α → Nat) (F : α → β)
    (h : ∀ s, Inv s → (∃ t, f s = some (.inl t) ∧ Inv t ∧ μ t < μ s ∧ F s = F t) ∨ f s = some (.inr (F s))) : ∀ (n : Nat) (s : α), Inv s → μ s < n → iter f n s = some (F s) := by
  intro n
  induction n with
  | zero => intro s _ hm; omega
  | succ n ih =>
    intro s hs hm
    rw [iter_succ]
    rcases h s hs with ⟨t, h1, h2, h3, h4⟩ | h1
    · rw [h1, h4]
      exact ih t h2 (by omega)
    · rw [h1]; rfl

/-- the last of the numbers lo to lo + n - 1 with a property. -/
def lastO (p : Int → Bool) (lo : Int) : Nat → Option Int
  | 0 => none
  | n + 1 => if p (lo + n) then some (lo + n) else lastO p lo n
def lastV (p : Int → Bool) (lo hi : Int) : Int := (lastO p lo (hi - lo).toNat).getD (-1)

theorem lastO_none {p : Int → Bool} {lo : Int} : ∀ {n : Nat}, lastO p lo n = none → ∀ i, lo ≤ i → i < lo + n → p i = false
  | 0, _, i, h1, h2 => by omega
  | n + 1, h, i, h1, h2 => by
    unfold lastO at h
    split at h
    · cases h
    · rename_i hp
      by_cases e : i = lo + n
      · subst e; simpa using hp
      · exact lastO_none h i h1 (by omega)
theorem lastO_some {p : Int → Bool} {lo : Int} : ∀ {n : Nat} {k : Int}, lastO p lo n = some k → lo ≤ k ∧ k < lo + n ∧ p k = true ∧ ∀ i, k < i → i < lo + n → p i = false
  | 0, _, h => by cases h
  | n + 1, k, h => by
    unfold lastO at h
    split at h
    · rename_i hp
      cases h
      exact ⟨by omega, by omega, hp, fun i h1 h2 => by omega⟩
    · rename_i hp
      obtain ⟨h1, h2, h3, h4⟩ := lastO_some h
      refine ⟨h1, by omega, h3, fun i h5 h6 => ?_⟩
      by_cases e : i = lo + n
      · subst e; simpa using hp
      · exact h4 i h5 (by omega)
/-- what it is, told by its properties. -/
theorem lastV_cases (p : Int → Bool) (lo hi : Int) : (lastV p lo hi = -1 ∧ ∀ i, lo ≤ i → i < hi → p i = false) ∨ (lo ≤ lastV p lo hi ∧ lastV p lo hi < hi ∧ p (lastV p lo hi) = true ∧ ∀ i, lastV p lo hi < i → i < hi → p i = false) := by
  unfold lastV
  cases h : lastO p lo (hi - lo).toNat with
  | none => exact .inl ⟨rfl, fun i h1 h2 => lastO_none h i h1 (by omega)⟩
  | some k =>
    obtain ⟨h1, h2, h3, h4⟩ := lastO_some h
    exact .inr ⟨h1, by simp; omega, h3, fun i h5 h6 => h4 i h5 (by omega)⟩
theorem lastV_eq {p : Int → Bool} {lo hi k : Int} (h1 : lo ≤ k) (h2 : k < hi) (h3 : p k = true) (h4 : ∀ i, k < i → i < hi → p i = false) : lastV p lo hi = k := by
  rcases lastV_cases p lo hi with ⟨_, h⟩ | ⟨a, b, c, d⟩
  · rw [h k h1 h2] at h3; cases h3
  · by_cases e : lastV p lo hi = k
    · exact e
    · rcases Int.lt_or_gt_of_ne e with q | q
      · rw [d k q h2] at h3; cases h3
      · rw [h4 _ q b] at c; cases c
theorem lastV_none {p : Int → Bool} {lo hi : Int} (h : ∀ i, lo ≤ i → i < hi → p i = false) : lastV p lo hi = -1 := by
  rcases lastV_cases p lo hi with ⟨h, _⟩ | ⟨a, b, c, d⟩
  · exact h
  · rw [h _ a b] at c; cases c
theorem lastV_congr {p q : Int → Bool} {lo hi : Int} (h : ∀ i, lo ≤ i → i < hi → p i = q i) : lastV p lo hi = lastV q lo hi := by
  rcases lastV_cases q lo hi with ⟨e, h1⟩ | ⟨a, b, c, d⟩
  · rw [e]; exact lastV_none fun i a b => by rw [h i a b]; exact h1 i a b
  · exact lastV_eq a b (by rw [h _ a b]; exact c) fun i h1 h2 => by rw [h i (by omega) h2]; exact d i h1 h2

def lsum : Option Int → (Int × Unit) ⊕ Unit
  | some i => .inl (i, ())
  | none => .inr ()
theorem sum_last {γ : Type} (o : Option Int) (K : Int → Option γ) : (some (lsum o) : Option ((Int × Unit) ⊕ Unit)).bind (Sum.elim (fun z => K z.1) (fun _ => K (-1))) = K (o.getD (-1)) := by
  cases o <;> rfl
theorem iter_last {α : Type} {f : α → Option (α ⊕ ((Int × Unit) ⊕ Unit))} (mk : Int → α) (p : Int → Bool) (lo hi : Int)
    (h1 : ∀ i, lo ≤ i → i < hi → f (mk i) = some (if p i then .inr (.inl (i, ())) else .inl (mk (i - 1)))) (h2 : ∀ i, i < lo → f (mk i) = some (.inr (.inr ()))) (fuel : Nat) (hf : (hi - lo).toNat < fuel) :
    iter f fuel (mk (hi - 1)) = some (lsum (lastO p lo (hi - lo).toNat)) := by
  have key : ∀ (n fuel : Nat), lo + n ≤ hi → n < fuel → iter f fuel (mk (lo + n - 1)) = some (lsum (lastO p lo n)) := by
    intro n
    induction n with
    | zero =>
      intro fuel _ hf
      cases fuel with
      | zero => omega
      | succ fuel => rw [iter_succ, h2 _ (by omega)]; rfl
    | succ n ih =>
      intro fuel hn hf
      cases fuel with
      | zero => omega
      | succ fuel =>
        rw [iter_succ, show lo + ((n + 1 : Nat) : Int) - 1 = lo + n by omega, h1 _ (by omega) (by omega)]
        unfold lastO
        split
        · rfl
        · exact ih fuel (by omega) (by omega)
  by_cases hlt : lo ≤ hi
  · have := key (hi - lo).toNat fuel (by omega) hf
    rwa [show lo + ((hi - lo).toNat : Int) - 1 = hi - 1 by omega] at this
  · have e : (hi - lo).toNat = 0 := by omega
    rw [e] at hf ⊢
    cases fuel with
    | zero => omega
    | succ fuel => rw [iter_succ, h2 _ (by omega)]; rfl
/-- a program in the Option monad ends with something of which Q holds. -/
def Ok {α : Type} (m : Option α) (Q : α → Prop) : Prop := ∃ a, m = some a ∧ Q a
theorem Ok.some {α : Type} {a : α} {Q : α → Prop} (h : Q a) : Ok (some a) Q := ⟨a, rfl, h⟩
theorem Ok.bind {α β : Type} {m : Option α} {f : α → Option β} {Q : β → Prop} (h : Ok m fun a => Ok (f a) Q) : Ok (m.bind f) Q := by
  obtain ⟨a, rfl, h⟩ := h
  exact h
theorem Ok.cond {α : Type} {c : Bool} {a b : Option α} {Q : α → Prop} (h1 : c = true → Ok a Q) (h2 : c = false → Ok b Q) : Ok (bif c then a else b) Q := by
  cases c
  · exact h2 rfl
  · exact h1 rfl
theorem Ok.mono {α : Type} {m : Option α} {Q R : α → Prop} (h : Ok m Q) (hq : ∀ a, Q a → R a) : Ok m R := by
  obtain ⟨a, h1, h2⟩ := h
  exact ⟨a, h1, hq a h2⟩
theorem Ok.get {α β : Type} {l : List α} {i : Nat} {f : α → Option β} {Q : β → Prop} (h : i < l.length) (h2 : ∀ x, Ok (f x) Q) : Ok ((l[i]?).bind f) Q := by
  rw [List.getElem?_eq_getElem h]
  exact h2 _

theorem Ok.iter {α β : Type} {f : α → Option (α ⊕ β)} {s : α} {n : Nat} {Q : β → Prop} (Inv : α → Prop) (μ : α → Nat) (h0 : Inv s) (hn : μ s < n) (h : ∀ s, Inv s → Ok (f s) (fun r => match r with | .inl t => Inv t ∧ μ t < μ s | .inr b => Q b)) : Ok (iter f n s) Q := by
  refine iter_ok Inv μ Q (fun s hs => ?_) n s h0 hn
  obtain ⟨r, h1, h2⟩ := h s hs
  cases r with
  | inl t => exact .inl ⟨t, h1, h2⟩
  | inr b => exact .inr ⟨b, h1, h2⟩
end Go.Abs

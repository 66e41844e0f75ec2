/- The law ChallengePlays, plainly. -/
import Derived.Test.YtlinfghjilpcdaaChalLaw
import Derived.Test.YtlinfghjilpcdaaTyZ
set_option linter.unusedVariables false
set_option maxRecDepth 100000
namespace Go.Proofs.Ytlinfghjilpcdaa
open Go Go.Abs
structure Good (n : Nat) (s : ApiChallenges) : Prop where
  len : s.open_.length ≤ n
  elt : ∀ x ∈ s.open_, (0 ≤ x.since ∧ x.since ≤ 1099511627776) ∧ x.account.length ≤ 100
theorem Good.mono {n m : Nat} {s : ApiChallenges} (h : Good n s) (hnm : n ≤ m) : Good m s := ⟨Nat.le_trans h.len hnm, h.elt⟩
theorem Good.sub {n m : Nat} {s : ApiChallenges} (h : Good n s) {l : List ApiChallenge} (hm : l.length ≤ m) (hl : ∀ x ∈ l, x ∈ s.open_) {c : Int} : Good m ⟨s.secret, c, l⟩ := ⟨hm, fun x hx => h.elt x (hl x hx)⟩
theorem Ok.issue {n : Nat} {s : ApiChallenges} (h : Good n s) (hn : n ≤ 60) {acc : List UInt8} (ha : acc.length ≤ 100) {kind : Int} {bound : Bool} {now : Int}
    {β : Type} {f : (Unit × ApiChallenges × List UInt8 × Int × Unit) → (Unit × ApiChallenges × List UInt8 × Int × Unit) → Option β} {Q : β → Prop} (hf : ∀ s' t e, Good (n + 1) s' → Ok (f ((), s', t, e, ()) ((), s', t, e, ())) Q) :
    Ok ((challenge_Issue s kind acc bound now).bind fun r => (passkeyref29_Issue s kind acc bound now).bind (f r)) Q := by
  have hl := h.len
  by_cases hh : isT now = true ∧ (kind = 1 ∨ kind = 2) ∧ acc.length ≤ 32
  · rw [issue_ok s kind acc bound now hh.1 hh.2.1 hh.2.2 (by omega), bindS, rissue_ok s kind acc bound now hh.1 hh.2.1 hh.2.2 (fun x hx => (h.elt x hx).1) (by omega), bindS]
    unfold issued
    split
    · exact hf _ _ _ (h.mono (by omega))
    · have hfl := flen s now
      have hT := isT_iff.1 hh.1
      refine hf _ _ _ ⟨by simp; omega, fun x hx => ?_⟩
      dsimp only at hx
      rcases List.mem_append.1 hx with hx | hx
      · exact h.elt x (List.mem_filter.1 hx).1
      · rw [List.mem_singleton] at hx
        subst hx
        exact ⟨hT, ha⟩
  · obtain ⟨e, h1, h2⟩ := issue_bad s kind acc bound now hh
    rw [h1, bindS, h2, bindS]
    exact hf _ _ _ (h.mono (by omega))
theorem Ok.use {n : Nat} {s : ApiChallenges} (h : Good n s) (hn : n ≤ 60) {b : List UInt8} {kind now : Int}
    {β : Type} {f : (Unit × ApiChallenges × ApiChallenge × Int × Unit) → (Unit × ApiChallenges × ApiChallenge × Int × Unit) → Option β} {Q : β → Prop} (hf : ∀ s' x e, Good (n + 1) s' → Ok (f ((), s', x, e, ()) ((), s', x, e, ())) Q) :
    Ok ((challenge_Use s b kind now).bind fun r => (passkeyref29_UseChallenge s b kind now).bind (f r)) Q := by
  have hl := h.len
  have ha : ∀ x ∈ s.open_, x.account.length < 100000000 := fun x hx => by
    have := (h.elt x hx).2
    omega
  by_cases hT : isT now = true
  · rw [use_ok s b kind now hT (by omega) ha, bindS, ruse_ok s b kind now hT (fun x hx => (h.elt x hx).1) (by omega) ha, bindS]
    have hfl := flen s now
    have hsub : ∀ x ∈ s.open_.filter (keepE now), x ∈ s.open_ := fun x hx => (List.mem_filter.1 hx).1
    generalize s.open_.filter (keepE now) = l at hfl hsub
    cases l.findIdx? (pU s b kind) with
    | none => exact hf _ _ _ (h.mono (by omega))
    | some k =>
      refine hf _ _ _ (h.sub (by simp; omega) fun x hx => hsub x ?_)
      rcases List.mem_append.1 hx with hx | hx
      · exact List.mem_of_mem_take hx
      · exact List.mem_of_mem_drop hx
  · obtain ⟨h1, h2⟩ := use_bad s b kind now (by simpa using hT)
    rw [h1, bindS, h2, bindS]
    exact hf _ _ _ (h.mono (by omega))
theorem Ok.exp {n : Nat} {s : ApiChallenges} (h : Good n s) (hn : n ≤ 60) {now : Int}
    {β : Type} {f : (Unit × ((BitVec 64 × Int × Unit) × List ApiChallenge × Unit) × Unit) → (Unit × ApiChallenges × Unit) → Option β} {Q : β → Prop} (hf : ∀ s', Good (n + 1) s' → Ok (f ((), ((s'.secret, s'.count, ()), s'.open_, ()), ()) ((), s', ())) Q) :
    Ok ((challenge_Expire s now).bind fun r => (passkeyref29_ExpireChallenges s now).bind (f r)) Q := by
  have hl := h.len
  have hfl := flen s now
  rw [expire_ok s now (by omega), bindS, rexpire_ok s now (fun x hx => (h.elt x hx).1) (by omega), bindS]
  exact hf ⟨s.secret, s.count, s.open_.filter (keepE now)⟩ (h.sub (by omega) fun x hx => (List.mem_filter.1 hx).1)
abbrev PSt := (List UInt8) × Int × (PasskeycastDeck × Unit) × (ApiChallenges × Unit) × (ApiChallenges × Unit) × (List (List UInt8)) × Int × Int × Unit
def InvP (y : PSt) : Prop :=
  DkOk y.2.2.1.1 ∧ y.2.2.2.1.1 = y.2.2.2.2.1.1 ∧ 0 ≤ y.2.2.2.2.2.2.2.1 ∧ y.2.2.2.2.2.2.2.1 ≤ 60 ∧ Good y.2.2.2.2.2.2.2.1.toNat y.2.2.2.1.1 ∧ 1 ≤ y.2.2.2.2.2.1.length ∧ y.2.2.2.2.2.1.length ≤ 1 + y.2.2.2.2.2.2.2.1.toNat ∧ y.1.length ≤ 100
def QP (i : Int) (r : PSt ⊕ ((Bool × Unit) ⊕ Unit)) : Prop :=
  match r with
  | .inl t => InvP t ∧ (60 - t.2.2.2.2.2.2.2.1).toNat < (60 - i).toNat
  | .inr b => b = .inr ()
theorem fin_same {s : ApiChallenges} {n : Nat} (h : Good n s) (hn : n ≤ 61) {β : Type} {f : (Unit × (Bool × Unit)) → Option β} {Q : β → Prop} (hf : Ok (f ((), true, ())) Q) : Ok ((passkeyref29_SameChallenges s s).bind f) Q := by
  have := h.len
  rw [same_ok s (by omega), bindS]
  exact hf
theorem fin_small {n : Nat} (h : n < 1000000) {β : Type} {a b : Option β} {Q : β → Prop} (hf : Ok a Q) : Ok (bif small n 24 then a else b) Q := by
  rw [small24 h]
  exact hf
theorem fin_eq {α β : Type} [DecidableEq α] (x : α) {a b : Option β} {Q : β → Prop} (hf : Ok b Q) : Ok (bif (!decide (x = x)) then a else b) Q := by
  rw [decide_eq_true rfl]
  exact hf
theorem fin_eq5 (x : ApiChallenge) {β : Type} {a b : Option β} {Q : β → Prop} (hf : Ok b Q) : Ok (bif (!(decide (x.number = x.number) && (decide (x.kind = x.kind) && (decide (x.account = x.account) && ((x.bound == x.bound) && (decide (x.since = x.since) && true)))))) then a else b) Q := by
  rw [decide_eq_true rfl, decide_eq_true rfl, decide_eq_true rfl, decide_eq_true rfl, beq_self_eq_true]
  exact hf
attribute [local irreducible] challenge_Issue challenge_Use challenge_Expire passkeyref29_Issue passkeyref29_UseChallenge passkeyref29_ExpireChallenges passkeycast_Deck_Next passkeycast_Name passkeyref29_SameChallenges small
set_option maxHeartbeats 4000000 in
theorem plays_step (y : PSt) (h : InvP y) :
    Ok (passkeylaw29_ChallengePlays_L0b y.1 y.2.1 y.2.2.1 y.2.2.2.1 y.2.2.2.2.1 y.2.2.2.2.2.1 y.2.2.2.2.2.2.1 y.2.2.2.2.2.2.2.1) (QP y.2.2.2.2.2.2.2.1) := by
  obtain ⟨acc, nw, ⟨d, u0⟩, ⟨s, u1⟩, ⟨t, u2⟩, known, at_, i, u⟩ := y
  obtain ⟨hd, hst, hi0, hi1, hG, hn1, hn2, hacc⟩ := h
  dsimp only at *
  subst hst
  unfold passkeylaw29_ChallengePlays_L0b
  refine Ok.cond ?_ ?_ <;> intro hk
  rotate_left
  · exact Ok.some rfl
  have hk : i < 60 := of_decide_eq_true hk
  have fin : ∀ (d' : PasskeycastDeck) (s' : ApiChallenges) (kn : List (List UInt8)) (z : Int), DkOk d' → Good (i.toNat + 1) s' → 1 ≤ kn.length → kn.length ≤ 1 + (i.toNat + 1) → QP i (.inl (acc, nw, (d', ()), (s', ()), (s', ()), kn, z, IntKind.wrap .i64 (i + 1), ())) := by
    intro d' s' kn z h1 h2 h3 h4
    rw [wrap_id (by omega) (by omega)]
    refine ⟨⟨h1, rfl, ?_, ?_, ?_, h3, ?_, hacc⟩, ?_⟩ <;> dsimp only
    · omega
    · omega
    · rw [show (i + 1).toNat = i.toNat + 1 by omega]; exact h2
    · omega
    · omega
  have hG1 : Good (i.toNat + 1) s := hG.mono (by omega)
  have n60 : i.toNat ≤ 60 := by omega
  have n61 : i.toNat + 1 ≤ 61 := by omega
  have hkl : (known.length : Int) < 1000 := by omega
  have hk0 : (0 : Int) < (known.length : Int) := by omega
  have hkm : known.length ≤ 1 + (i.toNat + 1) := by omega
  unfold passkeycast_Deck_Left
  rw [bindS]
  dsimp only
  refine Ok.cond ?_ ?_ <;> intro hl
  rotate_left
  · refine Ok.cond ?_ (fun _ => Ok.some rfl)
    intro hl3
    repeat' (first
      | (refine Ok.next (by omega) (by omega) (by assumption) ?_; intro _ _ _ _ _; dsimp only)
      | (refine Ok.name ?_; intro _ _; dsimp only)
      | (refine Ok.issue hG n60 (by assumption) ?_; intro _ _ _ h'; dsimp only; refine fin_eq _ (fin_eq _ (fin_small (by simp; omega) (fin_same h' n61 (Ok.some (fin _ _ _ _ (by assumption) h' (by simp) (by simp; omega)))))))
      | (refine Ok.use hG n60 ?_; intro _ _ _ h'; dsimp only; refine fin_eq5 _ (fin_eq _ (fin_same h' n61 (Ok.some (fin _ _ _ _ (by assumption) h' (by omega) (by omega))))))
      | (refine Ok.exp hG n60 ?_; intro _ h'; dsimp only; refine fin_same h' n61 (Ok.some (fin _ _ _ _ (by assumption) h' (by omega) (by omega))))
      | (refine fin_same hG1 n61 (Ok.some (fin _ _ _ _ (by assumption) hG1 (by omega) (by omega))))
      | (refine Ok.get (by first | omega | (simp only [List.length_cons, List.length_nil]; omega)) ?_; intro _)
      | (refine Ok.bind ?_)
      | (refine Ok.cond ?_ ?_ <;> intro hc)
      | (refine Ok.some ?_; dsimp only)
      | (exfalso; simp at hc; omega))
  · repeat' (first
      | (refine Ok.next (by omega) (by omega) (by assumption) ?_; intro _ _ _ _ _; dsimp only)
      | (refine Ok.name ?_; intro _ _; dsimp only)
      | (refine Ok.issue hG n60 (by assumption) ?_; intro _ _ _ h'; dsimp only; refine fin_eq _ (fin_eq _ (fin_small (by simp; omega) (fin_same h' n61 (Ok.some (fin _ _ _ _ (by assumption) h' (by simp) (by simp; omega)))))))
      | (refine Ok.use hG n60 ?_; intro _ _ _ h'; dsimp only; refine fin_eq5 _ (fin_eq _ (fin_same h' n61 (Ok.some (fin _ _ _ _ (by assumption) h' (by omega) (by omega))))))
      | (refine Ok.exp hG n60 ?_; intro _ h'; dsimp only; refine fin_same h' n61 (Ok.some (fin _ _ _ _ (by assumption) h' (by omega) (by omega))))
      | (refine fin_same hG1 n61 (Ok.some (fin _ _ _ _ (by assumption) hG1 (by omega) (by omega))))
      | (refine Ok.get (by first | omega | (simp only [List.length_cons, List.length_nil]; omega)) ?_; intro _)
      | (refine Ok.bind ?_)
      | (refine Ok.cond ?_ ?_ <;> intro hc)
      | (refine Ok.some ?_; dsimp only)
      | (exfalso; simp at hc; omega))
theorem ChallengePlays_plain (a0 : BitVec 64) (a1 : List Int) (a2 a3 : List UInt8) (a4 : Int) (hd : ChallengePlays_dom a0 a1 a2 a3 a4) : Ok (passkeylaw29_ChallengePlays a0 a1 a2 a3 a4) fun r => r.2.1 = true := by
  have hm := dok_len hd.2.1
  dsimp only at hm
  unfold passkeylaw29_ChallengePlays
  refine Ok.cond ?_ ?_ <;> intro hc
  · rw [awake_ok, bindS]
    exact Ok.some rfl
  refine Ok.cond ?_ ?_ <;> intro hc2
  · rw [awake_ok, bindS]
    exact Ok.some rfl
  · unfold passkeycast_New challenge_New passkeyref29_NewChallenges
    rw [bindS, bindS, bindS]
    refine Ok.bind ?_
    unfold passkeylaw29_ChallengePlays_L0
    have hc2 : ¬ (100 : Int) < (a3.length : Int) := of_decide_eq_false hc2
    refine Ok.iter InvP (fun y => (60 - y.2.2.2.2.2.2.2.1).toNat) ?_ (by rw [rounds_eq]; dsimp only; omega) ?_
    · refine ⟨⟨by simp, by simp, by dsimp only; omega⟩, rfl, by simp, by simp, ⟨by simp, by simp⟩, by simp, by simp, by dsimp only; omega⟩
    · intro y hy
      refine (plays_step y hy).mono ?_
      rintro (t | b) h
      · exact h
      · have h : b = .inr () := h
        subst h
        simp only [Sum.elim_inr]
        rw [awake_ok, bindS]
        exact Ok.some rfl
end Go.Proofs.Ytlinfghjilpcdaa

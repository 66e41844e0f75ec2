/- What both compute on sessions, step by step, and the law SessionPlays, plainly. -/
import Derived.Test.YtgenglnebkjhfaaSessLaw2
set_option linter.unusedVariables false
set_option maxRecDepth 100000
namespace Go.Proofs.Ytgenglnebkjhfaa
open Go Go.Abs
def keepC (c x : ApiSession) : Bool := !decide (x.number = c.number)
theorem step2 (x : ApiSession) (c : ApiSession) : session_Close_1 x c = some ((), keepC c x, ()) := by
  unfold session_Close_1 keepC
  rfl
theorem filt2_L0 (cap : ApiSession) (s z : ApiSessions) (l : List ApiSession) (hl : l.length < 100000) : session_filter_2_L0 (cap, (s, ()), (z, ()), [], l, (l.length : Int), 0, ()) = some ((s, ()), (z, ()), l.filter (keepC cap), ()) := by
  unfold session_filter_2_L0
  rw [iter_fun (fun q => q.1 = cap ∧ q.2.2.2.2.1 = l ∧ q.2.2.2.2.2.1 = (l.length : Int) ∧ 0 ≤ q.2.2.2.2.2.2.1 ∧ q.2.2.2.2.2.2.1 ≤ (l.length : Int) ∧ (q.2.2.2.1.length : Int) ≤ q.2.2.2.2.2.2.1) (fun q => ((l.length : Int) - q.2.2.2.2.2.2.1).toNat) (fun q => (q.2.1, q.2.2.1, q.2.2.2.1 ++ (l.drop q.2.2.2.2.2.2.1.toNat).filter (keepC cap), ()))]
  · simp
  · rintro ⟨y0, ⟨y1, u1⟩, ⟨y2, u2⟩, y3, y4, y5, i, u⟩ ⟨h1, h2, h3, h4, h5, h6⟩
    dsimp only at *
    subst h1; subst h2; subst h3
    simp only [session_filter_2_L0b]
    by_cases hc : i < y4.length
    · left
      have e : y4.drop i.toNat = ati y4 i :: y4.drop (i.toNat + 1) := by
        have : i.toNat < y4.length := by omega
        rw [List.drop_eq_getElem_cons this]
        simp [ati, this]
      rw [getI_some h4 hc, wrap_id (n := i + 1) (by omega) (by omega)]
      simp only [hc, decide_true, cond_true, Option.bind_some, step2]
      cases hk : keepC y0 (ati y4 i)
      · refine ⟨_, rfl, ⟨rfl, rfl, rfl, by dsimp only; omega, by dsimp only; omega, by dsimp only; omega⟩, by dsimp only; omega, ?_⟩
        dsimp only
        rw [e, show (i + 1).toNat = i.toNat + 1 by omega, List.filter_cons_of_neg (by simp [hk])]
      · rw [small72 (by simp; omega)]
        refine ⟨_, rfl, ⟨rfl, rfl, rfl, by dsimp only; omega, by dsimp only; omega, by simp; omega⟩, by dsimp only; omega, ?_⟩
        dsimp only
        rw [e, show (i + 1).toNat = i.toNat + 1 by omega, List.filter_cons_of_pos hk]
        simp
    · right
      have : i.toNat = y4.length := by omega
      simp [hc, this]
  · exact ⟨rfl, rfl, rfl, by simp, by simp, by simp⟩
  · rw [rounds_eq]; dsimp only; omega
theorem filter2_ok (s : ApiSessions) (cap : ApiSession) (hl : s.open_.length < 100000) : session_filter_2 s cap = some ((), ((s.secret, s.count, ()), s.open_.filter (keepC cap), ()), ()) := by
  unfold session_filter_2
  rw [mk_cond _ hl]
  simp only [cond_true, List.replicate_zero]
  rw [filt2_L0 _ _ _ _ hl]
  rfl

def keepM (m : BitVec 64) (x : ApiSession) : Bool := decide (m = 0#64) || !decide (x.model = m)
theorem step3 (x : ApiSession) (c : BitVec 64) : session_RevokeModel_1 x c = some ((), keepM c x, ()) := by
  unfold session_RevokeModel_1 keepM
  by_cases h : c = 0#64 <;> simp [h]
theorem filt3_L0 (cap : BitVec 64) (s z : ApiSessions) (l : List ApiSession) (hl : l.length < 100000) : session_filter_3_L0 (cap, (s, ()), (z, ()), [], l, (l.length : Int), 0, ()) = some ((s, ()), (z, ()), l.filter (keepM cap), ()) := by
  unfold session_filter_3_L0
  rw [iter_fun (fun q => q.1 = cap ∧ q.2.2.2.2.1 = l ∧ q.2.2.2.2.2.1 = (l.length : Int) ∧ 0 ≤ q.2.2.2.2.2.2.1 ∧ q.2.2.2.2.2.2.1 ≤ (l.length : Int) ∧ (q.2.2.2.1.length : Int) ≤ q.2.2.2.2.2.2.1) (fun q => ((l.length : Int) - q.2.2.2.2.2.2.1).toNat) (fun q => (q.2.1, q.2.2.1, q.2.2.2.1 ++ (l.drop q.2.2.2.2.2.2.1.toNat).filter (keepM cap), ()))]
  · simp
  · rintro ⟨y0, ⟨y1, u1⟩, ⟨y2, u2⟩, y3, y4, y5, i, u⟩ ⟨h1, h2, h3, h4, h5, h6⟩
    dsimp only at *
    subst h1; subst h2; subst h3
    simp only [session_filter_3_L0b]
    by_cases hc : i < y4.length
    · left
      have e : y4.drop i.toNat = ati y4 i :: y4.drop (i.toNat + 1) := by
        have : i.toNat < y4.length := by omega
        rw [List.drop_eq_getElem_cons this]
        simp [ati, this]
      rw [getI_some h4 hc, wrap_id (n := i + 1) (by omega) (by omega)]
      simp only [hc, decide_true, cond_true, Option.bind_some, step3]
      cases hk : keepM y0 (ati y4 i)
      · refine ⟨_, rfl, ⟨rfl, rfl, rfl, by dsimp only; omega, by dsimp only; omega, by dsimp only; omega⟩, by dsimp only; omega, ?_⟩
        dsimp only
        rw [e, show (i + 1).toNat = i.toNat + 1 by omega, List.filter_cons_of_neg (by simp [hk])]
      · rw [small72 (by simp; omega)]
        refine ⟨_, rfl, ⟨rfl, rfl, rfl, by dsimp only; omega, by dsimp only; omega, by simp; omega⟩, by dsimp only; omega, ?_⟩
        dsimp only
        rw [e, show (i + 1).toNat = i.toNat + 1 by omega, List.filter_cons_of_pos hk]
        simp
    · right
      have : i.toNat = y4.length := by omega
      simp [hc, this]
  · exact ⟨rfl, rfl, rfl, by simp, by simp, by simp⟩
  · rw [rounds_eq]; dsimp only; omega
theorem filter3_ok (s : ApiSessions) (cap : BitVec 64) (hl : s.open_.length < 100000) : session_filter_3 s cap = some ((), ((s.secret, s.count, ()), s.open_.filter (keepM cap), ()), ()) := by
  unfold session_filter_3
  rw [mk_cond _ hl]
  simp only [cond_true, List.replicate_zero]
  rw [filt3_L0 _ _ _ _ hl]
  rfl

def keepI (id : List UInt8) (x : ApiSession) : Bool := !decide (x.iD = id)
theorem step4 (x : ApiSession) (c : List UInt8) : session_RevokeCredential_1 x c = some ((), keepI c x, ()) := by
  unfold session_RevokeCredential_1 keepI
  rfl
theorem filt4_L0 (cap : List UInt8) (s z : ApiSessions) (l : List ApiSession) (hl : l.length < 100000) : session_filter_4_L0 (cap, (s, ()), (z, ()), [], l, (l.length : Int), 0, ()) = some ((s, ()), (z, ()), l.filter (keepI cap), ()) := by
  unfold session_filter_4_L0
  rw [iter_fun (fun q => q.1 = cap ∧ q.2.2.2.2.1 = l ∧ q.2.2.2.2.2.1 = (l.length : Int) ∧ 0 ≤ q.2.2.2.2.2.2.1 ∧ q.2.2.2.2.2.2.1 ≤ (l.length : Int) ∧ (q.2.2.2.1.length : Int) ≤ q.2.2.2.2.2.2.1) (fun q => ((l.length : Int) - q.2.2.2.2.2.2.1).toNat) (fun q => (q.2.1, q.2.2.1, q.2.2.2.1 ++ (l.drop q.2.2.2.2.2.2.1.toNat).filter (keepI cap), ()))]
  · simp
  · rintro ⟨y0, ⟨y1, u1⟩, ⟨y2, u2⟩, y3, y4, y5, i, u⟩ ⟨h1, h2, h3, h4, h5, h6⟩
    dsimp only at *
    subst h1; subst h2; subst h3
    simp only [session_filter_4_L0b]
    by_cases hc : i < y4.length
    · left
      have e : y4.drop i.toNat = ati y4 i :: y4.drop (i.toNat + 1) := by
        have : i.toNat < y4.length := by omega
        rw [List.drop_eq_getElem_cons this]
        simp [ati, this]
      rw [getI_some h4 hc, wrap_id (n := i + 1) (by omega) (by omega)]
      simp only [hc, decide_true, cond_true, Option.bind_some, step4]
      cases hk : keepI y0 (ati y4 i)
      · refine ⟨_, rfl, ⟨rfl, rfl, rfl, by dsimp only; omega, by dsimp only; omega, by dsimp only; omega⟩, by dsimp only; omega, ?_⟩
        dsimp only
        rw [e, show (i + 1).toNat = i.toNat + 1 by omega, List.filter_cons_of_neg (by simp [hk])]
      · rw [small72 (by simp; omega)]
        refine ⟨_, rfl, ⟨rfl, rfl, rfl, by dsimp only; omega, by dsimp only; omega, by simp; omega⟩, by dsimp only; omega, ?_⟩
        dsimp only
        rw [e, show (i + 1).toNat = i.toNat + 1 by omega, List.filter_cons_of_pos hk]
        simp
    · right
      have : i.toNat = y4.length := by omega
      simp [hc, this]
  · exact ⟨rfl, rfl, rfl, by simp, by simp, by simp⟩
  · rw [rounds_eq]; dsimp only; omega
theorem filter4_ok (s : ApiSessions) (cap : List UInt8) (hl : s.open_.length < 100000) : session_filter_4 s cap = some ((), ((s.secret, s.count, ()), s.open_.filter (keepI cap), ()), ()) := by
  unfold session_filter_4
  rw [mk_cond _ hl]
  simp only [cond_true, List.replicate_zero]
  rw [filt4_L0 _ _ _ _ hl]
  rfl


theorem revokeModel_ok (s : ApiSessions) (m : BitVec 64) (hl : s.open_.length < 100000) : session_RevokeModel s m = some ((), ⟨s.secret, s.count, s.open_.filter (keepM m)⟩, ()) := by
  unfold session_RevokeModel
  rw [filter3_ok _ _ hl, bindS]
theorem revokeCredential_ok (s : ApiSessions) (id : List UInt8) (hl : s.open_.length < 100000) : session_RevokeCredential s id = some ((), ⟨s.secret, s.count, s.open_.filter (keepI id)⟩, ()) := by
  unfold session_RevokeCredential
  rw [filter4_ok _ _ hl, bindS]
theorem close_ok (s : ApiSessions) (t : List UInt8) (now : Int) (hT : isT now = true) (hl : s.open_.length < 90000) (ha : ∀ x ∈ s.open_, x.account.length < 100000000) :
    session_Close s t now = some (match (s.open_.filter (keepE now)).find? (fun x => decide (tok s x = t)) with | some x => ((), ⟨s.secret, s.count, (s.open_.filter (keepE now)).filter (keepC x)⟩, 0, ()) | none => ((), s, 11, ())) := by
  have hlen : (s.open_.filter (keepE now)).length < 90000 := Nat.lt_of_le_of_lt (List.length_filter_le _ _) hl
  unfold session_Close
  rw [isTime_ok, expire_ok s now (by omega)]
  simp only [bindS, hT, Bool.not_true, cond_false]
  rw [find_ok _ _ (by dsimp only; omega) (fun x hx => ha x (List.mem_filter.1 hx).1)]
  have e : (fun x => decide (tok (⟨s.secret, s.count, s.open_.filter (keepE now)⟩ : ApiSessions) x = t)) = (fun x => decide (tok s x = t)) := by
    funext x
    exact congrArg (fun z => decide (z = t)) (tok_sec _ s x rfl)
  simp only [e]
  cases hf : (s.open_.filter (keepE now)).find? (fun x => decide (tok s x = t)) with
  | none => rfl
  | some x =>
    simp only [bindS, Bool.not_true, cond_false]
    rw [filter2_ok _ _ (by dsimp only; omega), bindS]
/-! ### the reference's functions -/
theorem within_ok (a lo hi : Int) : passkeyref29_within a lo hi = some ((), decide (lo ≤ a) && decide (a ≤ hi), ()) := by
  unfold passkeyref29_within
  by_cases h : lo ≤ a <;> simp [h]
theorem drop_at {α : Type} [Inhabited α] {l : List α} {i : Int} (h0 : 0 ≤ i) (h : i < l.length) : l.drop i.toNat = ati l i :: l.drop (i.toNat + 1) := by
  have : i.toNat < l.length := by omega
  rw [List.drop_eq_getElem_cons this]
  simp [ati, this]
theorem rexp_L0 (now : Int) (s z : ApiSessions) (hl : s.open_.length < 100000) : passkeyref29_ExpireSessions_L0 (now, (s, ()), (z, ()), [], 0, ()) = some ((s, ()), (z, ()), s.open_.filter (fun x => decide (now ≤ x.until_)), ()) := by
  unfold passkeyref29_ExpireSessions_L0
  rw [iter_fun (fun q => q.1 = now ∧ q.2.1.1 = s ∧ 0 ≤ q.2.2.2.2.1 ∧ q.2.2.2.2.1 ≤ (s.open_.length : Int) ∧ (q.2.2.2.1.length : Int) ≤ q.2.2.2.2.1) (fun q => ((s.open_.length : Int) - q.2.2.2.2.1).toNat) (fun q => (q.2.1, q.2.2.1, q.2.2.2.1 ++ (s.open_.drop q.2.2.2.2.1.toNat).filter (fun x => decide (now ≤ x.until_)), ()))]
  · simp
  · rintro ⟨y0, ⟨y1, u1⟩, ⟨y2, u2⟩, y3, i, u⟩ ⟨h1, h2, h4, h5, h6⟩
    dsimp only at *
    subst h1; subst h2
    simp only [passkeyref29_ExpireSessions_L0b]
    by_cases hc : i < y1.open_.length
    · left
      have e := drop_at h4 hc
      rw [getI_some h4 hc, wrap_id (n := i + 1) (by omega) (by omega)]
      simp only [hc, decide_true, cond_true, bindS]
      by_cases hk : y0 ≤ (ati y1.open_ i).until_
      · rw [small72 (by simp; omega)]
        simp only [hk, decide_true, cond_true]
        refine ⟨_, rfl, ⟨rfl, rfl, by dsimp only; omega, by dsimp only; omega, by simp; omega⟩, by dsimp only; omega, ?_⟩
        dsimp only
        rw [e, show (i + 1).toNat = i.toNat + 1 by omega, List.filter_cons_of_pos (by simp [hk])]
        simp
      · simp only [hk, decide_false, cond_false]
        refine ⟨_, rfl, ⟨rfl, rfl, by dsimp only; omega, by dsimp only; omega, by dsimp only; omega⟩, by dsimp only; omega, ?_⟩
        dsimp only
        rw [e, show (i + 1).toNat = i.toNat + 1 by omega, List.filter_cons_of_neg (by simp [hk])]
    · right
      have : i.toNat = y1.open_.length := by omega
      simp [hc, this]
  · exact ⟨rfl, rfl, by simp, by simp, by simp⟩
  · rw [rounds_eq]; dsimp only; omega
theorem rexpire_ok (s : ApiSessions) (now : Int) (hl : s.open_.length < 100000) : passkeyref29_ExpireSessions s now = some ((), ⟨s.secret, s.count, s.open_.filter (keepE now)⟩, ()) := by
  unfold passkeyref29_ExpireSessions
  rw [within_ok, bindS]
  have e : (decide ((0 : Int) ≤ now) && decide (now ≤ 1099511627776)) = isT now := rfl
  rw [e]
  cases h : isT now
  · have : s.open_.filter (keepE now) = s.open_ := filter_all fun x _ => by unfold keepE; rw [h]; rfl
    rw [this]
    rfl
  · simp only [Bool.not_true, cond_false]
    rw [rexp_L0 _ _ _ hl, bindS]
    have : (fun x => decide (now ≤ x.until_)) = keepE now := by
      funext x
      unfold keepE
      rw [h]
      rfl
    rw [this]
theorem rmod_L0 (m : BitVec 64) (s z : ApiSessions) (hl : s.open_.length < 100000) : passkeyref29_RevokeModel_L0 (m, (s, ()), (z, ()), [], 0, ()) = some ((s, ()), (z, ()), s.open_.filter (keepM m), ()) := by
  unfold passkeyref29_RevokeModel_L0
  rw [iter_fun (fun q => q.1 = m ∧ q.2.1.1 = s ∧ 0 ≤ q.2.2.2.2.1 ∧ q.2.2.2.2.1 ≤ (s.open_.length : Int) ∧ (q.2.2.2.1.length : Int) ≤ q.2.2.2.2.1) (fun q => ((s.open_.length : Int) - q.2.2.2.2.1).toNat) (fun q => (q.2.1, q.2.2.1, q.2.2.2.1 ++ (s.open_.drop q.2.2.2.2.1.toNat).filter (keepM m), ()))]
  · simp
  · rintro ⟨y0, ⟨y1, u1⟩, ⟨y2, u2⟩, y3, i, u⟩ ⟨h1, h2, h4, h5, h6⟩
    dsimp only at *
    subst h1; subst h2
    simp only [passkeyref29_RevokeModel_L0b]
    by_cases hc : i < y1.open_.length
    · left
      have e := drop_at h4 hc
      rw [getI_some h4 hc, wrap_id (n := i + 1) (by omega) (by omega)]
      simp only [hc, decide_true, cond_true, bindS]
      rw [small72 (by simp; omega)]
      by_cases h0 : y0 = 0#64
      · simp only [h0, decide_true, cond_true]
        refine ⟨_, rfl, ⟨by simp [h0], rfl, by dsimp only; omega, by dsimp only; omega, by simp; omega⟩, by dsimp only; omega, ?_⟩
        dsimp only
        rw [e, show (i + 1).toNat = i.toNat + 1 by omega, List.filter_cons_of_pos (by simp [keepM])]
        simp
      · by_cases hk : (ati y1.open_ i).model = y0
        · simp only [h0, hk, decide_true, decide_false, Bool.not_true, cond_true, cond_false]
          refine ⟨_, rfl, ⟨rfl, rfl, by dsimp only; omega, by dsimp only; omega, by dsimp only; omega⟩, by dsimp only; omega, ?_⟩
          dsimp only
          rw [e, show (i + 1).toNat = i.toNat + 1 by omega, List.filter_cons_of_neg (by simp [keepM, h0, hk])]
        · simp only [h0, hk, decide_false, Bool.not_false, cond_true, cond_false]
          refine ⟨_, rfl, ⟨rfl, rfl, by dsimp only; omega, by dsimp only; omega, by simp; omega⟩, by dsimp only; omega, ?_⟩
          dsimp only
          rw [e, show (i + 1).toNat = i.toNat + 1 by omega, List.filter_cons_of_pos (by simp [keepM, hk])]
          simp
    · right
      have : i.toNat = y1.open_.length := by omega
      simp [hc, this]
  · exact ⟨rfl, rfl, by simp, by simp, by simp⟩
  · rw [rounds_eq]; dsimp only; omega
theorem rrevokeModel_ok (s : ApiSessions) (m : BitVec 64) (hl : s.open_.length < 100000) : passkeyref29_RevokeModel s m = some ((), ⟨s.secret, s.count, s.open_.filter (keepM m)⟩, ()) := by
  unfold passkeyref29_RevokeModel
  rw [rmod_L0 _ _ _ hl, bindS]
theorem rcred_L0 (c : List UInt8) (s z : ApiSessions) (hl : s.open_.length < 100000) : passkeyref29_RevokeCredential_L0 (c, (s, ()), (z, ()), [], 0, ()) = some ((s, ()), (z, ()), s.open_.filter (keepI c), ()) := by
  unfold passkeyref29_RevokeCredential_L0
  rw [iter_fun (fun q => q.1 = c ∧ q.2.1.1 = s ∧ 0 ≤ q.2.2.2.2.1 ∧ q.2.2.2.2.1 ≤ (s.open_.length : Int) ∧ (q.2.2.2.1.length : Int) ≤ q.2.2.2.2.1) (fun q => ((s.open_.length : Int) - q.2.2.2.2.1).toNat) (fun q => (q.2.1, q.2.2.1, q.2.2.2.1 ++ (s.open_.drop q.2.2.2.2.1.toNat).filter (keepI c), ()))]
  · simp
  · rintro ⟨y0, ⟨y1, u1⟩, ⟨y2, u2⟩, y3, i, u⟩ ⟨h1, h2, h4, h5, h6⟩
    dsimp only at *
    subst h1; subst h2
    simp only [passkeyref29_RevokeCredential_L0b]
    by_cases hc : i < y1.open_.length
    · left
      have e := drop_at h4 hc
      rw [getI_some h4 hc, wrap_id (n := i + 1) (by omega) (by omega)]
      simp only [hc, decide_true, cond_true, bindS]
      rw [small72 (by simp; omega)]
      by_cases hk : (ati y1.open_ i).iD = y0
      · simp only [hk, decide_true, Bool.not_true, cond_false]
        refine ⟨_, rfl, ⟨rfl, rfl, by dsimp only; omega, by dsimp only; omega, by dsimp only; omega⟩, by dsimp only; omega, ?_⟩
        dsimp only
        rw [e, show (i + 1).toNat = i.toNat + 1 by omega, List.filter_cons_of_neg (by simp [keepI, hk])]
      · simp only [hk, decide_false, Bool.not_false, cond_true]
        refine ⟨_, rfl, ⟨rfl, rfl, by dsimp only; omega, by dsimp only; omega, by simp; omega⟩, by dsimp only; omega, ?_⟩
        dsimp only
        rw [e, show (i + 1).toNat = i.toNat + 1 by omega, List.filter_cons_of_pos (by simp [keepI, hk])]
        simp
    · right
      have : i.toNat = y1.open_.length := by omega
      simp [hc, this]
  · exact ⟨rfl, rfl, by simp, by simp, by simp⟩
  · rw [rounds_eq]; dsimp only; omega
theorem rrevokeCredential_ok (s : ApiSessions) (c : List UInt8) (hl : s.open_.length < 100000) : passkeyref29_RevokeCredential s c = some ((), ⟨s.secret, s.count, s.open_.filter (keepI c)⟩, ()) := by
  unfold passkeyref29_RevokeCredential
  rw [rcred_L0 _ _ _ hl, bindS]
theorem sameSession_ok (x : ApiSession) : passkeyref29_SameSession x x = some ((), true, ()) := by
  unfold passkeyref29_SameSession
  simp
theorem sameSessions_ok (s : ApiSessions) (hl : s.open_.length < 100000) : passkeyref29_SameSessions s s = some ((), true, ()) := by
  unfold passkeyref29_SameSessions
  simp only [decide_true, Bool.not_true, cond_false]
  have : passkeyref29_SameSessions_L0 ((s, ()), (s, ()), 0, ()) = some (.inr ()) := by
    unfold passkeyref29_SameSessions_L0
    rw [iter_fun (fun q => q.1.1 = s ∧ q.2.1.1 = s ∧ 0 ≤ q.2.2.1 ∧ q.2.2.1 ≤ (s.open_.length : Int)) (fun q => ((s.open_.length : Int) - q.2.2.1).toNat) (fun _ => .inr ())]
    · rintro ⟨⟨y0, u0⟩, ⟨y1, u1⟩, i, u⟩ ⟨h1, h2, h3, h4⟩
      dsimp only at *
      subst h1; subst h2
      simp only [passkeyref29_SameSessions_L0b]
      by_cases hc : i < y1.open_.length
      · left
        rw [getI_some h3 hc, wrap_id (n := i + 1) (by omega) (by omega)]
        simp only [hc, decide_true, cond_true, bindS, sameSession_ok, Bool.not_true, cond_false]
        exact ⟨_, rfl, ⟨rfl, rfl, by dsimp only; omega, by dsimp only; omega⟩, by dsimp only; omega, trivial⟩
      · right
        simp [hc]
    · exact ⟨rfl, rfl, by simp, by simp⟩
    · rw [rounds_eq]; dsimp only; omega
  rw [this, bindS]
  rfl
def pF (s : ApiSessions) (t : List UInt8) (now : Int) (x : ApiSession) : Bool := decide (now ≤ x.until_) && decide (tok s x = t)
def idxSum (i : Int) : Option Nat → (Int × Unit) ⊕ Unit
  | some k => .inl (i + k, ())
  | none => .inr ()
theorem rfind_L0 (t : List UInt8) (now : Int) (s : ApiSessions) (hl : s.open_.length < 100000) (ha : ∀ x ∈ s.open_, x.account.length < 100000000) : passkeyref29_find_L0 (t, now, (s, ()), 0, ()) = some (idxSum 0 (s.open_.findIdx? (pF s t now))) := by
  unfold passkeyref29_find_L0
  rw [iter_fun (fun q => q.1 = t ∧ q.2.1 = now ∧ q.2.2.1.1 = s ∧ 0 ≤ q.2.2.2.1 ∧ q.2.2.2.1 ≤ (s.open_.length : Int)) (fun q => ((s.open_.length : Int) - q.2.2.2.1).toNat) (fun q => idxSum q.2.2.2.1 ((s.open_.drop q.2.2.2.1.toNat).findIdx? (pF s t now)))]
  · simp
  · rintro ⟨y0, y1, ⟨y2, u2⟩, i, u⟩ ⟨h1, h2, h3, h4, h5⟩
    dsimp only at *
    subst h1; subst h2; subst h3
    simp only [passkeyref29_find_L0b]
    by_cases hc : i < y2.open_.length
    · have hlt : i.toNat < y2.open_.length := by omega
      have e := drop_at h4 hc
      have hm : ati y2.open_ i ∈ y2.open_ := by
        unfold ati
        rw [List.getD_eq_getElem?_getD, List.getElem?_eq_getElem hlt]
        exact List.getElem_mem _
      have next : pF y2 y0 y1 (ati y2.open_ i) = false → idxSum i ((y2.open_.drop i.toNat).findIdx? (pF y2 y0 y1)) = idxSum (i + 1) ((y2.open_.drop (i + 1).toNat).findIdx? (pF y2 y0 y1)) := by
        intro hp
        rw [e, List.findIdx?_cons, hp, show (i + 1).toNat = i.toNat + 1 by omega]
        simp only [Bool.false_eq_true, if_false]
        cases (y2.open_.drop (i.toNat + 1)).findIdx? (pF y2 y0 y1) with
        | none => rfl
        | some k =>
          show Sum.inl (i + ((k + 1 : Nat) : Int), ()) = Sum.inl (i + 1 + (k : Int), ())
          congr 2
          omega
      rw [getI_some h4 hc, wrap_id (n := i + 1) (by omega) (by omega)]
      simp only [hc, decide_true, cond_true, bindS, rbytes_ok _ _ (ha _ hm)]
      by_cases hu : y1 ≤ (ati y2.open_ i).until_
      · by_cases hk : tok y2 (ati y2.open_ i) = y0
        · right
          simp only [hu, hk, decide_true, cond_true]
          rw [e, List.findIdx?_cons, show pF y2 y0 y1 (ati y2.open_ i) = true by simp [pF, hu, hk]]
          simp [idxSum]
        · left
          simp only [hu, hk, decide_true, decide_false, cond_true, cond_false]
          exact ⟨_, rfl, ⟨rfl, rfl, rfl, by dsimp only; omega, by dsimp only; omega⟩, by dsimp only; omega, next (by simp [pF, hk])⟩
      · left
        simp only [hu, decide_false, cond_false]
        exact ⟨_, rfl, ⟨rfl, rfl, rfl, by dsimp only; omega, by dsimp only; omega⟩, by dsimp only; omega, next (by simp [pF, hu])⟩
    · right
      have : i.toNat = y2.open_.length := by omega
      simp only [hc, decide_false, cond_false, this, List.drop_length]
      rfl
  · exact ⟨rfl, rfl, rfl, by simp, by simp⟩
  · rw [rounds_eq]; dsimp only; omega
theorem rfind_ok (s : ApiSessions) (t : List UInt8) (now : Int) (hl : s.open_.length < 100000) (ha : ∀ x ∈ s.open_, x.account.length < 100000000) :
    passkeyref29_find s t now = some ((), (match s.open_.findIdx? (pF s t now) with | some k => (k : Int) | none => -1), ()) := by
  unfold passkeyref29_find
  rw [rfind_L0 _ _ _ hl ha, bindS]
  cases s.open_.findIdx? (pF s t now) with
  | none => rfl
  | some k => simp [idxSum]
theorem find_idx {α : Type} (p : α → Bool) : ∀ l : List α, l.find? p = (l.findIdx? p).bind fun i => l[i]?
  | [] => rfl
  | a :: r => by
    rw [List.find?_cons, List.findIdx?_cons]
    cases h : p a
    · simp only [Bool.false_eq_true, if_false]
      rw [find_idx p r]
      cases r.findIdx? p <;> simp
    · simp
theorem rcheck_ok (s : ApiSessions) (t : List UInt8) (now : Int) (hT : isT now = true) (hl : s.open_.length < 90000) (ha : ∀ x ∈ s.open_, x.account.length < 100000000 ∧ x.iD.length ≤ 140737488355328) :
    passkeyref29_CheckSession s t now = session_Check s t now := by
  rw [check_ok s t now hT hl ha]
  unfold passkeyref29_CheckSession
  have e : (decide ((0 : Int) ≤ now) && decide (now ≤ 1099511627776)) = true := hT
  rw [within_ok, bindS, e, rfind_ok _ _ _ (by omega) (fun x hx => (ha x hx).1)]
  simp only [Bool.not_true, cond_false, bindS]
  have hf : (s.open_.filter (keepE now)).find? (fun x => decide (tok s x = t)) = s.open_.find? (pF s t now) := by
    rw [List.find?_filter]
    refine find_congr fun x _ => ?_
    unfold keepE pF
    rw [hT]
    by_cases h1 : now ≤ x.until_ <;> by_cases h2 : tok s x = t <;> simp [h1, h2]
  rw [hf, find_idx]
  cases hi : s.open_.findIdx? (pF s t now) with
  | none => rfl
  | some k =>
    have hk : k < s.open_.length := by
      have := List.findIdx?_eq_some_iff_findIdx_eq.1 hi
      exact this.1
    simp only [show ¬ ((k : Int) < 0) by omega, decide_false, cond_false, Option.bind_some]
    rw [getI_some (by omega) (by omega), bindS]
    simp [ati, hk]

def Srt (l : List ApiSession) : Prop := l.Pairwise fun a b => a.number < b.number
theorem remove_at : ∀ (l : List ApiSession) (k : Nat) (hk : k < l.length), Srt l → l.filter (keepC l[k]) = l.take k ++ l.drop (k + 1)
  | a :: r, 0, hk, hs => by
    have h := (List.pairwise_cons.1 hs).1
    show (a :: r).filter (keepC a) = r
    rw [List.filter_cons_of_neg (by simp [keepC])]
    refine filter_all fun x hx => ?_
    have := h x hx
    show (!decide (x.number = a.number)) = true
    rw [decide_eq_false (by omega)]
    rfl
  | a :: r, k + 1, hk, hs => by
    have h := List.pairwise_cons.1 hs
    have hk' : k < r.length := by simpa using hk
    have hlt := h.1 _ (List.getElem_mem hk')
    show (a :: r).filter (keepC r[k]) = a :: r.take k ++ r.drop (k + 1)
    rw [List.filter_cons_of_pos (by
      show (!decide (a.number = r[k].number)) = true
      rw [decide_eq_false (by omega)]
      rfl), remove_at r k hk' h.2]
    rfl
theorem Srt.filter {l : List ApiSession} (h : Srt l) (p : ApiSession → Bool) : Srt (l.filter p) := List.Pairwise.filter p h
theorem minF_min : ∀ (l : List ApiSession) (m : Int), (∀ x ∈ l, m ≤ x.number) → minF m l = m
  | [], m, _ => rfl
  | a :: r, m, h => by
    unfold minF
    rw [List.foldl_cons]
    have := h a (by simp)
    simp only [show ¬ a.number < m by omega, decide_false, cond_false]
    exact minF_min r m fun x hx => h x (by simp [hx])
theorem room_drop (l : List ApiSession) (hs : Srt l) : roomS l = if 32 ≤ l.length then l.drop 1 else l := by
  unfold roomS
  split
  · match l, hs with
    | [], _ => rfl
    | a :: r, hs =>
      have h := (List.pairwise_cons.1 hs).1
      have e : oldestOf (a :: r) = a.number := minF_min (a :: r) a.number fun x hx => by
        rcases List.mem_cons.1 hx with rfl | hx
        · omega
        · have := h x hx; omega
      rw [e]
      show (a :: r).filter (keepN a.number) = r
      rw [List.filter_cons_of_neg (by simp [keepN])]
      refine filter_all fun x hx => ?_
      have := h x hx
      show (!decide (x.number = a.number)) = true
      rw [decide_eq_false (by omega)]
      rfl
  · rfl
theorem rclose_ok (s : ApiSessions) (t : List UInt8) (now : Int) (hT : isT now = true) (hl : s.open_.length < 90000) (ha : ∀ x ∈ s.open_, x.account.length < 100000000) (hs : Srt s.open_) :
    passkeyref29_CloseSession s t now = session_Close s t now := by
  rw [close_ok s t now hT hl ha]
  have hlen : (s.open_.filter (keepE now)).length < 90000 := Nat.lt_of_le_of_lt (List.length_filter_le _ _) hl
  unfold passkeyref29_CloseSession
  have e : (decide ((0 : Int) ≤ now) && decide (now ≤ 1099511627776)) = true := hT
  rw [within_ok, bindS, e, rexpire_ok _ _ (by omega)]
  simp only [Bool.not_true, cond_false, bindS]
  rw [rfind_ok _ _ _ (by dsimp only; omega) (fun x hx => ha x (List.mem_filter.1 hx).1)]
  simp only [bindS]
  have hsl := hs.filter (keepE now)
  have hp : ∀ x ∈ s.open_.filter (keepE now), pF ⟨s.secret, s.count, s.open_.filter (keepE now)⟩ t now x = decide (tok s x = t) := by
    intro x hx
    have h1 := (List.mem_filter.1 hx).2
    unfold keepE at h1
    rw [hT] at h1
    have h2 : decide (now ≤ x.until_) = true := h1
    unfold pF
    rw [h2, tok_sec ⟨s.secret, s.count, s.open_.filter (keepE now)⟩ s x rfl, Bool.true_and]
  have hf : (s.open_.filter (keepE now)).find? (fun x => decide (tok s x = t)) = (s.open_.filter (keepE now)).find? (pF ⟨s.secret, s.count, s.open_.filter (keepE now)⟩ t now) := find_congr fun x hx => (hp x hx).symm
  rw [hf, find_idx]
  generalize s.open_.filter (keepE now) = l at hlen hsl
  cases hi : l.findIdx? (pF ⟨s.secret, s.count, l⟩ t now) with
  | none => rfl
  | some k =>
    have hk : k < l.length := (List.findIdx?_eq_some_iff_findIdx_eq.1 hi).1
    simp only [show ¬ ((k : Int) < 0) by omega, decide_false, cond_false, Option.bind_some]
    rw [wrap_id (n := (k : Int) + 1) (by omega) (by omega)]
    simp only [show (0 : Int) ≤ (k : Int) by omega, show (k : Int) ≤ (l.length : Int) by omega, show (0 : Int) ≤ (k : Int) + 1 by omega, show (k : Int) + 1 ≤ (l.length : Int) by omega, decide_true, Bool.and_self, cond_true, Int.toNat_natCast, show ((k : Int) + 1).toNat = k + 1 by omega]
    rw [small72 (by simp; omega), small72 (by simp; omega), List.getElem?_eq_getElem hk]
    simp only [cond_true]
    rw [remove_at l k hk hsl]
theorem ropen_ok (s : ApiSessions) (acc id : List UInt8) (model : BitVec 64) (now dur : Int) (hl : s.open_.length < 90000) (ha : acc.length < 100000000) (hid : id.length < 100000000) (hs : Srt s.open_) :
    passkeyref29_OpenSession s acc id model now dur = session_Open s acc id model now dur := by
  have hlen : (s.open_.filter (keepE now)).length < 90000 := Nat.lt_of_le_of_lt (List.length_filter_le _ _) hl
  have e : (decide ((0 : Int) ≤ now) && decide (now ≤ 1099511627776)) = isT now := rfl
  by_cases hT : isT now = true
  · by_cases hd : 1 ≤ dur ∧ dur ≤ 1099511627776
    · rw [open_ok s acc id model now dur hT hd.1 hd.2 hl ha (by omega)]
      have hnow : 0 ≤ now ∧ now ≤ 1099511627776 := by
        unfold isT at hT
        simpa using hT
      have hu : (bif decide ((1099511627776 : Int) < (IntKind.wrap .i64 (now + dur))) then (1099511627776 : Int) else (IntKind.wrap .i64 (now + dur))) = untilOf now dur := by
        rw [wrap_id (by omega) (by omega)]
        unfold untilOf
        by_cases h : (1099511627776 : Int) < now + dur <;> simp [h]
      have hs1 : small id.length 1 = true := small1 (by omega)
      unfold passkeyref29_OpenSession
      rw [within_ok, within_ok, bindS, e, hT, rexpire_ok _ _ (by omega)]
      simp only [Bool.not_true, cond_false, bindS, decide_eq_true hd.1, decide_eq_true hd.2, Bool.and_self]
      rw [room_drop _ (hs.filter (keepE now))]
      generalize s.open_.filter (keepE now) = l at hlen
      by_cases h32 : 32 ≤ l.length
      · rw [decide_eq_true (show (32 : Int) ≤ (l.length : Int) by omega), if_pos h32]
        simp only [cond_true]
        rw [decide_eq_true (show (1 : Int) ≤ (l.length : Int) by omega)]
        simp only [cond_true, bindS, hs1, hu]
        rw [small72 (by simp; omega), small72 (by simp; omega)]
        simp only [cond_true, bindS]
        rw [rbytes_ok _ _ ha, bindS]
        rw [tok_sec (⟨s.secret, IntKind.wrap .i64 (s.count + 1), _⟩ : ApiSessions) s _ rfl]
      · rw [decide_eq_false (show ¬ (32 : Int) ≤ (l.length : Int) by omega), if_neg h32]
        simp only [cond_false, bindS, hs1, hu, cond_true]
        rw [small72 (by omega), small72 (by simp; omega)]
        simp only [cond_true, bindS]
        rw [rbytes_ok _ _ ha, bindS]
        rw [tok_sec (⟨s.secret, IntKind.wrap .i64 (s.count + 1), _⟩ : ApiSessions) s _ rfl]
    · unfold passkeyref29_OpenSession session_Open
      rw [within_ok, within_ok, bindS, bindS, e, hT, isTime_ok, bindS, hT]
      simp only [Bool.not_true, cond_false]
      by_cases h1 : 1 ≤ dur
      · have h2 : ¬ dur ≤ 1099511627776 := fun h => hd ⟨h1, h⟩
        rw [decide_eq_true h1, decide_eq_false h2, decide_eq_false (show ¬ dur < 1 by omega), decide_eq_true (show (1099511627776 : Int) < dur by omega)]
        rfl
      · rw [decide_eq_false h1, decide_eq_true (show dur < 1 by omega)]
        rfl
  · have hT' : isT now = false := by simpa using hT
    unfold passkeyref29_OpenSession session_Open
    rw [within_ok, bindS, e, hT', isTime_ok, bindS, hT']
    rfl
/-! ### decks -/
def DkOk (d : PasskeycastDeck) : Prop := 0 ≤ d.at_ ∧ d.at_ ≤ d.l.length ∧ (d.l.length : Int) < 9223372036854775808
theorem mod_ok (v n : Int) (h1 : 0 < n) (h2 : n < 9223372036854775808) : ∃ r, passkeycast_Mod v n = some ((), r, ()) ∧ 0 ≤ r ∧ r < n := by
  unfold passkeycast_Mod
  have e : (BitVec.ofInt 64 n).toNat = n.toNat := by simp [BitVec.toNat_ofInt]; omega
  have h0 : ¬ BitVec.ofInt 64 n = 0 := by
    intro h
    have := congrArg BitVec.toNat h
    rw [e] at this
    simp at this
    omega
  simp only [h0, decide_false, cond_false]
  have hlt : ((BitVec.ofInt 64 v) % (BitVec.ofInt 64 n)).toNat < n.toNat := by
    rw [BitVec.toNat_umod, e]
    exact Nat.mod_lt _ (by omega)
  generalize ((BitVec.ofInt 64 v) % (BitVec.ofInt 64 n)).toNat = q at hlt
  exact ⟨_, rfl, by rw [wrap_id (by omega) (by omega)]; omega, by rw [wrap_id (by omega) (by omega)]; omega⟩
theorem next_ok (d : PasskeycastDeck) (n : Int) (hd : DkOk d) (h1 : 0 < n) (h2 : n < 9223372036854775808) :
    ∃ d' r, passkeycast_Deck_Next (d, ()) n = some (((d', ()), ()), r, ()) ∧ 0 ≤ r ∧ r < n ∧ DkOk d' := by
  unfold passkeycast_Deck_Next
  obtain ⟨h3, h4, h5⟩ := hd
  by_cases h : (d.l.length : Int) ≤ d.at_
  · simp only [h, decide_true, cond_true]
    exact ⟨d, 0, rfl, by omega, by omega, ⟨h3, h4, h5⟩⟩
  · simp only [h, decide_false, cond_false]
    rw [wrap_id (n := d.at_ + 1) (by omega) (by omega), wrap_id (by omega) (by omega), show d.at_ + 1 - 1 = d.at_ by omega, getI_some h3 (by omega)]
    obtain ⟨r, hr, hr1, hr2⟩ := mod_ok (ati d.l d.at_) n h1 h2
    simp only [Option.bind_some, hr]
    exact ⟨_, r, rfl, hr1, hr2, ⟨by show 0 ≤ d.at_ + 1; omega, by show d.at_ + 1 ≤ (d.l.length : Int); omega, h5⟩⟩
theorem Ok.next {β : Type} {d : PasskeycastDeck} {n : Int} {f : (((PasskeycastDeck × Unit) × Unit) × (Int × Unit)) → Option β} {Q : β → Prop} (h1 : 0 < n) (h2 : n < 9223372036854775808) (hd : DkOk d)
    (h : ∀ d' r, DkOk d' → 0 ≤ r → r < n → Ok (f (((d', ()), ()), r, ())) Q) : Ok ((passkeycast_Deck_Next (d, ()) n).bind f) Q := by
  obtain ⟨d', r, e, h3, h4, h5⟩ := next_ok d n hd h1 h2
  rw [e, bindS]
  exact h d' r h5 h3 h4
theorem Ok.name {β : Type} {n : Int} {f : (Unit × (List UInt8 × Unit)) → Option β} {Q : β → Prop}
    (h : ∀ b : List UInt8, b.length ≤ 100 → Ok (f ((), b, ())) Q) : Ok ((passkeycast_Name n).bind f) Q := by
  have key : Ok (passkeycast_Name n) fun r => r.2.1.length ≤ 100 := by
    unfold passkeycast_Name
    obtain ⟨r, e, h1, h2⟩ := mod_ok n 5 (by omega) (by omega)
    rw [e, bindS]
    dsimp only
    obtain ⟨k, rfl⟩ : ∃ k : Nat, r = k := ⟨r.toNat, by omega⟩
    rw [decide_eq_true h1, decide_eq_true h2]
    have hk : k < 5 := by omega
    simp only [Bool.and_self, cond_true, Int.toNat_natCast]
    match k, hk with
    | 0, _ => exact Ok.some (by simp)
    | 1, _ => exact Ok.some (by simp)
    | 2, _ => exact Ok.some (by simp)
    | 3, _ => exact Ok.some (by simp)
    | 4, _ => exact Ok.some (by simp)
  obtain ⟨⟨u, b, u'⟩, e, hb⟩ := key
  rw [e, bindS]
  exact h b hb
theorem rwords1 (a : BitVec 64) : passkeyref1_Words [a] = some ((), w8 a, ()) := by kernel_rfl
theorem Ok.bytes {β : Type} {n : Int} {f : (Unit × (List UInt8 × Unit)) → Option β} {Q : β → Prop}
    (h : ∀ b : List UInt8, b.length ≤ 100 → Ok (f ((), b, ())) Q) : Ok ((passkeycast_Bytes n 4).bind f) Q := by
  have key : Ok (passkeycast_Bytes n 4) fun r => r.2.1.length ≤ 100 := by
    unfold passkeycast_Bytes passkeyref3_Stream
    rw [show (bif decide ((bif decide ((1024 : Int) < 4) then (1024 : Int) else 4) < (0 : Int)) then (0 : Int) else (bif decide ((1024 : Int) < 4) then (1024 : Int) else 4)) = 4 from rfl]
    dsimp only
    rw [show (bif decide ((1024 : Int) < (bif decide ((4 : Int) < (0 : Int)) then (0 : Int) else 4)) then (1024 : Int) else (bif decide ((4 : Int) < (0 : Int)) then (0 : Int) else 4)) = 4 from rfl]
    refine Ok.bind ?_
    refine Ok.bind ?_
    unfold passkeyref3_Stream_L0
    refine Ok.iter (fun q => q.2.2.1 = 4 ∧ q.2.2.2.1.length ≤ 12) (fun q => (12 - q.2.2.2.1.length)) ⟨rfl, by simp⟩ (by rw [rounds_eq]; simp) ?_
    rintro ⟨a, b, c, l, i, u⟩ ⟨h1, h2⟩
    dsimp only at *
    subst h1
    simp only [passkeyref3_Stream_L0b]
    refine Ok.cond ?_ ?_ <;> intro hc
    · have hc : (l.length : Int) < 4 := of_decide_eq_true hc
      rw [rwords2, bindS, rmac_ok _ _ _ (by simp [w8_len]), bindS, rwords1, bindS]
      dsimp only
      rw [small1 (by rw [w8_len]; omega)]
      refine Ok.some ⟨⟨rfl, ?_⟩, ?_⟩
      · simp [w8_len]; omega
      · simp [w8_len]; omega
    · have hc : ¬ (l.length : Int) < 4 := of_decide_eq_false hc
      refine Ok.some ?_
      dsimp only
      rw [decide_eq_true (show (0 : Int) ≤ 4 by omega), decide_eq_true (show (4 : Int) ≤ (l.length : Int) by omega), decide_eq_true (show (4 : Int).toNat ≤ l.length by omega)]
      exact Ok.some (Ok.some (by simp; omega))
  obtain ⟨⟨u, b, u'⟩, e, hb⟩ := key
  rw [e, bindS]
  exact h b hb
/-! ### what both do, step by step -/
structure Good (n : Nat) (s : ApiSessions) : Prop where
  srt : Srt s.open_
  num : ∀ x ∈ s.open_, x.number < s.count ∧ x.account.length ≤ 100 ∧ x.iD.length ≤ 100
  len : s.open_.length ≤ n
  c0 : 0 ≤ s.count
  cn : s.count ≤ n
theorem Good.mono {n m : Nat} {s : ApiSessions} (h : Good n s) (hm : n ≤ m) : Good m s := ⟨h.srt, h.num, Nat.le_trans h.len hm, h.c0, by have := h.cn; omega⟩
theorem Good.filter {n : Nat} {s : ApiSessions} (h : Good n s) (p : ApiSession → Bool) : Good n ⟨s.secret, s.count, s.open_.filter p⟩ :=
  ⟨h.srt.filter p, fun x hx => h.num x (List.mem_filter.1 hx).1, Nat.le_trans (List.length_filter_le _ _) h.len, h.c0, h.cn⟩
theorem isT_or (now : Int) : isT now = true ∨ isT now = false := by cases isT now <;> simp
theorem open_both {n : Nat} {s : ApiSessions} (h : Good n s) (hn : n ≤ 80) (acc id : List UInt8) (ha : acc.length ≤ 100) (hi : id.length ≤ 100) (model : BitVec 64) (now dur : Int) :
    ∃ s' t e, session_Open s acc id model now dur = some ((), s', t, e, ()) ∧ passkeyref29_OpenSession s acc id model now dur = some ((), s', t, e, ()) ∧ Good (n + 1) s' := by
  have hl := h.len
  rw [ropen_ok s acc id model now dur (by omega) (by omega) (by omega) h.srt]
  rcases isT_or now with hT | hT
  · by_cases h1 : 1 ≤ dur
    · by_cases h2 : dur ≤ 1099511627776
      · have e := open_ok s acc id model now dur hT h1 h2 (by omega) (by omega) (by omega)
        refine ⟨_, _, _, e, e, ?_⟩
        have hf := h.filter (keepE now)
        have c0 := h.c0
        have cn := h.cn
        rw [wrap_id (by omega) (by omega), room_drop _ hf.srt]
        have hsub : ∀ x ∈ (if 32 ≤ (s.open_.filter (keepE now)).length then (s.open_.filter (keepE now)).drop 1 else s.open_.filter (keepE now)), x ∈ s.open_.filter (keepE now) := by
          intro x hx
          split at hx
          · exact List.mem_of_mem_drop hx
          · exact hx
        have hln : (if 32 ≤ (s.open_.filter (keepE now)).length then (s.open_.filter (keepE now)).drop 1 else s.open_.filter (keepE now)).length ≤ n := by
          have := hf.len
          dsimp only at this
          split
          · rw [List.length_drop]; omega
          · exact this
        have hs : Srt (if 32 ≤ (s.open_.filter (keepE now)).length then (s.open_.filter (keepE now)).drop 1 else s.open_.filter (keepE now)) := by
          split
          · exact List.Pairwise.sublist (List.drop_sublist _ _) hf.srt
          · exact hf.srt
        generalize (if 32 ≤ (s.open_.filter (keepE now)).length then (s.open_.filter (keepE now)).drop 1 else s.open_.filter (keepE now)) = l at hsub hln hs
        refine ⟨?_, ?_, ?_, ?_, ?_⟩
        · refine List.pairwise_append.2 ⟨hs, List.pairwise_singleton _ _, ?_⟩
          intro a ha' b hb
          rw [List.mem_singleton] at hb
          subst hb
          exact (hf.num a (hsub a ha')).1
        · intro x hx
          rcases List.mem_append.1 hx with hx | hx
          · obtain ⟨q1, q2⟩ := hf.num x (hsub x hx)
            dsimp only at q1
            exact ⟨by dsimp only; omega, q2⟩
          · rw [List.mem_singleton] at hx
            subst hx
            exact ⟨by dsimp only; omega, ha, hi⟩
        · dsimp only; rw [List.length_append]; simp; omega
        · dsimp only; omega
        · dsimp only; omega
      · have e : session_Open s acc id model now dur = some ((), s, [], 9, ()) := by
          unfold session_Open
          rw [isTime_ok, bindS, hT, decide_eq_false (show ¬ dur < 1 by omega), decide_eq_true (show (1099511627776 : Int) < dur by omega)]
          rfl
        exact ⟨_, _, _, e, e, h.mono (by omega)⟩
    · have e : session_Open s acc id model now dur = some ((), s, [], 9, ()) := by
        unfold session_Open
        rw [isTime_ok, bindS, hT, decide_eq_true (show dur < 1 by omega)]
        rfl
      exact ⟨_, _, _, e, e, h.mono (by omega)⟩
  · have e : session_Open s acc id model now dur = some ((), s, [], 9, ()) := by
      unfold session_Open
      rw [isTime_ok, bindS, hT]
      rfl
    exact ⟨_, _, _, e, e, h.mono (by omega)⟩
theorem check_both {n : Nat} {s : ApiSessions} (h : Good n s) (hn : n ≤ 80) (t : List UInt8) (now : Int) :
    ∃ x e, session_Check s t now = some ((), x, e, ()) ∧ passkeyref29_CheckSession s t now = some ((), x, e, ()) := by
  have hl := h.len
  have hb : ∀ x ∈ s.open_, x.account.length < 100000000 ∧ x.iD.length ≤ 140737488355328 := fun x hx => by
    have := h.num x hx
    omega
  rcases isT_or now with hT | hT
  · rw [rcheck_ok s t now hT (by omega) hb, check_ok s t now hT (by omega) hb]
    split
    · exact ⟨_, _, rfl, rfl⟩
    · exact ⟨_, _, rfl, rfl⟩
  · refine ⟨zs, 9, ?_, ?_⟩
    · unfold session_Check
      rw [isTime_ok, bindS, hT]
      rfl
    · unfold passkeyref29_CheckSession
      have e : (decide ((0 : Int) ≤ now) && decide (now ≤ 1099511627776)) = false := hT
      rw [within_ok, bindS, e]
      rfl
theorem close_both {n : Nat} {s : ApiSessions} (h : Good n s) (hn : n ≤ 80) (t : List UInt8) (now : Int) :
    ∃ s' e, session_Close s t now = some ((), s', e, ()) ∧ passkeyref29_CloseSession s t now = some ((), s', e, ()) ∧ Good n s' := by
  have hl := h.len
  have hb : ∀ x ∈ s.open_, x.account.length < 100000000 := fun x hx => by
    have := h.num x hx
    omega
  rcases isT_or now with hT | hT
  · rw [rclose_ok s t now hT (by omega) hb h.srt, close_ok s t now hT (by omega) hb]
    split
    · exact ⟨_, _, rfl, rfl, (h.filter (keepE now)).filter _⟩
    · exact ⟨_, _, rfl, rfl, h⟩
  · refine ⟨s, 9, ?_, ?_, h⟩
    · unfold session_Close
      rw [isTime_ok, bindS, hT]
      rfl
    · unfold passkeyref29_CloseSession
      have e : (decide ((0 : Int) ≤ now) && decide (now ≤ 1099511627776)) = false := hT
      rw [within_ok, bindS, e]
      rfl
theorem small24 {n : Nat} (h : n < 1000000) : small n 24 = true := by
  unfold small
  simp
  omega
theorem Ok.open {n : Nat} {s : ApiSessions} (h : Good n s) (hn : n ≤ 80) {acc id : List UInt8} (ha : acc.length ≤ 100) (hi : id.length ≤ 100) {model : BitVec 64} {now dur : Int}
    {β : Type} {f : (Unit × ApiSessions × List UInt8 × Int × Unit) → (Unit × ApiSessions × List UInt8 × Int × Unit) → Option β} {Q : β → Prop} (hf : ∀ s' t e, Good (n + 1) s' → Ok (f ((), s', t, e, ()) ((), s', t, e, ())) Q) :
    Ok ((session_Open s acc id model now dur).bind fun r => (passkeyref29_OpenSession s acc id model now dur).bind (f r)) Q := by
  obtain ⟨s', t, e, h1, h2, h3⟩ := open_both h hn acc id ha hi model now dur
  rw [h1, bindS, h2, bindS]
  exact hf s' t e h3
theorem Ok.check {n : Nat} {s : ApiSessions} (h : Good n s) (hn : n ≤ 80) {t : List UInt8} {now : Int}
    {β : Type} {f : (Unit × ApiSession × Int × Unit) → (Unit × ApiSession × Int × Unit) → Option β} {Q : β → Prop} (hf : ∀ x e, Ok (f ((), x, e, ()) ((), x, e, ())) Q) :
    Ok ((session_Check s t now).bind fun r => (passkeyref29_CheckSession s t now).bind (f r)) Q := by
  obtain ⟨x, e, h1, h2⟩ := check_both h hn t now
  rw [h1, bindS, h2, bindS]
  exact hf x e
theorem Ok.close {n : Nat} {s : ApiSessions} (h : Good n s) (hn : n ≤ 80) {t : List UInt8} {now : Int}
    {β : Type} {f : (Unit × ApiSessions × Int × Unit) → (Unit × ApiSessions × Int × Unit) → Option β} {Q : β → Prop} (hf : ∀ s' e, Good n s' → Ok (f ((), s', e, ()) ((), s', e, ())) Q) :
    Ok ((session_Close s t now).bind fun r => (passkeyref29_CloseSession s t now).bind (f r)) Q := by
  obtain ⟨x, e, h1, h2, h3⟩ := close_both h hn t now
  rw [h1, bindS, h2, bindS]
  exact hf x e h3
theorem Ok.revM {n : Nat} {s : ApiSessions} (h : Good n s) (hn : n ≤ 80) {m : BitVec 64}
    {β : Type} {f : (Unit × ApiSessions × Unit) → (Unit × ApiSessions × Unit) → Option β} {Q : β → Prop} (hf : ∀ s', Good n s' → Ok (f ((), s', ()) ((), s', ())) Q) :
    Ok ((session_RevokeModel s m).bind fun r => (passkeyref29_RevokeModel s m).bind (f r)) Q := by
  have := h.len
  rw [revokeModel_ok s m (by omega), bindS, rrevokeModel_ok s m (by omega), bindS]
  exact hf _ (h.filter _)
theorem Ok.revC {n : Nat} {s : ApiSessions} (h : Good n s) (hn : n ≤ 80) {m : List UInt8}
    {β : Type} {f : (Unit × ApiSessions × Unit) → (Unit × ApiSessions × Unit) → Option β} {Q : β → Prop} (hf : ∀ s', Good n s' → Ok (f ((), s', ()) ((), s', ())) Q) :
    Ok ((session_RevokeCredential s m).bind fun r => (passkeyref29_RevokeCredential s m).bind (f r)) Q := by
  have := h.len
  rw [revokeCredential_ok s m (by omega), bindS, rrevokeCredential_ok s m (by omega), bindS]
  exact hf _ (h.filter _)
theorem Ok.exp {n : Nat} {s : ApiSessions} (h : Good n s) (hn : n ≤ 80) {now : Int}
    {β : Type} {f : (Unit × ((BitVec 64 × Int × Unit) × List ApiSession × Unit) × Unit) → (Unit × ApiSessions × Unit) → Option β} {Q : β → Prop} (hf : ∀ s', Good n s' → Ok (f ((), ((s'.secret, s'.count, ()), s'.open_, ()), ()) ((), s', ())) Q) :
    Ok ((session_Expire s now).bind fun r => (passkeyref29_ExpireSessions s now).bind (f r)) Q := by
  have := h.len
  rw [expire_ok s now (by omega), bindS, rexpire_ok s now (by omega), bindS]
  exact hf _ (h.filter _)
def InvP (y : Int × (PasskeycastDeck × Unit) × (ApiSessions × Unit) × (ApiSessions × Unit) × (List (List UInt8)) × Int × Int × Unit) : Prop :=
  DkOk y.2.1.1 ∧ y.2.2.1.1 = y.2.2.2.1.1 ∧ 0 ≤ y.2.2.2.2.2.2.1 ∧ y.2.2.2.2.2.2.1 ≤ 80 ∧ Good y.2.2.2.2.2.2.1.toNat y.2.2.1.1 ∧ 1 ≤ y.2.2.2.2.1.length ∧ y.2.2.2.2.1.length ≤ 1 + y.2.2.2.2.2.2.1.toNat
attribute [local irreducible] session_Open session_Check session_Close session_Expire session_RevokeModel session_RevokeCredential passkeyref29_OpenSession passkeyref29_CheckSession passkeyref29_CloseSession passkeyref29_ExpireSessions passkeyref29_RevokeModel passkeyref29_RevokeCredential passkeycast_Deck_Next passkeycast_Name passkeycast_Bytes passkeyref29_SameSession passkeyref29_SameSessions small
set_option maxHeartbeats 1000000 in
theorem plays_step (y : Int × (PasskeycastDeck × Unit) × (ApiSessions × Unit) × (ApiSessions × Unit) × (List (List UInt8)) × Int × Int × Unit) (h : InvP y) :
    Ok (passkeylaw34_SessionPlays_L0b y.1 y.2.1 y.2.2.1 y.2.2.2.1 y.2.2.2.2.1 y.2.2.2.2.2.1 y.2.2.2.2.2.2.1) (fun r => match r with | .inl t => InvP t ∧ (80 - t.2.2.2.2.2.2.1).toNat < (80 - y.2.2.2.2.2.2.1).toNat | .inr b => b = .inr ()) := by
  obtain ⟨e, ⟨d, u0⟩, ⟨s, u1⟩, ⟨t, u2⟩, known, now, k, u⟩ := y
  obtain ⟨hd, hst, hk0, hk1, hG, hn1, hn2⟩ := h
  dsimp only at *
  subst hst
  unfold passkeylaw34_SessionPlays_L0b
  refine Ok.cond ?_ ?_ <;> intro hk
  rotate_left
  · exact Ok.some rfl
  have hk : k < 80 := of_decide_eq_true hk
  unfold passkeycast_Deck_Left
  rw [bindS]
  refine Ok.cond ?_ ?_ <;> intro hleft
  rotate_left
  · exact Ok.some rfl
  refine Ok.next (by omega) (by omega) hd ?_
  intro d1 r1 hd1 h10 h11
  refine Ok.cond ?_ ?_ <;> intro hc
  rotate_left
  · exfalso; simp at hc; omega
  refine Ok.get (by simp at *; omega) ?_
  intro x7
  refine Ok.bind ?_
  refine Ok.next (by omega) (by omega) hd1 ?_
  intro d2 r2 hd2 h20 h21
  have mid : ∀ nw : Int, Ok (some (e, (d2, ()), (s, ()), (s, ()), known, IntKind.wrap .i64 (now + x7), k, nw, ()) : Option (Int × (PasskeycastDeck × Unit) × (ApiSessions × Unit) × (ApiSessions × Unit) × (List (List UInt8)) × Int × Int × Int × Unit)) (fun j => j.2.1 = (d2, ()) ∧ j.2.2.1 = (s, ()) ∧ j.2.2.2.1 = (s, ()) ∧ j.2.2.2.2.1 = known ∧ j.2.2.2.2.2.2.1 = k) := fun nw => Ok.some ⟨rfl, rfl, rfl, rfl, rfl⟩
  refine Ok.mono (Q := fun j => j.2.1 = (d2, ()) ∧ j.2.2.1 = (s, ()) ∧ j.2.2.2.1 = (s, ()) ∧ j.2.2.2.2.1 = known ∧ j.2.2.2.2.2.2.1 = k) (Ok.cond (fun _ => mid _) (fun _ => mid _)) ?_
  clear mid
  rintro ⟨e', ⟨_, _⟩, ⟨_, _⟩, ⟨_, _⟩, _, now', _, nw, _⟩ ⟨q1, q2, q3, q4, q5⟩
  dsimp only at q1 q2 q3 q4 q5
  obtain rfl := q4.symm
  obtain rfl := q5.symm
  cases q1; cases q2; cases q3
  dsimp only
  refine Ok.next (by omega) (by omega) hd2 ?_
  intro d3 r3 hd3 h30 h31
  refine Ok.cond ?_ ?_ <;> intro hc
  rotate_left
  · exfalso; simp at hc; omega
  refine Ok.get (by dsimp only at *; omega) ?_
  intro x11
  refine Ok.bind ?_
  have n80 : k.toNat ≤ 80 := by omega
  have fin : ∀ (d' : PasskeycastDeck) (s' : ApiSessions) (kn : List (List UInt8)) (z : Int), DkOk d' → Good (k.toNat + 1) s' → 1 ≤ kn.length → kn.length ≤ 1 + (k.toNat + 1) →
      (fun q : (Int × (PasskeycastDeck × Unit) × (ApiSessions × Unit) × (ApiSessions × Unit) × (List (List UInt8)) × Int × Int × Int × Int × Unit) ⊕ ((Int × (PasskeycastDeck × Unit) × (ApiSessions × Unit) × (ApiSessions × Unit) × (List (List UInt8)) × Int × Int × Unit) ⊕ ((Bool × Unit) ⊕ Unit)) => ∃ d' s' kn z, q = .inl (e', (d', ()), (s', ()), (s', ()), kn, now', k, z, z, ()) ∧ DkOk d' ∧ Good (k.toNat + 1) s' ∧ 1 ≤ kn.length ∧ kn.length ≤ 1 + (k.toNat + 1)) (.inl (e', (d', ()), (s', ()), (s', ()), kn, now', k, z, z, ())) :=
    fun d' s' kn z h1 h2 h3 h4 => ⟨d', s', kn, z, rfl, h1, h2, h3, h4⟩
  have hG1 : Good (k.toNat + 1) s := hG.mono (by omega)
  refine Ok.mono (Q := (fun q : (Int × (PasskeycastDeck × Unit) × (ApiSessions × Unit) × (ApiSessions × Unit) × (List (List UInt8)) × Int × Int × Int × Int × Unit) ⊕ ((Int × (PasskeycastDeck × Unit) × (ApiSessions × Unit) × (ApiSessions × Unit) × (List (List UInt8)) × Int × Int × Unit) ⊕ ((Bool × Unit) ⊕ Unit)) => ∃ d' s' kn z, q = .inl (e', (d', ()), (s', ()), (s', ()), kn, now', k, z, z, ()) ∧ DkOk d' ∧ Good (k.toNat + 1) s' ∧ 1 ≤ kn.length ∧ kn.length ≤ 1 + (k.toNat + 1))) ?_ ?_
  · refine Ok.next (by omega) (by omega) hd3 ?_
    intro d4 r4 hd4 h40 h41
    dsimp only
    have hopen : ∀ (d' : PasskeycastDeck) (s' : ApiSessions) (t : List UInt8) (z : Int), DkOk d' → Good (k.toNat + 1) s' → Ok (bif (!decide (t = t)) then (((some (Sum.inr (Sum.inl (false, ()))))).bind fun q => some (Sum.inr q)) else (bif small (known.length + ([t] : List (List UInt8)).length) 24 then (some (Sum.inl (e', (d', ()), (s', ()), (s', ()), known ++ [t], now', k, z, z, ()))) else none)) (fun q : (Int × (PasskeycastDeck × Unit) × (ApiSessions × Unit) × (ApiSessions × Unit) × (List (List UInt8)) × Int × Int × Int × Int × Unit) ⊕ ((Int × (PasskeycastDeck × Unit) × (ApiSessions × Unit) × (ApiSessions × Unit) × (List (List UInt8)) × Int × Int × Unit) ⊕ ((Bool × Unit) ⊕ Unit)) => ∃ d' s' kn z, q = .inl (e', (d', ()), (s', ()), (s', ()), kn, now', k, z, z, ()) ∧ DkOk d' ∧ Good (k.toNat + 1) s' ∧ 1 ≤ kn.length ∧ kn.length ≤ 1 + (k.toNat + 1)) := by
      intro d' s' t z h1 h2
      rw [decide_eq_true (rfl : t = t), small24 (by simp; omega)]
      exact Ok.some (fin _ _ _ _ h1 h2 (by simp) (by simp; omega))
    repeat' (first
      | (refine Ok.next (by omega) (by omega) (by assumption) ?_; intro _ _ _ _ _; dsimp only)
      | (refine Ok.name ?_; intro _ _; dsimp only)
      | (refine Ok.bytes ?_; intro _ _; dsimp only)
      | (refine Ok.open hG n80 (by assumption) (by assumption) ?_; intro _ _ _ _; exact hopen _ _ _ _ (by assumption) (by assumption))
      | (refine Ok.check hG n80 ?_; intro _ _; rw [sameSession_ok, bindS]; exact Ok.some (fin _ _ _ _ (by assumption) hG1 (by omega) (by omega)))
      | (refine Ok.close hG n80 ?_; intro _ _ h'; exact Ok.some (fin _ _ _ _ (by assumption) (h'.mono (by omega)) (by omega) (by omega)))
      | (refine Ok.revM hG n80 ?_; intro _ h'; exact Ok.some (fin _ _ _ _ (by assumption) (h'.mono (by omega)) (by omega) (by omega)))
      | (refine Ok.revC hG n80 ?_; intro _ h'; exact Ok.some (fin _ _ _ _ (by assumption) (h'.mono (by omega)) (by omega) (by omega)))
      | (refine Ok.exp hG n80 ?_; intro _ h'; exact Ok.some (fin _ _ _ _ (by assumption) (h'.mono (by omega)) (by omega) (by omega)))
      | (refine Ok.cond ?_ ?_ <;> intro hc)
      | (refine Ok.get (by simp at *; omega) ?_; intro _)
      | (exact Ok.some (fin _ _ _ _ (by assumption) hG1 (by omega) (by omega)))
      | (exfalso; simp at hc; omega))
  · rintro q ⟨d', s', kn, z, rfl, h1, h2, h3, h4⟩
    simp only [Sum.elim_inl, decide_true, Bool.not_true, cond_false]
    have := h2.len
    rw [sameSessions_ok _ (by omega), bindS, wrap_id (by omega) (by omega)]
    refine Ok.some ⟨⟨h1, rfl, ?_, ?_, ?_, h3, ?_⟩, ?_⟩ <;> dsimp only
    · omega
    · omega
    · rw [show (k + 1).toNat = k.toNat + 1 by omega]; exact h2
    · omega
    · omega
theorem SessionPlays_plain (a0 : BitVec 64) (a1 : List Int) (a2 : List UInt8) (a3 : Int) (hd : SessionPlays_dom a0 a1 a2 a3) : Ok (passkeylaw34_SessionPlays a0 a1 a2 a3) fun r => r.2.1 = true := by
  have hm := dok_len hd.2.1
  dsimp only at hm
  unfold passkeylaw34_SessionPlays
  refine Ok.cond ?_ ?_ <;> intro hc
  · rw [awake_ok, bindS]
    exact Ok.some rfl
  · unfold passkeycast_New session_New passkeyref29_NewSessions
    rw [bindS, bindS, bindS]
    refine Ok.bind ?_
    unfold passkeylaw34_SessionPlays_L0
    refine Ok.iter InvP (fun y => (80 - y.2.2.2.2.2.2.1).toNat) ?_ (by rw [rounds_eq]; dsimp only; omega) ?_
    · refine ⟨⟨by simp, by simp, by dsimp only; omega⟩, rfl, by simp, by simp, ⟨List.Pairwise.nil, by simp, by simp, by simp, by simp⟩, by simp, by simp⟩
    · intro y hy
      refine (plays_step y hy).mono ?_
      rintro (t | b) h
      · exact h
      · subst h
        simp only [Sum.elim_inr]
        rw [awake_ok, bindS]
        exact Ok.some rfl
end Go.Proofs.Ytgenglnebkjhfaa

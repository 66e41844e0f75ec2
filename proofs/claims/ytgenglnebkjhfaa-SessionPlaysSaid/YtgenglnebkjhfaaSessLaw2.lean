/- What the functions on sessions compute, and the law SessionMany, plainly. -/
import Derived.Test.YtgenglnebkjhfaaSessLaw
set_option linter.unusedVariables false
set_option maxRecDepth 100000
namespace Go.Proofs.Ytgenglnebkjhfaa
open Go Go.Abs
theorem small72 {n : Nat} (h : n < 1000000) : small n 72 = true := by
  unfold small
  simp only [decide_eq_true_eq]
  omega
def isT (now : Int) : Bool := decide (0 ≤ now) && decide (now ≤ 1099511627776)
theorem isTime_ok (now : Int) : session_isTime now = some ((), isT now, ()) := by
  unfold session_isTime isT
  by_cases h : 0 ≤ now <;> simp [h]
def keepE (now : Int) (x : ApiSession) : Bool := !(isT now) || decide (now ≤ x.until_)
theorem expire1_ok (x : ApiSession) (now : Int) : session_Expire_1 x now = some ((), keepE now x, ()) := by
  unfold session_Expire_1 keepE
  rw [isTime_ok]
  cases h : isT now <;> simp
theorem filt_L0 (cap : Int) (s z : ApiSessions) (l : List ApiSession) (hl : l.length < 100000) : session_filter_L0 (cap, (s, ()), (z, ()), [], l, (l.length : Int), 0, ()) = some ((s, ()), (z, ()), l.filter (keepE cap), ()) := by
  unfold session_filter_L0
  rw [iter_fun (fun q => q.1 = cap ∧ q.2.2.2.2.1 = l ∧ q.2.2.2.2.2.1 = (l.length : Int) ∧ 0 ≤ q.2.2.2.2.2.2.1 ∧ q.2.2.2.2.2.2.1 ≤ (l.length : Int) ∧ (q.2.2.2.1.length : Int) ≤ q.2.2.2.2.2.2.1) (fun q => ((l.length : Int) - q.2.2.2.2.2.2.1).toNat) (fun q => (q.2.1, q.2.2.1, q.2.2.2.1 ++ (l.drop q.2.2.2.2.2.2.1.toNat).filter (keepE cap), ()))]
  · simp
  · rintro ⟨y0, ⟨y1, u1⟩, ⟨y2, u2⟩, y3, y4, y5, i, u⟩ ⟨h1, h2, h3, h4, h5, h6⟩
    dsimp only at *
    subst h1; subst h2; subst h3
    simp only [session_filter_L0b]
    by_cases hc : i < y4.length
    · left
      have e : y4.drop i.toNat = ati y4 i :: y4.drop (i.toNat + 1) := by
        have : i.toNat < y4.length := by omega
        rw [List.drop_eq_getElem_cons this]
        simp [ati, this]
      rw [getI_some h4 hc, wrap_id (n := i + 1) (by omega) (by omega)]
      simp only [hc, decide_true, cond_true, Option.bind_some, expire1_ok]
      cases hk : keepE y0 (ati y4 i)
      · refine ⟨_, rfl, ⟨rfl, rfl, rfl, by dsimp only; omega, by dsimp only; omega, by dsimp only; omega⟩, by dsimp only; omega, ?_⟩
        dsimp only
        rw [e, show (i + 1).toNat = i.toNat + 1 by omega, List.filter_cons_of_neg (by simp [hk])]
      · rw [small72 (by simp; omega)]
        refine ⟨_, rfl, ⟨rfl, rfl, rfl, by dsimp only; omega, by dsimp only; omega, by simp; omega⟩, by dsimp only; omega, ?_⟩
        dsimp only
        rw [e, show (i + 1).toNat = i.toNat + 1 by omega, List.filter_cons_of_pos hk]
        simp
    · right
      have : i.toNat = y4.length := by omega
      simp [hc, this]
  · exact ⟨rfl, rfl, rfl, by simp, by simp, by simp⟩
  · rw [rounds_eq]; dsimp only; omega
theorem mk_cond (n : Nat) (h : n < 100000) : (decide ((0 : Int) ≤ (0 : Int)) && (decide ((0 : Int) ≤ (n : Int)) && decide ((72 : Int) * (n : Int) ≤ 281474976710656 ∧ (n : Int) ≤ 9223372036854775807))) = true := by
  simp
  omega
theorem filter_ok (s : ApiSessions) (cap : Int) (hl : s.open_.length < 100000) : session_filter s cap = some ((), ((s.secret, s.count, ()), s.open_.filter (keepE cap), ()), ()) := by
  unfold session_filter
  rw [mk_cond _ hl]
  simp only [cond_true, List.replicate_zero]
  rw [filt_L0 _ _ _ _ hl]
  rfl
theorem expire_ok (s : ApiSessions) (now : Int) (hl : s.open_.length < 100000) : session_Expire s now = some ((), ((s.secret, s.count, ()), s.open_.filter (keepE now), ()), ()) := by
  unfold session_Expire
  rw [filter_ok _ _ hl]
  rfl
def keepN (n : Int) (x : ApiSession) : Bool := !decide (x.number = n)
theorem filt1_L0 (cap : Int) (s z : ApiSessions) (l : List ApiSession) (hl : l.length < 100000) : session_filter_1_L0 (cap, (s, ()), (z, ()), [], l, (l.length : Int), 0, ()) = some ((s, ()), (z, ()), l.filter (keepN cap), ()) := by
  unfold session_filter_1_L0
  rw [iter_fun (fun q => q.1 = cap ∧ q.2.2.2.2.1 = l ∧ q.2.2.2.2.2.1 = (l.length : Int) ∧ 0 ≤ q.2.2.2.2.2.2.1 ∧ q.2.2.2.2.2.2.1 ≤ (l.length : Int) ∧ (q.2.2.2.1.length : Int) ≤ q.2.2.2.2.2.2.1) (fun q => ((l.length : Int) - q.2.2.2.2.2.2.1).toNat) (fun q => (q.2.1, q.2.2.1, q.2.2.2.1 ++ (l.drop q.2.2.2.2.2.2.1.toNat).filter (keepN cap), ()))]
  · simp
  · rintro ⟨y0, ⟨y1, u1⟩, ⟨y2, u2⟩, y3, y4, y5, i, u⟩ ⟨h1, h2, h3, h4, h5, h6⟩
    dsimp only at *
    subst h1; subst h2; subst h3
    simp only [session_filter_1_L0b]
    by_cases hc : i < y4.length
    · left
      have e : y4.drop i.toNat = ati y4 i :: y4.drop (i.toNat + 1) := by
        have : i.toNat < y4.length := by omega
        rw [List.drop_eq_getElem_cons this]
        simp [ati, this]
      rw [getI_some h4 hc, wrap_id (n := i + 1) (by omega) (by omega)]
      simp only [hc, decide_true, cond_true, Option.bind_some, session_Open_1]
      cases hk : keepN y0 (ati y4 i)
      · have hk' : (!decide ((ati y4 i).number = y0)) = false := hk
        rw [hk']
        refine ⟨_, rfl, ⟨rfl, rfl, rfl, by dsimp only; omega, by dsimp only; omega, by dsimp only; omega⟩, by dsimp only; omega, ?_⟩
        dsimp only
        rw [e, show (i + 1).toNat = i.toNat + 1 by omega, List.filter_cons_of_neg (by simp [hk])]
      · have hk' : (!decide ((ati y4 i).number = y0)) = true := hk
        rw [hk', small72 (by simp; omega)]
        refine ⟨_, rfl, ⟨rfl, rfl, rfl, by dsimp only; omega, by dsimp only; omega, by simp; omega⟩, by dsimp only; omega, ?_⟩
        dsimp only
        rw [e, show (i + 1).toNat = i.toNat + 1 by omega, List.filter_cons_of_pos hk]
        simp
    · right
      have : i.toNat = y4.length := by omega
      simp [hc, this]
  · exact ⟨rfl, rfl, rfl, by simp, by simp, by simp⟩
  · rw [rounds_eq]; dsimp only; omega
theorem filter1_ok (s : ApiSessions) (cap : Int) (hl : s.open_.length < 100000) : session_filter_1 s cap = some ((), ((s.secret, s.count, ()), s.open_.filter (keepN cap), ()), ()) := by
  unfold session_filter_1
  rw [mk_cond _ hl]
  simp only [cond_true, List.replicate_zero]
  rw [filt1_L0 _ _ _ _ hl]
  rfl

/-! ### finding -/
def zs : ApiSession := ⟨0, [], [], 0#64, 0, 0⟩
theorem find_L0 (t : List UInt8) (s : ApiSessions) (z : ApiSession) (l : List ApiSession) (hl : l.length < 100000) (ha : ∀ x ∈ l, x.account.length < 100000000) :
    session_find_L0 (t, (s, ()), (z, ()), l, (l.length : Int), 0, ()) = some (match l.find? (fun x => decide (tok s x = t)) with | some x => .inl ((x, ()), true, ()) | none => .inr ((z, ()), ())) := by
  unfold session_find_L0
  rw [iter_fun (fun q => q.1 = t ∧ q.2.1.1 = s ∧ q.2.2.1.1 = z ∧ q.2.2.2.1 = l ∧ q.2.2.2.2.1 = (l.length : Int) ∧ 0 ≤ q.2.2.2.2.2.1 ∧ q.2.2.2.2.2.1 ≤ (l.length : Int)) (fun q => ((l.length : Int) - q.2.2.2.2.2.1).toNat) (fun q => match (l.drop q.2.2.2.2.2.1.toNat).find? (fun x => decide (tok s x = t)) with | some x => .inl ((x, ()), true, ()) | none => .inr ((z, ()), ()))]
  · simp
  · rintro ⟨y0, ⟨y1, u1⟩, ⟨y2, u2⟩, y3, y4, i, u⟩ ⟨h1, h2, h3, h4, h5, h6, h7⟩
    dsimp only at *
    subst h1; subst h2; subst h3; subst h4; subst h5
    simp only [session_find_L0b]
    by_cases hc : i < y3.length
    · have hlt : i.toNat < y3.length := by omega
      have e : y3.drop i.toNat = ati y3 i :: y3.drop (i.toNat + 1) := by
        rw [List.drop_eq_getElem_cons hlt]
        simp [ati, hlt]
      have hm : ati y3 i ∈ y3 := by
        unfold ati
        rw [List.getD_eq_getElem?_getD, List.getElem?_eq_getElem hlt]
        exact List.getElem_mem _
      rw [getI_some h6 hc, wrap_id (n := i + 1) (by omega) (by omega)]
      simp only [hc, decide_true, cond_true, Option.bind_some, bytes_ok _ _ (ha _ hm), bytes_Equal]
      by_cases hk : tok y1 (ati y3 i) = y0
      · right
        simp only [hk, decide_true, cond_true]
        rw [e, List.find?_cons_of_pos (by simp [hk])]
      · left
        simp only [hk, decide_false, cond_false]
        refine ⟨_, rfl, ⟨rfl, rfl, rfl, rfl, rfl, by dsimp only; omega, by dsimp only; omega⟩, by dsimp only; omega, ?_⟩
        dsimp only
        rw [e, show (i + 1).toNat = i.toNat + 1 by omega, List.find?_cons_of_neg (by simp [hk])]
    · right
      have : i.toNat = y3.length := by omega
      simp [hc, this]
  · exact ⟨rfl, rfl, rfl, rfl, rfl, by simp, by simp⟩
  · rw [rounds_eq]; dsimp only; omega
theorem find_ok (s : ApiSessions) (t : List UInt8) (hl : s.open_.length < 100000) (ha : ∀ x ∈ s.open_, x.account.length < 100000000) :
    session_find s t = some (match s.open_.find? (fun x => decide (tok s x = t)) with | some x => ((), x, true, ()) | none => ((), zs, false, ())) := by
  unfold session_find
  rw [find_L0 _ _ _ _ hl ha]
  cases s.open_.find? (fun x => decide (tok s x = t)) <;> rfl
theorem bindS {α β : Type} (a : α) (f : α → Option β) : (some a).bind f = f a := by
  cases h : f a <;> simp [h]
theorem tok_sec (s s' : ApiSessions) (x : ApiSession) (h : s.secret = s'.secret) : tok s x = tok s' x := by
  unfold tok
  rw [h]
theorem find_congr {α : Type} {p q : α → Bool} : ∀ {l : List α}, (∀ x ∈ l, p x = q x) → l.find? p = l.find? q
  | [], _ => rfl
  | a :: r, h => by
    rw [List.find?_cons, List.find?_cons, h a (by simp), find_congr fun x hx => h x (by simp [hx])]
def minF (m : Int) (l : List ApiSession) : Int := l.foldl (fun m x => bif decide (x.number < m) then x.number else m) m
theorem open_L0 (a1 a2 : List UInt8) (a3 : BitVec 64) (a4 a5 : Int) (z s : ApiSessions) (m : Int) (l : List ApiSession) (hl : l.length < 100000) :
    session_Open_L0 (a1, a2, a3, a4, a5, (z, ()), (s, ()), (m, ()), l, (l.length : Int), 0, ()) = some (a1, a2, a3, a4, a5, (z, ()), (s, ()), (minF m l, ()), ()) := by
  unfold session_Open_L0
  rw [iter_fun (fun q => q.2.2.2.2.2.2.2.2.1 = l ∧ q.2.2.2.2.2.2.2.2.2.1 = (l.length : Int) ∧ 0 ≤ q.2.2.2.2.2.2.2.2.2.2.1 ∧ q.2.2.2.2.2.2.2.2.2.2.1 ≤ (l.length : Int)) (fun q => ((l.length : Int) - q.2.2.2.2.2.2.2.2.2.2.1).toNat)
    (fun q => (q.1, q.2.1, q.2.2.1, q.2.2.2.1, q.2.2.2.2.1, q.2.2.2.2.2.1, q.2.2.2.2.2.2.1, (minF q.2.2.2.2.2.2.2.1.1 (l.drop q.2.2.2.2.2.2.2.2.2.2.1.toNat), ()), ()))]
  · simp
  · rintro ⟨y0, y1, y2, y3, y4, ⟨y5, u5⟩, ⟨y6, u6⟩, ⟨y7, u7⟩, y8, y9, i, u⟩ ⟨h1, h2, h3, h4⟩
    dsimp only at *
    subst h1; subst h2
    simp only [session_Open_L0b]
    by_cases hc : i < y8.length
    · left
      have hlt : i.toNat < y8.length := by omega
      have e : y8.drop i.toNat = ati y8 i :: y8.drop (i.toNat + 1) := by
        rw [List.drop_eq_getElem_cons hlt]
        simp [ati, hlt]
      rw [getI_some h3 hc, wrap_id (n := i + 1) (by omega) (by omega)]
      simp only [hc, decide_true, cond_true, Option.bind_some]
      refine ⟨_, rfl, ⟨rfl, rfl, by dsimp only; omega, by dsimp only; omega⟩, by dsimp only; omega, ?_⟩
      dsimp only
      rw [e, show (i + 1).toNat = i.toNat + 1 by omega]
      rfl
    · right
      have : i.toNat = y8.length := by omega
      simp only [hc, decide_false, cond_false, this, List.drop_length]
      rfl
  · exact ⟨rfl, rfl, by simp, by simp⟩
  · rw [rounds_eq]; dsimp only; omega
def oldestOf (l : List ApiSession) : Int := minF (l.headD zs).number l
def roomS (l : List ApiSession) : List ApiSession := if 32 ≤ l.length then l.filter (keepN (oldestOf l)) else l
def untilOf (now dur : Int) : Int := if 1099511627776 < now + dur then 1099511627776 else now + dur
theorem roomS_len (l : List ApiSession) : (roomS l).length ≤ l.length := by
  unfold roomS
  split
  · exact List.length_filter_le _ _
  · exact Nat.le_refl _
theorem open_ok (s : ApiSessions) (acc id : List UInt8) (model : BitVec 64) (now dur : Int) (hT : isT now = true) (hd : 1 ≤ dur) (hd2 : dur ≤ 1099511627776) (hl : s.open_.length < 90000) (ha : acc.length < 100000000) (hid : id.length ≤ 140737488355328) :
    session_Open s acc id model now dur = some ((), ⟨s.secret, IntKind.wrap .i64 (s.count + 1), roomS (s.open_.filter (keepE now)) ++ [⟨s.count, acc, id, model, now, untilOf now dur⟩]⟩, tok s ⟨s.count, acc, id, model, now, untilOf now dur⟩, 0, ()) := by
  have hnow : 0 ≤ now ∧ now ≤ 1099511627776 := by
    unfold isT at hT
    simpa using hT
  have hlen : (s.open_.filter (keepE now)).length < 90000 := Nat.lt_of_le_of_lt (List.length_filter_le _ _) hl
  have hu : (bif decide ((1099511627776 : Int) < (IntKind.wrap .i64 (now + dur))) then (1099511627776 : Int) else (IntKind.wrap .i64 (now + dur))) = untilOf now dur := by
    rw [wrap_id (by omega) (by omega)]
    unfold untilOf
    by_cases h : (1099511627776 : Int) < now + dur <;> simp [h]
  have hO := open_L0
  unfold session_Open
  generalize session_Open_L0 = LL at hO ⊢
  rw [isTime_ok, expire_ok s now (by omega)]
  simp only [bindS, hT, Bool.not_true, cond_false, show ¬ dur < 1 by omega, show ¬ (1099511627776 : Int) < dur by omega, decide_false]
  generalize hL : s.open_.filter (keepE now) = l at hlen
  by_cases h32 : (32 : Int) ≤ (l.length : Int)
  · obtain ⟨x0, r, rfl⟩ : ∃ x0 r, l = x0 :: r := by
      cases l with
      | nil => simp at h32
      | cons a b => exact ⟨a, b, rfl⟩
    simp only [h32, decide_true, cond_true, show (0 : Int) < ((x0 :: r).length : Int) by omega, List.getElem?_cons_zero, bindS]
    rw [hO _ _ _ _ _ _ _ _ _ (by omega)]
    simp only [bindS]
    rw [filter1_ok _ _ (by dsimp only; omega)]
    simp only [bindS, bytes_Clone, show id.length ≤ 140737488355328 from hid, decide_true, cond_true, hu]
    have hr : roomS (x0 :: r) = (x0 :: r).filter (keepN (minF x0.number (x0 :: r))) := by
      unfold roomS
      rw [if_pos (by omega)]
      rfl
    rw [hr]
    have hfl : ((x0 :: r).filter (keepN (minF x0.number (x0 :: r)))).length ≤ (x0 :: r).length := List.length_filter_le _ _
    generalize (x0 :: r).filter (keepN (minF x0.number (x0 :: r))) = fl at hfl
    rw [small72 (by simp at hlen hfl ⊢; omega)]
    simp only [cond_true, bindS]
    rw [bytes_ok _ _ ha]
    simp only [bindS]
    rw [tok_sec (⟨s.secret, IntKind.wrap .i64 (s.count + 1), _⟩ : ApiSessions) s _ rfl]
  · simp only [h32, decide_false, cond_false, bindS, bytes_Clone, show id.length ≤ 140737488355328 from hid, decide_true, cond_true, hu]
    have hr : roomS l = l := by
      unfold roomS
      rw [if_neg (by omega)]
    rw [hr, small72 (by simp; omega)]
    simp only [cond_true, bindS]
    rw [bytes_ok _ _ ha]
    simp only [bindS]
    rw [tok_sec (⟨s.secret, IntKind.wrap .i64 (s.count + 1), _⟩ : ApiSessions) s _ rfl]
def stripId (x : ApiSession) : ApiSession := x
theorem check_ok (s : ApiSessions) (t : List UInt8) (now : Int) (hT : isT now = true) (hl : s.open_.length < 90000) (ha : ∀ x ∈ s.open_, x.account.length < 100000000 ∧ x.iD.length ≤ 140737488355328) :
    session_Check s t now = some (match (s.open_.filter (keepE now)).find? (fun x => decide (tok s x = t)) with | some x => ((), x, 0, ()) | none => ((), zs, 11, ())) := by
  have hlen : (s.open_.filter (keepE now)).length < 90000 := Nat.lt_of_le_of_lt (List.length_filter_le _ _) hl
  unfold session_Check
  rw [isTime_ok, expire_ok s now (by omega)]
  simp only [Option.bind_some, hT, Bool.not_true, cond_false]
  rw [find_ok _ _ (by dsimp only; omega) (fun x hx => (ha x ((List.mem_filter.1 hx).1)).1)]
  have e : (fun x => decide (tok (⟨s.secret, s.count, s.open_.filter (keepE now)⟩ : ApiSessions) x = t)) = (fun x => decide (tok s x = t)) := by
    funext x
    exact congrArg (fun z => decide (z = t)) (tok_sec _ s x rfl)
  simp only [e]
  cases hf : (s.open_.filter (keepE now)).find? (fun x => decide (tok s x = t)) with
  | none => rfl
  | some x =>
    have hx := (ha x ((List.mem_filter.1 (List.mem_of_find?_eq_some hf)).1)).2
    simp only [Option.bind_some, Bool.not_true, cond_false, bytes_Clone, hx, decide_true, cond_true]

/-! ### SessionMany -/
def X (j : Nat) : ApiSession := ⟨j, [97], [], 0#64, j, (j : Int) + 1000⟩
def tokN (sec : BitVec 64) (j : Nat) : List UInt8 := tok ⟨sec, 0, []⟩ (X j)
def OL (k : Nat) : List ApiSession := (List.range' (k - 32) (k - (k - 32))).map X
theorem filter_all {p : ApiSession → Bool} {l : List ApiSession} (h : ∀ x ∈ l, p x = true) : l.filter p = l := List.filter_eq_self.2 h
theorem OL_mem {k : Nat} {x : ApiSession} (h : x ∈ OL k) : ∃ j, x = X j ∧ k - 32 ≤ j ∧ j < k := by
  unfold OL at h
  rw [List.mem_map] at h
  obtain ⟨j, hj, rfl⟩ := h
  rw [List.mem_range'_1] at hj
  exact ⟨j, rfl, by omega, by omega⟩
theorem OL_len (k : Nat) : (OL k).length = k - (k - 32) := by simp [OL]
theorem minF_map (lo : Nat) : ∀ (n st : Nat), lo ≤ st → minF (lo : Int) ((List.range' st n).map X) = lo
  | 0, st, _ => rfl
  | n + 1, st, h => by
    rw [List.range'_succ, List.map_cons]
    unfold minF
    rw [List.foldl_cons]
    have : ¬ (X st).number < (lo : Int) := by simp [X]; omega
    simp only [this, decide_false, cond_false]
    exact minF_map lo n (st + 1) (by omega)
theorem room_OL (k : Nat) : roomS (OL k) ++ [X k] = OL (k + 1) := by
  unfold roomS
  rw [OL_len]
  split
  · rename_i h
    have hk : k - 32 + 32 = k := by omega
    have e1 : OL k = X (k - 32) :: (List.range' (k - 32 + 1) 31).map X := by
      unfold OL
      rw [show k - (k - 32) = 31 + 1 by omega, List.range'_succ, List.map_cons]
    have e2 : oldestOf (OL k) = ((k - 32 : Nat) : Int) := by
      rw [e1]
      unfold oldestOf
      rw [← List.map_cons (f := X), ← List.range'_succ]
      exact minF_map (k - 32) 32 (k - 32) (Nat.le_refl _)
    have e3 : ((List.range' (k - 32 + 1) 31).map X).filter (keepN ((k - 32 : Nat) : Int)) = (List.range' (k - 32 + 1) 31).map X := filter_all fun x hx => by
      rw [List.mem_map] at hx
      obtain ⟨j, hj, rfl⟩ := hx
      rw [List.mem_range'_1] at hj
      show (!decide ((j : Int) = ((k - 32 : Nat) : Int))) = true
      rw [decide_eq_false (by omega)]
      rfl
    have e4 : keepN ((k - 32 : Nat) : Int) (X (k - 32)) = false := by
      show (!decide (((k - 32 : Nat) : Int) = ((k - 32 : Nat) : Int))) = false
      rw [decide_eq_true rfl]
      rfl
    rw [e2, e1, List.filter_cons_of_neg (by rw [e4]; simp), e3]
    unfold OL
    have e5 : List.range' (k + 1 - 32) (k + 1 - (k + 1 - 32)) = List.range' (k - 32 + 1) 31 ++ [k] := by
      rw [show k + 1 - 32 = k - 32 + 1 by omega, show k + 1 - (k - 32 + 1) = 31 + 1 by omega, List.range'_concat, show k - 32 + 1 + 1 * 31 = k by omega]
    rw [e5, List.map_append]
    rfl
  · rename_i h
    have hk : k - 32 = 0 ∧ k + 1 - 32 = 0 := by omega
    unfold OL
    have e5 : List.range' (k + 1 - 32) (k + 1 - (k + 1 - 32)) = List.range' (k - 32) (k - (k - 32)) ++ [k] := by
      rw [hk.1, hk.2, show k + 1 - 0 = k - 0 + 1 by omega, List.range'_concat, show 0 + 1 * (k - 0) = k by omega]
    rw [e5, List.map_append]
    rfl
theorem keep_OL (k : Nat) (hk : k ≤ 70) : (OL k).filter (keepE (k : Int)) = OL k := by
  refine filter_all fun x hx => ?_
  obtain ⟨j, rfl, h1, h2⟩ := OL_mem hx
  show (!(isT (k : Int)) || decide ((k : Int) ≤ (j : Int) + 1000)) = true
  rw [decide_eq_true (by omega), Bool.or_true]
theorem isT_nat (k : Nat) (hk : k ≤ 70) : isT (k : Int) = true := by
  unfold isT
  simp
  omega

theorem many_L0 (sec : BitVec 64) (k : Nat) (hk : k ≤ 70) : Ok (passkeylaw34_SessionMany_L0 ((⟨sec, 0, []⟩, ()), (k : Int), [], 0, ())) fun z => z = .inr ((⟨sec, k, OL k⟩, ()), (k : Int), (List.range k).map (tokN sec), ()) := by
  unfold passkeylaw34_SessionMany_L0
  refine Ok.iter (fun q => ∃ i : Nat, i ≤ k ∧ q = ((⟨sec, (i : Int), OL i⟩, ()), (k : Int), (List.range i).map (tokN sec), (i : Int), ())) (fun q => ((k : Int) - q.2.2.2.1).toNat) ⟨0, by omega, rfl⟩ (by rw [rounds_eq]; dsimp only; omega) ?_
  rintro q ⟨i, hi, rfl⟩
  simp only [passkeylaw34_SessionMany_L0b]
  refine Ok.cond ?_ ?_ <;> intro hc
  · simp only [decide_eq_true_eq] at hc
    have hlen := OL_len i
    rw [open_ok _ _ _ _ _ _ (isT_nat i (by omega)) (by omega) (by omega) (by dsimp only; omega) (by simp) (by simp)]
    have hu : untilOf (i : Int) 1000 = (i : Int) + 1000 := by
      unfold untilOf
      rw [if_neg (by omega)]
    simp only [Option.bind_some, hu, keep_OL i (by omega)]
    rw [wrap_id (n := (i : Int) + 1) (by omega) (by omega), show (⟨(i : Int), [97], [], 0#64, (i : Int), (i : Int) + 1000⟩ : ApiSession) = X i from rfl, room_OL]
    have h33 := OL_len (i + 1)
    simp only [decide_true, Bool.not_true, cond_false, show ¬ (32 : Int) < ((OL (i + 1)).length : Int) by omega, decide_false]
    have hsm : small (((List.range i).map (tokN sec)).length + ([tok (⟨sec, (i : Int), OL i⟩ : ApiSessions) (X i)] : List (List UInt8)).length) 24 = true := by
      unfold small
      simp
      omega
    rw [hsm]
    refine Ok.some ⟨⟨i + 1, by omega, ?_⟩, by dsimp only; omega⟩
    rw [List.range_succ, List.map_append]
    rfl
  · simp only [decide_eq_false_iff_not] at hc
    have : i = k := by omega
    subst this
    exact Ok.some rfl
theorem find_range (i : Nat) : ∀ (n lo : Nat), (List.range' lo n).find? (fun j => decide (j = i)) = if lo ≤ i ∧ i < lo + n then some i else none
  | 0, lo => by
    rw [if_neg (by omega)]
    rfl
  | n + 1, lo => by
    rw [List.range'_succ]
    by_cases h : lo = i
    · subst h
      rw [List.find?_cons_of_pos (by simp), if_pos (by omega)]
    · rw [List.find?_cons_of_neg (by simpa using h), find_range i n (lo + 1)]
      by_cases h2 : lo + 1 ≤ i ∧ i < lo + 1 + n
      · rw [if_pos h2, if_pos (by omega)]
      · rw [if_neg h2, if_neg (by omega)]
theorem tokN_inj (sec : BitVec 64) (i j : Nat) (hi : i < 256) (hj : j < 256) (h : tokN sec i = tokN sec j) : i = j := by
  have e : (tokN sec i)[7]? = (tokN sec j)[7]? := by rw [h]
  change some (UInt8.ofBitVec (BitVec.setWidth 8 (BitVec.ofInt 64 (i : Int) >>> 0))) = some (UInt8.ofBitVec (BitVec.setWidth 8 (BitVec.ofInt 64 (j : Int) >>> 0))) at e
  have e2 := congrArg (fun o : Option UInt8 => (o.getD 0).toNat) e
  simp [UInt8.toNat] at e2
  omega
theorem find_OL (sec : BitVec 64) (k i : Nat) (hk : k ≤ 70) (hi : i < k) : (OL k).find? (fun x => decide (tok (⟨sec, (k : Int), OL k⟩ : ApiSessions) x = tokN sec i)) = if k - 32 ≤ i then some (X i) else none := by
  unfold OL
  rw [List.find?_map]
  have e : (List.range' (k - 32) (k - (k - 32))).find? ((fun x => decide (tok (⟨sec, (k : Int), (List.range' (k - 32) (k - (k - 32))).map X⟩ : ApiSessions) x = tokN sec i)) ∘ X) = (List.range' (k - 32) (k - (k - 32))).find? (fun j => decide (j = i)) := by
    refine find_congr fun j hj => ?_
    rw [List.mem_range'_1] at hj
    simp only [Function.comp]
    rw [Bool.eq_iff_iff]
    simp only [decide_eq_true_eq]
    constructor
    · intro h
      exact tokN_inj sec j i (by omega) (by omega) h
    · rintro rfl; rfl
  rw [e, find_range]
  by_cases h : k - 32 ≤ i
  · rw [if_pos (by omega), if_pos h]; rfl
  · rw [if_neg (by omega), if_neg h]; rfl
theorem many_L2 (sec : BitVec 64) (k : Nat) (hk : k ≤ 70) : Ok (passkeylaw34_SessionMany_L2 ((⟨sec, k, OL k⟩, ()), (k : Int), (List.range k).map (tokN sec), 0, ())) fun z => z = .inr () := by
  unfold passkeylaw34_SessionMany_L2
  refine Ok.iter (fun q => ∃ i : Nat, i ≤ k ∧ q = ((⟨sec, (k : Int), OL k⟩, ()), (k : Int), (List.range k).map (tokN sec), (i : Int), ())) (fun q => ((k : Int) - q.2.2.2.1).toNat) ⟨0, by omega, rfl⟩ (by rw [rounds_eq]; dsimp only; omega) ?_
  rintro q ⟨i, hi, rfl⟩
  simp only [passkeylaw34_SessionMany_L2b]
  refine Ok.cond ?_ ?_ <;> intro hc
  · simp only [decide_eq_true_eq] at hc
    have hik : i < k := by omega
    have hlen := OL_len k
    simp only [show (0 : Int) ≤ (i : Int) by omega, show (i : Int) < (((List.range k).map (tokN sec)).length : Int) by simp; omega, decide_true, Bool.and_self, cond_true, Int.toNat_natCast]
    rw [show ((List.range k).map (tokN sec))[i]? = some (tokN sec i) by simp [hik]]
    simp only [Option.bind_some]
    rw [check_ok _ _ _ (isT_nat k hk) (by dsimp only; omega) (fun x hx => by
      obtain ⟨j, rfl, _, _⟩ := OL_mem hx
      exact ⟨by simp [X], by simp [X]⟩)]
    dsimp only
    rw [keep_OL k hk, find_OL sec k i hk hik, wrap_id (n := (k : Int) - 32) (by omega) (by omega), wrap_id (n := (i : Int) + 1) (by omega) (by omega)]
    by_cases h : k - 32 ≤ i
    · rw [if_pos h]
      simp only [Option.bind_some, decide_true, show ((k : Int) - 32 ≤ (i : Int)) = True from by simp; omega, BEq.rfl, Bool.not_true, cond_false, cond_true, X]
      exact Ok.some ⟨⟨i + 1, by omega, rfl⟩, by dsimp only; omega⟩
    · rw [if_neg h]
      simp only [Option.bind_some, show ((11 : Int) = 0) = False by simp, decide_false, show ((k : Int) - 32 ≤ (i : Int)) = False from by simp; omega, BEq.rfl, Bool.not_true, cond_false]
      exact Ok.some ⟨⟨i + 1, by omega, rfl⟩, by dsimp only; omega⟩
  · exact Ok.some rfl
theorem SessionMany_plain (a0 : BitVec 64) (a1 : UInt8) (hd : SessionMany_dom a0 a1) : Ok (passkeylaw34_SessionMany a0 a1) fun r => r.2.1 = true := by
  unfold passkeylaw34_SessionMany
  have hv : (UInt8.ofBitVec (a1.toBitVec % (70 : UInt8).toBitVec)).toBitVec.toNat < 70 := by
    have : (UInt8.ofBitVec (a1.toBitVec % (70 : UInt8).toBitVec)).toBitVec.toNat = a1.toNat % 70 := rfl
    omega
  simp only [session_New, Option.bind_some, show ((70 : UInt8).toBitVec = 0) = False by decide, decide_false, cond_false]
  generalize (UInt8.ofBitVec (a1.toBitVec % (70 : UInt8).toBitVec)).toBitVec.toNat = v at hv
  rw [wrap_id (n := 1 + (v : Int)) (by omega) (by omega), show (1 : Int) + (v : Int) = ((v + 1 : Nat) : Int) by omega]
  refine Ok.bind ((many_L0 a0 (v + 1) (by omega)).mono ?_)
  rintro z rfl
  simp only [Sum.elim_inr]
  refine Ok.bind ((many_L2 a0 (v + 1) (by omega)).mono ?_)
  rintro z rfl
  simp only [Sum.elim_inr, awake_ok, Option.bind_some]
  exact Ok.some rfl
end Go.Proofs.Ytgenglnebkjhfaa

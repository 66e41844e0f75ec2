/- What Close and the revocations compute, and the law SessionGone, plainly. -/
import Derived.Test.YtgenglnebkjhfaaSessLaw2
set_option linter.unusedVariables false
set_option maxRecDepth 100000
namespace Go.Proofs.Ytgenglnebkjhfaa
open Go Go.Abs
def keepC (c x : ApiSession) : Bool := !decide (x.number = c.number)
theorem step2 (x : ApiSession) (c : ApiSession) : session_Close_1 x c = some ((), keepC c x, ()) := by
  unfold session_Close_1 keepC
  rfl
theorem filt2_L0 (cap : ApiSession) (s z : ApiSessions) (l : List ApiSession) (hl : l.length < 100000) : session_filter_2_L0 (cap, (s, ()), (z, ()), [], l, (l.length : Int), 0, ()) = some ((s, ()), (z, ()), l.filter (keepC cap), ()) := by
  unfold session_filter_2_L0
  rw [iter_fun (fun q => q.1 = cap ∧ q.2.2.2.2.1 = l ∧ q.2.2.2.2.2.1 = (l.length : Int) ∧ 0 ≤ q.2.2.2.2.2.2.1 ∧ q.2.2.2.2.2.2.1 ≤ (l.length : Int) ∧ (q.2.2.2.1.length : Int) ≤ q.2.2.2.2.2.2.1) (fun q => ((l.length : Int) - q.2.2.2.2.2.2.1).toNat) (fun q => (q.2.1, q.2.2.1, q.2.2.2.1 ++ (l.drop q.2.2.2.2.2.2.1.toNat).filter (keepC cap), ()))]
  · simp
  · rintro ⟨y0, ⟨y1, u1⟩, ⟨y2, u2⟩, y3, y4, y5, i, u⟩ ⟨h1, h2, h3, h4, h5, h6⟩
    dsimp only at *
    subst h1; subst h2; subst h3
    simp only [session_filter_2_L0b]
    by_cases hc : i < y4.length
    · left
      have e : y4.drop i.toNat = ati y4 i :: y4.drop (i.toNat + 1) := by
        have : i.toNat < y4.length := by omega
        rw [List.drop_eq_getElem_cons this]
        simp [ati, this]
      rw [getI_some h4 hc, wrap_id (n := i + 1) (by omega) (by omega)]
      simp only [hc, decide_true, cond_true, Option.bind_some, step2]
      cases hk : keepC y0 (ati y4 i)
      · refine ⟨_, rfl, ⟨rfl, rfl, rfl, by dsimp only; omega, by dsimp only; omega, by dsimp only; omega⟩, by dsimp only; omega, ?_⟩
        dsimp only
        rw [e, show (i + 1).toNat = i.toNat + 1 by omega, List.filter_cons_of_neg (by simp [hk])]
      · rw [small72 (by simp; omega)]
        refine ⟨_, rfl, ⟨rfl, rfl, rfl, by dsimp only; omega, by dsimp only; omega, by simp; omega⟩, by dsimp only; omega, ?_⟩
        dsimp only
        rw [e, show (i + 1).toNat = i.toNat + 1 by omega, List.filter_cons_of_pos hk]
        simp
    · right
      have : i.toNat = y4.length := by omega
      simp [hc, this]
  · exact ⟨rfl, rfl, rfl, by simp, by simp, by simp⟩
  · rw [rounds_eq]; dsimp only; omega
theorem filter2_ok (s : ApiSessions) (cap : ApiSession) (hl : s.open_.length < 100000) : session_filter_2 s cap = some ((), ((s.secret, s.count, ()), s.open_.filter (keepC cap), ()), ()) := by
  unfold session_filter_2
  rw [mk_cond _ hl]
  simp only [cond_true, List.replicate_zero]
  rw [filt2_L0 _ _ _ _ hl]
  rfl

def keepM (m : BitVec 64) (x : ApiSession) : Bool := decide (m = 0#64) || !decide (x.model = m)
theorem step3 (x : ApiSession) (c : BitVec 64) : session_RevokeModel_1 x c = some ((), keepM c x, ()) := by
  unfold session_RevokeModel_1 keepM
  by_cases h : c = 0#64 <;> simp [h]
theorem filt3_L0 (cap : BitVec 64) (s z : ApiSessions) (l : List ApiSession) (hl : l.length < 100000) : session_filter_3_L0 (cap, (s, ()), (z, ()), [], l, (l.length : Int), 0, ()) = some ((s, ()), (z, ()), l.filter (keepM cap), ()) := by
  unfold session_filter_3_L0
  rw [iter_fun (fun q => q.1 = cap ∧ q.2.2.2.2.1 = l ∧ q.2.2.2.2.2.1 = (l.length : Int) ∧ 0 ≤ q.2.2.2.2.2.2.1 ∧ q.2.2.2.2.2.2.1 ≤ (l.length : Int) ∧ (q.2.2.2.1.length : Int) ≤ q.2.2.2.2.2.2.1) (fun q => ((l.length : Int) - q.2.2.2.2.2.2.1).toNat) (fun q => (q.2.1, q.2.2.1, q.2.2.2.1 ++ (l.drop q.2.2.2.2.2.2.1.toNat).filter (keepM cap), ()))]
  · simp
  · rintro ⟨y0, ⟨y1, u1⟩, ⟨y2, u2⟩, y3, y4, y5, i, u⟩ ⟨h1, h2, h3, h4, h5, h6⟩
    dsimp only at *
    subst h1; subst h2; subst h3
    simp only [session_filter_3_L0b]
    by_cases hc : i < y4.length
    · left
      have e : y4.drop i.toNat = ati y4 i :: y4.drop (i.toNat + 1) := by
        have : i.toNat < y4.length := by omega
        rw [List.drop_eq_getElem_cons this]
        simp [ati, this]
      rw [getI_some h4 hc, wrap_id (n := i + 1) (by omega) (by omega)]
      simp only [hc, decide_true, cond_true, Option.bind_some, step3]
      cases hk : keepM y0 (ati y4 i)
      · refine ⟨_, rfl, ⟨rfl, rfl, rfl, by dsimp only; omega, by dsimp only; omega, by dsimp only; omega⟩, by dsimp only; omega, ?_⟩
        dsimp only
        rw [e, show (i + 1).toNat = i.toNat + 1 by omega, List.filter_cons_of_neg (by simp [hk])]
      · rw [small72 (by simp; omega)]
        refine ⟨_, rfl, ⟨rfl, rfl, rfl, by dsimp only; omega, by dsimp only; omega, by simp; omega⟩, by dsimp only; omega, ?_⟩
        dsimp only
        rw [e, show (i + 1).toNat = i.toNat + 1 by omega, List.filter_cons_of_pos hk]
        simp
    · right
      have : i.toNat = y4.length := by omega
      simp [hc, this]
  · exact ⟨rfl, rfl, rfl, by simp, by simp, by simp⟩
  · rw [rounds_eq]; dsimp only; omega
theorem filter3_ok (s : ApiSessions) (cap : BitVec 64) (hl : s.open_.length < 100000) : session_filter_3 s cap = some ((), ((s.secret, s.count, ()), s.open_.filter (keepM cap), ()), ()) := by
  unfold session_filter_3
  rw [mk_cond _ hl]
  simp only [cond_true, List.replicate_zero]
  rw [filt3_L0 _ _ _ _ hl]
  rfl

def keepI (id : List UInt8) (x : ApiSession) : Bool := !decide (x.iD = id)
theorem step4 (x : ApiSession) (c : List UInt8) : session_RevokeCredential_1 x c = some ((), keepI c x, ()) := by
  unfold session_RevokeCredential_1 keepI
  rfl
theorem filt4_L0 (cap : List UInt8) (s z : ApiSessions) (l : List ApiSession) (hl : l.length < 100000) : session_filter_4_L0 (cap, (s, ()), (z, ()), [], l, (l.length : Int), 0, ()) = some ((s, ()), (z, ()), l.filter (keepI cap), ()) := by
  unfold session_filter_4_L0
  rw [iter_fun (fun q => q.1 = cap ∧ q.2.2.2.2.1 = l ∧ q.2.2.2.2.2.1 = (l.length : Int) ∧ 0 ≤ q.2.2.2.2.2.2.1 ∧ q.2.2.2.2.2.2.1 ≤ (l.length : Int) ∧ (q.2.2.2.1.length : Int) ≤ q.2.2.2.2.2.2.1) (fun q => ((l.length : Int) - q.2.2.2.2.2.2.1).toNat) (fun q => (q.2.1, q.2.2.1, q.2.2.2.1 ++ (l.drop q.2.2.2.2.2.2.1.toNat).filter (keepI cap), ()))]
  · simp
  · rintro ⟨y0, ⟨y1, u1⟩, ⟨y2, u2⟩, y3, y4, y5, i, u⟩ ⟨h1, h2, h3, h4, h5, h6⟩
    dsimp only at *
    subst h1; subst h2; subst h3
    simp only [session_filter_4_L0b]
    by_cases hc : i < y4.length
    · left
      have e : y4.drop i.toNat = ati y4 i :: y4.drop (i.toNat + 1) := by
        have : i.toNat < y4.length := by omega
        rw [List.drop_eq_getElem_cons this]
        simp [ati, this]
      rw [getI_some h4 hc, wrap_id (n := i + 1) (by omega) (by omega)]
      simp only [hc, decide_true, cond_true, Option.bind_some, step4]
      cases hk : keepI y0 (ati y4 i)
      · refine ⟨_, rfl, ⟨rfl, rfl, rfl, by dsimp only; omega, by dsimp only; omega, by dsimp only; omega⟩, by dsimp only; omega, ?_⟩
        dsimp only
        rw [e, show (i + 1).toNat = i.toNat + 1 by omega, List.filter_cons_of_neg (by simp [hk])]
      · rw [small72 (by simp; omega)]
        refine ⟨_, rfl, ⟨rfl, rfl, rfl, by dsimp only; omega, by dsimp only; omega, by simp; omega⟩, by dsimp only; omega, ?_⟩
        dsimp only
        rw [e, show (i + 1).toNat = i.toNat + 1 by omega, List.filter_cons_of_pos hk]
        simp
    · right
      have : i.toNat = y4.length := by omega
      simp [hc, this]
  · exact ⟨rfl, rfl, rfl, by simp, by simp, by simp⟩
  · rw [rounds_eq]; dsimp only; omega
theorem filter4_ok (s : ApiSessions) (cap : List UInt8) (hl : s.open_.length < 100000) : session_filter_4 s cap = some ((), ((s.secret, s.count, ()), s.open_.filter (keepI cap), ()), ()) := by
  unfold session_filter_4
  rw [mk_cond _ hl]
  simp only [cond_true, List.replicate_zero]
  rw [filt4_L0 _ _ _ _ hl]
  rfl


theorem revokeModel_ok (s : ApiSessions) (m : BitVec 64) (hl : s.open_.length < 100000) : session_RevokeModel s m = some ((), ⟨s.secret, s.count, s.open_.filter (keepM m)⟩, ()) := by
  unfold session_RevokeModel
  rw [filter3_ok _ _ hl, bindS]
theorem revokeCredential_ok (s : ApiSessions) (id : List UInt8) (hl : s.open_.length < 100000) : session_RevokeCredential s id = some ((), ⟨s.secret, s.count, s.open_.filter (keepI id)⟩, ()) := by
  unfold session_RevokeCredential
  rw [filter4_ok _ _ hl, bindS]
theorem close_ok (s : ApiSessions) (t : List UInt8) (now : Int) (hT : isT now = true) (hl : s.open_.length < 90000) (ha : ∀ x ∈ s.open_, x.account.length < 100000000) :
    session_Close s t now = some (match (s.open_.filter (keepE now)).find? (fun x => decide (tok s x = t)) with | some x => ((), ⟨s.secret, s.count, (s.open_.filter (keepE now)).filter (keepC x)⟩, 0, ()) | none => ((), s, 11, ())) := by
  have hlen : (s.open_.filter (keepE now)).length < 90000 := Nat.lt_of_le_of_lt (List.length_filter_le _ _) hl
  unfold session_Close
  rw [isTime_ok, expire_ok s now (by omega)]
  simp only [bindS, hT, Bool.not_true, cond_false]
  rw [find_ok _ _ (by dsimp only; omega) (fun x hx => ha x (List.mem_filter.1 hx).1)]
  have e : (fun x => decide (tok (⟨s.secret, s.count, s.open_.filter (keepE now)⟩ : ApiSessions) x = t)) = (fun x => decide (tok s x = t)) := by
    funext x
    exact congrArg (fun z => decide (z = t)) (tok_sec _ s x rfl)
  simp only [e]
  cases hf : (s.open_.filter (keepE now)).find? (fun x => decide (tok s x = t)) with
  | none => rfl
  | some x =>
    simp only [bindS, Bool.not_true, cond_false]
    rw [filter2_ok _ _ (by dsimp only; omega), bindS]
/-! ### SessionGone -/
theorem tok_num (s s' : ApiSessions) (x y : ApiSession) (h : tok s x = tok s' y) (hx : 0 ≤ x.number ∧ x.number < 256) (hy : 0 ≤ y.number ∧ y.number < 256) : x.number = y.number := by
  have e : (tok s x)[7]? = (tok s' y)[7]? := by rw [h]
  change some (UInt8.ofBitVec (BitVec.setWidth 8 (BitVec.ofInt 64 x.number >>> 0))) = some (UInt8.ofBitVec (BitVec.setWidth 8 (BitVec.ofInt 64 y.number >>> 0))) at e
  have e2 := congrArg (fun o : Option UInt8 => (o.getD 0).toNat) e
  simp [UInt8.toNat] at e2
  omega
def idN (ms : List UInt8) (j : Nat) : UInt8 := UInt8.ofBitVec ((ati ms j).toBitVec % (4 : UInt8).toBitVec)
def mdN (ms : List UInt8) (j : Nat) : UInt8 := UInt8.ofBitVec ((ati ms j).toBitVec % (3 : UInt8).toBitVec)
def Y (ms : List UInt8) (j : Nat) : ApiSession := ⟨j, [97], [idN ms j], BitVec.setWidth 64 (mdN ms j).toBitVec + 1#64, 0, 100⟩
def tokY (sec : BitVec 64) (ms : List UInt8) (j : Nat) : List UInt8 := tok ⟨sec, 0, []⟩ (Y ms j)
theorem tokY_ne (sec : BitVec 64) (ms : List UInt8) (i j : Nat) (hi : i < 256) (hj : j < 256) (h : tokY sec ms i = tokY sec ms j) : i = j := by
  have := tok_num _ _ _ _ h (by simp [Y]; omega) (by simp [Y]; omega)
  change (i : Int) = (j : Int) at this
  omega
theorem roomS_small {l : List ApiSession} (h : l.length < 32) : roomS l = l := by
  unfold roomS
  rw [if_neg (by omega)]
theorem gone_L2 (ms : List UInt8) (h1 h2 : UInt8) (s t : ApiSessions) (all : List (List UInt8)) (i : Int) (b : List UInt8) (hb : ∀ x ∈ all, x ≠ b) (hl : all.length < 1000) :
    Ok (passkeylaw34_SessionGone_L2 (ms, h1, h2, (s, ()), all, i, (t, ()), b, 0, ())) fun z => z = .inr (ms, h1, h2, (s, ()), all, i, (t, ()), b, ()) := by
  unfold passkeylaw34_SessionGone_L2
  refine Ok.iter (fun q => ∃ k : Nat, k ≤ all.length ∧ q = (ms, h1, h2, (s, ()), all, i, (t, ()), b, (k : Int), ())) (fun q => ((all.length : Int) - q.2.2.2.2.2.2.2.2.1).toNat) ⟨0, by omega, rfl⟩ (by rw [rounds_eq]; dsimp only; omega) ?_
  rintro q ⟨k, hk, rfl⟩
  simp only [passkeylaw34_SessionGone_L2b]
  refine Ok.cond ?_ ?_ <;> intro hc
  · simp only [decide_eq_true_eq] at hc
    have hk' : k < all.length := by omega
    simp only [show (0 : Int) ≤ (k : Int) by omega, hc, decide_true, Bool.and_self, cond_true, Int.toNat_natCast]
    rw [List.getElem?_eq_getElem hk', bindS, decide_eq_false (hb _ (List.getElem_mem hk')), wrap_id (by omega) (by omega)]
    exact Ok.some ⟨⟨k + 1, by omega, rfl⟩, by dsimp only; omega⟩
  · exact Ok.some rfl
theorem keepY (ms : List UInt8) (now : Int) (h : now ≤ 100) (j : Nat) : keepE now (Y ms j) = true := by
  unfold keepE
  have : now ≤ (Y ms j).until_ := h
  simp [this]
theorem gone_L0 (sec : BitVec 64) (ms : List UInt8) (h1 h2 : UInt8) (hm : ms.length < 9223372036854775808) : Ok (passkeylaw34_SessionGone_L0 (ms, h1, h2, (⟨sec, 0, []⟩, ()), [], 0, ())) fun z => ∃ n : Nat, n ≤ 20 ∧ n ≤ ms.length ∧ z = .inr (ms, h1, h2, (⟨sec, n, (List.range n).map (Y ms)⟩, ()), (List.range n).map (tokY sec ms), ()) := by
  unfold passkeylaw34_SessionGone_L0
  refine Ok.iter (fun q => ∃ i : Nat, i ≤ 20 ∧ i ≤ ms.length ∧ q = (ms, h1, h2, (⟨sec, (i : Int), (List.range i).map (Y ms)⟩, ()), (List.range i).map (tokY sec ms), (i : Int), ())) (fun q => (20 - q.2.2.2.2.2.1).toNat) ⟨0, by omega, by omega, rfl⟩ (by rw [rounds_eq]; dsimp only; omega) ?_
  rintro q ⟨i, hi, him, rfl⟩
  simp only [passkeylaw34_SessionGone_L0b, show ((4 : UInt8).toBitVec = 0) = False by decide, show ((3 : UInt8).toBitVec = 0) = False by decide, decide_false, cond_false]
  refine Ok.cond ?_ ?_ <;> intro hc
  · simp only [decide_eq_true_eq] at hc
    refine Ok.cond ?_ ?_ <;> intro hc2
    · simp only [decide_eq_true_eq] at hc2
      rw [getI_some (by omega) hc]
      simp only [bindS]
      have hlen : ((List.range i).map (Y ms)).length = i := by simp
      rw [open_ok _ _ _ _ _ _ (by rfl) (by omega) (by omega) (by dsimp only; omega) (by simp) (by simp)]
      rw [bindS]
      have hk : ((List.range i).map (Y ms)).filter (keepE 0) = (List.range i).map (Y ms) := filter_all fun x hx => by
        rw [List.mem_map] at hx
        obtain ⟨j, _, rfl⟩ := hx
        exact keepY ms 0 (by omega) j
      have hy : (⟨(i : Int), [97], [UInt8.ofBitVec ((ati ms i).toBitVec % (4 : UInt8).toBitVec)], BitVec.setWidth 64 (UInt8.ofBitVec ((ati ms i).toBitVec % (3 : UInt8).toBitVec)).toBitVec + 1#64, 0, untilOf 0 100⟩ : ApiSession) = Y ms i := rfl
      dsimp only
      rw [hk, roomS_small (by omega), hy, tok_sec (⟨sec, (i : Int), _⟩ : ApiSessions) ⟨sec, 0, []⟩ _ rfl]
      simp only [decide_true, Bool.not_true, cond_false]
      refine Ok.bind ((gone_L2 ms h1 h2 _ _ _ _ _ (fun x hx e => ?_) (by simp; omega)).mono ?_)
      · rw [List.mem_map] at hx
        obtain ⟨j, hj, rfl⟩ := hx
        rw [List.mem_range] at hj
        have := tokY_ne sec ms j i (by omega) (by omega) e
        omega
      · rintro z rfl
        simp only [Sum.elim_inr]
        have hsm : small (((List.range i).map (tokY sec ms)).length + ([tok ⟨sec, 0, []⟩ (Y ms i)] : List (List UInt8)).length) 24 = true := by
          unfold small
          simp
          omega
        rw [hsm, wrap_id (n := (i : Int) + 1) (by omega) (by omega)]
        refine Ok.some ⟨⟨i + 1, by omega, by omega, ?_⟩, by dsimp only; omega⟩
        rw [List.range_succ, List.map_append, List.map_append]
        rfl
    · exact Ok.some ⟨i, hi, him, rfl⟩
  · exact Ok.some ⟨i, hi, him, rfl⟩

def gN (ms : List UInt8) (how : UInt8) (k : Int) (n j : Nat) : Bool :=
  (decide ((UInt8.ofBitVec (how.toBitVec &&& (3 : UInt8).toBitVec)).toBitVec = (0 : UInt8).toBitVec) && decide (((mdN ms j).toBitVec.toNat : Int) = Int.tmod k 3)) ||
  ((decide ((UInt8.ofBitVec (how.toBitVec &&& (3 : UInt8).toBitVec)).toBitVec = (1 : UInt8).toBitVec) && decide (((idN ms j).toBitVec.toNat : Int) = Int.tmod k 4)) ||
   (decide ((UInt8.ofBitVec (how.toBitVec &&& (3 : UInt8).toBitVec)).toBitVec = (2 : UInt8).toBitVec) && decide ((j : Int) = Int.tmod k n)))
theorem set_step (g : Nat → Bool) (n i : Nat) (hi : i < n) (v : Bool) (hv : v = g i) : List.set ((List.range i).map g ++ List.replicate (n - i) false) i v = (List.range (i + 1)).map g ++ List.replicate (n - (i + 1)) false := by
  subst hv
  rw [show n - i = n - (i + 1) + 1 by omega, List.replicate_succ, List.range_succ, List.map_append, List.append_assoc]
  rw [List.set_append_right _ _ (by simp)]
  simp
theorem gone_L5 (sec : BitVec 64) (ms : List UInt8) (how later : UInt8) (s : ApiSessions) (k : Int) (n : Nat) (hn : n ≤ 20) (hm : n ≤ ms.length) (hml : ms.length < 9223372036854775808) :
    Ok (passkeylaw34_SessionGone_L5 (ms, how, later, (s, ()), (List.range n).map (tokY sec ms), List.replicate n false, k, 0, ())) fun z => z = (later, (s, ()), (List.range n).map (tokY sec ms), (List.range n).map (gN ms how k n), ()) := by
  unfold passkeylaw34_SessionGone_L5
  refine Ok.iter (fun q => ∃ i : Nat, i ≤ n ∧ q = (ms, how, later, (s, ()), (List.range n).map (tokY sec ms), (List.range i).map (gN ms how k n) ++ List.replicate (n - i) false, k, (i : Int), ())) (fun q => ((n : Int) - q.2.2.2.2.2.2.2.1).toNat) ⟨0, by omega, by simp⟩ (by rw [rounds_eq]; dsimp only; omega) ?_
  rintro q ⟨i, hi, rfl⟩
  have hal : ((List.range n).map (tokY sec ms)).length = n := by simp
  have hgl : ((List.range i).map (gN ms how k n) ++ List.replicate (n - i) false).length = n := by simp; omega
  simp only [passkeylaw34_SessionGone_L5b, show ((4 : UInt8).toBitVec = 0) = False by decide, show ((3 : UInt8).toBitVec = 0) = False by decide, decide_false, cond_false, hal]
  refine Ok.cond ?_ ?_ <;> intro hc
  · simp only [decide_eq_true_eq] at hc
    have hin : i < n := by omega
    have hidx : (decide ((0 : Int) ≤ (i : Int)) && decide ((i : Int) < (((List.range i).map (gN ms how k n) ++ List.replicate (n - i) false).length : Int))) = true := by
      rw [hgl]; simp; omega
    have hn0 : ¬ ((n : Int) = 0) := by omega
    have fin : ∀ (v : Bool), v = gN ms how k n i → Ok ((((List.range i).map (gN ms how k n) ++ List.replicate (n - i) false)[((i : Int)).toNat]?).bind fun _ => (some (Sum.inl (ms, how, later, (s, ()), (List.range n).map (tokY sec ms), List.set ((List.range i).map (gN ms how k n) ++ List.replicate (n - i) false) ((i : Int)).toNat v, k, (IntKind.wrap .i64 ((i : Int) + (1 : Int))), ())) : Option (_ ⊕ (UInt8 × (ApiSessions × Unit) × (List (List UInt8)) × (List (Bool)) × Unit))))
        (fun r => match r with | .inl t => (∃ i : Nat, i ≤ n ∧ t = (ms, how, later, (s, ()), (List.range n).map (tokY sec ms), (List.range i).map (gN ms how k n) ++ List.replicate (n - i) false, k, (i : Int), ())) ∧ ((n : Int) - t.2.2.2.2.2.2.2.1).toNat < ((n : Int) - (i : Int)).toNat | .inr b => b = (later, (s, ()), (List.range n).map (tokY sec ms), (List.range n).map (gN ms how k n), ())) := by
      intro v hv
      refine Ok.get (by rw [hgl, Int.toNat_natCast]; omega) ?_
      intro _
      rw [wrap_id (n := (i : Int) + 1) (by omega) (by omega), Int.toNat_natCast, set_step _ n i hin v hv]
      exact Ok.some ⟨⟨i + 1, by omega, rfl⟩, by dsimp only; omega⟩
    rw [getI_some (show (0 : Int) ≤ (i : Int) by omega) (show (i : Int) < ms.length by omega)]
    simp only [bindS, hidx, cond_true, hn0, decide_false, cond_false]
    have e3 : ((((ati ms (i : Int)).toBitVec % (3 : UInt8).toBitVec).toNat : Nat) : Int) = ((mdN ms i).toBitVec.toNat : Int) := rfl
    have e4 : ((((ati ms (i : Int)).toBitVec % (4 : UInt8).toBitVec).toNat : Nat) : Int) = ((idN ms i).toBitVec.toNat : Int) := rfl
    have eg : gN ms how k n i = ((decide (how.toBitVec &&& (3 : UInt8).toBitVec = (0 : UInt8).toBitVec) && decide (((mdN ms i).toBitVec.toNat : Int) = Int.tmod k 3)) || ((decide (how.toBitVec &&& (3 : UInt8).toBitVec = (1 : UInt8).toBitVec) && decide (((idN ms i).toBitVec.toNat : Int) = Int.tmod k 4)) || (decide (how.toBitVec &&& (3 : UInt8).toBitVec = (2 : UInt8).toBitVec) && decide ((i : Int) = Int.tmod k n)))) := rfl
    simp only [e3, e4]
    generalize hd0 : decide (how.toBitVec &&& (3 : UInt8).toBitVec = (0 : UInt8).toBitVec) = d0 at eg ⊢
    generalize hd1 : decide (how.toBitVec &&& (3 : UInt8).toBitVec = (1 : UInt8).toBitVec) = d1 at eg ⊢
    generalize hd2 : decide (how.toBitVec &&& (3 : UInt8).toBitVec = (2 : UInt8).toBitVec) = d2 at eg ⊢
    generalize hd3 : decide (((mdN ms i).toBitVec.toNat : Int) = Int.tmod k 3) = d3 at eg ⊢
    generalize hd4 : decide (((idN ms i).toBitVec.toNat : Int) = Int.tmod k 4) = d4 at eg ⊢
    cases d0 <;> cases d1 <;> cases d2 <;> cases d3 <;> cases d4 <;> (simp only [cond_true, cond_false]; refine Ok.mono (fin _ (by rw [eg]; simp)) (fun r h => by cases r <;> exact h))
  · simp only [decide_eq_false_iff_not] at hc
    have : i = n := by omega
    subst this
    refine Ok.some ?_
    simp
def K (ms : List UInt8) (g : Nat → Bool) (n : Nat) : List ApiSession := ((List.range n).filter fun j => !g j).map (Y ms)
def Z (n i : Nat) : ApiSession := ⟨((n + i : Nat) : Int), [97], [UInt8.ofBitVec (BitVec.ofInt 8 (i : Int))], 2#64, 60, 70⟩
theorem K_mem {ms : List UInt8} {g : Nat → Bool} {n : Nat} {x : ApiSession} (h : x ∈ K ms g n) : ∃ j, j < n ∧ g j = false ∧ x = Y ms j := by
  unfold K at h
  rw [List.mem_map] at h
  obtain ⟨j, hj, rfl⟩ := h
  rw [List.mem_filter, List.mem_range] at hj
  exact ⟨j, hj.1, by simpa using hj.2, rfl⟩
theorem K_len (ms : List UInt8) (g : Nat → Bool) (n : Nat) : (K ms g n).length ≤ n := by
  unfold K
  rw [List.length_map]
  exact Nat.le_trans (List.length_filter_le _ _) (by simp)
theorem filter_Y (ms : List UInt8) (g : Nat → Bool) (n : Nat) (p : ApiSession → Bool) (h : ∀ j, j < n → p (Y ms j) = !g j) : ((List.range n).map (Y ms)).filter p = K ms g n := by
  unfold K
  rw [List.filter_map]
  congr 1
  refine List.filter_congr fun j hj => ?_
  rw [List.mem_range] at hj
  exact h j hj
theorem keep65 (ms : List UInt8) (g : Nat → Bool) (n L : Nat) (now : Int) (h : now ≤ 70) : (K ms g n ++ (List.range L).map (Z n)).filter (keepE now) = K ms g n ++ (List.range L).map (Z n) := by
  refine filter_all fun x hx => ?_
  rcases List.mem_append.1 hx with hx | hx
  · obtain ⟨j, _, _, rfl⟩ := K_mem hx
    exact keepY ms now (by omega) j
  · rw [List.mem_map] at hx
    obtain ⟨j, _, rfl⟩ := hx
    show (!(isT now) || decide (now ≤ 70)) = true
    rw [decide_eq_true h, Bool.or_true]
theorem gone_L7 (sec : BitVec 64) (ms : List UInt8) (g : Nat → Bool) (n : Nat) (hn : n ≤ 20) (later : UInt8) (all : List (List UInt8)) (gl : List Bool) :
    Ok (passkeylaw34_SessionGone_L7 (later, (⟨sec, n, K ms g n⟩, ()), all, gl, 0, ())) fun z => ∃ L : Nat, L ≤ 8 ∧ z = .inr ((⟨sec, ((n + L : Nat) : Int), K ms g n ++ (List.range L).map (Z n)⟩, ()), all, gl, ()) := by
  unfold passkeylaw34_SessionGone_L7
  refine Ok.iter (fun q => ∃ i : Nat, i ≤ 8 ∧ q = (later, (⟨sec, ((n + i : Nat) : Int), K ms g n ++ (List.range i).map (Z n)⟩, ()), all, gl, (i : Int), ())) (fun q => (8 - q.2.2.2.2.1).toNat) ⟨0, by omega, by simp⟩ (by rw [rounds_eq]; dsimp only; omega) ?_
  rintro q ⟨i, hi, rfl⟩
  have hv : (((later.toBitVec % (8 : UInt8).toBitVec).toNat : Nat) : Int) < 8 := by
    have : (later.toBitVec % (8 : UInt8).toBitVec).toNat = later.toNat % 8 := rfl
    omega
  have hkl := K_len ms g n
  simp only [passkeylaw34_SessionGone_L7b, show ((8 : UInt8).toBitVec = 0) = False by decide, decide_false, cond_false]
  refine Ok.cond ?_ ?_ <;> intro hc
  · simp only [decide_eq_true_eq] at hc
    rw [open_ok _ _ _ _ _ _ (by rfl) (by omega) (by omega) (by simp; omega) (by simp) (by simp), bindS]
    dsimp only
    rw [keep65 ms g n i 60 (by omega), roomS_small (by simp; omega), wrap_id (n := ((n + i : Nat) : Int) + 1) (by omega) (by omega), wrap_id (n := (i : Int) + 1) (by omega) (by omega)]
    simp only [decide_true, Bool.not_true, cond_false]
    refine Ok.some ⟨⟨i + 1, by omega, ?_⟩, by dsimp only; omega⟩
    rw [List.range_succ, List.map_append, ← List.append_assoc]
    rfl
  · exact Ok.some ⟨i, hi, rfl⟩
theorem find_K (sec : BitVec 64) (ms : List UInt8) (g : Nat → Bool) (n L i : Nat) (hn : n ≤ 20) (hL : L ≤ 8) (hi : i < n) (s : ApiSessions) (hs : s.secret = sec) :
    (K ms g n ++ (List.range L).map (Z n)).find? (fun x => decide (tok s x = tokY sec ms i)) = if g i then none else some (Y ms i) := by
  have hY : ∀ j, j < 256 → tok s (Y ms j) = tokY sec ms i → j = i := fun j hj h => by
    refine tokY_ne sec ms j i hj (by omega) ?_
    rw [← h]
    exact tok_sec _ s _ hs.symm
  cases hg : g i
  · simp only [Bool.false_eq_true, if_false]
    have hmem : Y ms i ∈ K ms g n := by
      unfold K
      rw [List.mem_map]
      exact ⟨i, by rw [List.mem_filter, List.mem_range]; exact ⟨hi, by simp [hg]⟩, rfl⟩
    cases hf : (K ms g n ++ (List.range L).map (Z n)).find? (fun x => decide (tok s x = tokY sec ms i)) with
    | none =>
      have := List.find?_eq_none.1 hf (Y ms i) (List.mem_append.2 (.inl hmem))
      exfalso
      apply this
      rw [decide_eq_true_eq]
      exact tok_sec s ⟨sec, 0, []⟩ _ hs
    | some x =>
      have h1 := List.find?_some hf
      have h2 := List.mem_of_find?_eq_some hf
      rw [decide_eq_true_eq] at h1
      rcases List.mem_append.1 h2 with h2 | h2
      · obtain ⟨j, hj, _, rfl⟩ := K_mem h2
        rw [hY j (by omega) h1]
      · rw [List.mem_map] at h2
        obtain ⟨j, hj, rfl⟩ := h2
        rw [List.mem_range] at hj
        have := tok_num _ _ _ _ h1 (by simp [Z]; omega) (by simp [Y]; omega)
        change ((n + j : Nat) : Int) = (i : Int) at this
        omega
  · simp only [if_true]
    rw [List.find?_eq_none]
    intro x hx h
    rw [decide_eq_true_eq] at h
    rcases List.mem_append.1 hx with hx | hx
    · obtain ⟨j, hj, hgj, rfl⟩ := K_mem hx
      have := hY j (by omega) h
      subst this
      rw [hg] at hgj
      cases hgj
    · rw [List.mem_map] at hx
      obtain ⟨j, hj, rfl⟩ := hx
      rw [List.mem_range] at hj
      have := tok_num _ _ _ _ h (by simp [Z]; omega) (by simp [Y]; omega)
      change ((n + j : Nat) : Int) = (i : Int) at this
      omega
theorem gone_L9 (sec : BitVec 64) (ms : List UInt8) (g : Nat → Bool) (n L : Nat) (hn : n ≤ 20) (hL : L ≤ 8) :
    Ok (passkeylaw34_SessionGone_L9 ((⟨sec, ((n + L : Nat) : Int), K ms g n ++ (List.range L).map (Z n)⟩, ()), (List.range n).map (tokY sec ms), (List.range n).map g, 0, ())) fun z => z = .inr () := by
  unfold passkeylaw34_SessionGone_L9
  refine Ok.iter (fun q => ∃ i : Nat, i ≤ n ∧ q = ((⟨sec, ((n + L : Nat) : Int), K ms g n ++ (List.range L).map (Z n)⟩, ()), (List.range n).map (tokY sec ms), (List.range n).map g, (i : Int), ())) (fun q => ((n : Int) - q.2.2.2.1).toNat) ⟨0, by omega, rfl⟩ (by rw [rounds_eq]; dsimp only; omega) ?_
  rintro q ⟨i, hi, rfl⟩
  have hkl := K_len ms g n
  have hal : ((List.range n).map (tokY sec ms)).length = n := by simp
  have hgl : ((List.range n).map g).length = n := by simp
  simp only [passkeylaw34_SessionGone_L9b, hal, hgl]
  refine Ok.cond ?_ ?_ <;> intro hc
  · simp only [decide_eq_true_eq] at hc
    have hin : i < n := by omega
    simp only [show (0 : Int) ≤ (i : Int) by omega, hc, decide_true, Bool.and_self, cond_true, Int.toNat_natCast]
    rw [show ((List.range n).map (tokY sec ms))[i]? = some (tokY sec ms i) by simp [hin], show ((List.range n).map g)[i]? = some (g i) by simp [hin]]
    rw [bindS, check_ok _ _ _ (by rfl) (by simp; omega) (fun x hx => by
      rcases List.mem_append.1 hx with hx | hx
      · obtain ⟨j, _, _, rfl⟩ := K_mem hx
        exact ⟨by simp [Y], by simp [Y]⟩
      · rw [List.mem_map] at hx
        obtain ⟨j, _, rfl⟩ := hx
        exact ⟨by simp [Z], by simp [Z]⟩)]
    dsimp only
    rw [keep65 ms g n L 65 (by omega), find_K sec ms g n L i hn hL hin _ rfl, wrap_id (n := (i : Int) + 1) (by omega) (by omega)]
    simp only [bindS]
    cases hg : g i
    · simp only [Bool.false_eq_true, if_false, decide_true]
      exact Ok.some ⟨⟨i + 1, by omega, rfl⟩, by dsimp only; omega⟩
    · simp only [if_true, show ((11 : Int) = 0) = False by simp, decide_false]
      exact Ok.some ⟨⟨i + 1, by omega, rfl⟩, by dsimp only; omega⟩
  · exact Ok.some rfl
theorem K_all (ms : List UInt8) (g : Nat → Bool) (n : Nat) (h : ∀ j, j < n → g j = false) : (List.range n).map (Y ms) = K ms g n := by
  have := filter_Y ms g n (fun _ => true) (fun j hj => by rw [h j hj]; rfl)
  rw [← this, filter_all (fun _ _ => rfl)]
theorem model_eq (ms : List UInt8) (j t : Nat) (ht : t < 3) : decide (BitVec.setWidth 64 (mdN ms j).toBitVec + 1#64 = BitVec.ofInt 64 ((t : Nat) : Int) + 1#64) = decide (((mdN ms j).toBitVec.toNat : Int) = ((t : Nat) : Int)) := by
  have hm : (mdN ms j).toBitVec.toNat < 3 := by
    have : (mdN ms j).toBitVec.toNat = (ati ms (j : Int)).toNat % 3 := rfl
    omega
  have hh : (mdN ms j).toNat = (mdN ms j).toBitVec.toNat := rfl
  rw [Bool.eq_iff_iff, decide_eq_true_eq, decide_eq_true_eq]
  constructor
  · intro h
    have := congrArg BitVec.toNat h
    simp [BitVec.toNat_add] at this
    omega
  · intro h
    apply BitVec.eq_of_toNat_eq
    simp [BitVec.toNat_add]
    omega
theorem id_eq (ms : List UInt8) (j t : Nat) (ht : t < 4) : decide ([idN ms j] = [UInt8.ofBitVec (BitVec.ofInt 8 ((t : Nat) : Int))]) = decide (((idN ms j).toBitVec.toNat : Int) = ((t : Nat) : Int)) := by
  have hm : (idN ms j).toBitVec.toNat < 4 := by
    have : (idN ms j).toBitVec.toNat = (ati ms (j : Int)).toNat % 4 := rfl
    omega
  have hh : (idN ms j).toNat = (idN ms j).toBitVec.toNat := rfl
  rw [Bool.eq_iff_iff, decide_eq_true_eq, decide_eq_true_eq]
  constructor
  · intro h
    have h1 : idN ms j = UInt8.ofBitVec (BitVec.ofInt 8 ((t : Nat) : Int)) := by simpa using h
    have := congrArg (fun u : UInt8 => u.toBitVec.toNat) h1
    simp at this
    omega
  · intro h
    have : idN ms j = UInt8.ofBitVec (BitVec.ofInt 8 ((t : Nat) : Int)) := by
      apply UInt8.eq_of_toBitVec_eq
      apply BitVec.eq_of_toNat_eq
      simp
      omega
    rw [this]
theorem SessionGone_plain (a0 : BitVec 64) (a1 : List UInt8) (a2 a3 : UInt8) (hd : SessionGone_dom a0 a1 a2 a3) : Ok (passkeylaw34_SessionGone a0 a1 a2 a3) fun r => r.2.1 = true := by
  have hm := dok_len hd.2.1
  dsimp only at hm
  unfold passkeylaw34_SessionGone
  simp only [session_New, bindS]
  refine Ok.bind ((gone_L0 a0 a1 a2 a3 hm).mono ?_)
  rintro z ⟨n, hn, hnm, rfl⟩
  simp only [Sum.elim_inr]
  have hal : ((List.range n).map (tokY a0 a1)).length = n := by simp
  rw [hal]
  have hmk : (decide ((0 : Int) ≤ (n : Int)) && (decide ((n : Int) ≤ (n : Int)) && decide ((1 : Int) * (n : Int) ≤ 281474976710656 ∧ (n : Int) ≤ 9223372036854775807))) = true := by
    simp
    omega
  rw [hmk, Int.toNat_natCast]
  simp only [cond_true]
  obtain ⟨kn, hkn⟩ : ∃ kn : Nat, (a2.toBitVec >>> 2).toNat = kn := ⟨_, rfl⟩
  have e3 : Int.tmod ((kn : Nat) : Int) 3 = ((kn % 3 : Nat) : Int) := rfl
  have e4 : Int.tmod ((kn : Nat) : Int) 4 = ((kn % 4 : Nat) : Int) := rfl
  have en : Int.tmod ((kn : Nat) : Int) ((n : Nat) : Int) = ((kn % n : Nat) : Int) := rfl
  have hlen : ((List.range n).map (Y a1)).length = n := by simp
  refine Ok.bind (Ok.mono (Q := fun j => j = (a1, a2, a3, (⟨a0, (n : Int), K a1 (gN a1 a2 (kn : Int) n) n⟩, ()), (List.range n).map (tokY a0 a1), List.replicate n false, (kn : Int), ())) ?_ ?_)
  · have eg : ∀ j, gN a1 a2 (kn : Int) n j = ((decide (a2.toBitVec &&& (3 : UInt8).toBitVec = (0 : UInt8).toBitVec) && decide (((mdN a1 j).toBitVec.toNat : Int) = Int.tmod (kn : Int) 3)) || ((decide (a2.toBitVec &&& (3 : UInt8).toBitVec = (1 : UInt8).toBitVec) && decide (((idN a1 j).toBitVec.toNat : Int) = Int.tmod (kn : Int) 4)) || (decide (a2.toBitVec &&& (3 : UInt8).toBitVec = (2 : UInt8).toBitVec) && decide ((j : Int) = Int.tmod (kn : Int) n)))) := fun j => rfl
    simp only [hkn, e3, e4, en] at eg ⊢
    by_cases q0 : a2.toBitVec &&& (3 : UInt8).toBitVec = (0 : UInt8).toBitVec
    · have q1 : ¬ a2.toBitVec &&& (3 : UInt8).toBitVec = (1 : UInt8).toBitVec := by rw [q0]; decide
      have q2 : ¬ a2.toBitVec &&& (3 : UInt8).toBitVec = (2 : UInt8).toBitVec := by rw [q0]; decide
      simp only [decide_eq_true q0, decide_eq_false q1, decide_eq_false q2, Bool.true_and, Bool.false_and, Bool.or_false] at eg
      rw [decide_eq_true q0]
      simp only [cond_true]
      rw [revokeModel_ok _ _ (by dsimp only; omega), bindS]
      refine Ok.some ?_
      dsimp only
      rw [filter_Y a1 (gN a1 a2 (kn : Int) n) n _ (fun j hj => ?_)]
      rw [eg j, ← model_eq a1 j (kn % 3) (by omega)]
      unfold keepM
      have hne : ¬ (BitVec.ofInt 64 ((kn % 3 : Nat) : Int) + 1#64 = 0#64) := by
        intro h
        have := congrArg BitVec.toNat h
        simp [BitVec.toNat_add] at this
        omega
      rw [decide_eq_false hne, Bool.false_or]
      rfl
    · rw [decide_eq_false q0]
      simp only [cond_false]
      by_cases q1 : a2.toBitVec &&& (3 : UInt8).toBitVec = (1 : UInt8).toBitVec
      · have q2 : ¬ a2.toBitVec &&& (3 : UInt8).toBitVec = (2 : UInt8).toBitVec := by rw [q1]; decide
        simp only [decide_eq_false q0, decide_eq_true q1, decide_eq_false q2, Bool.true_and, Bool.false_and, Bool.or_false, Bool.false_or] at eg
        rw [decide_eq_true q1]
        simp only [cond_true]
        rw [revokeCredential_ok _ _ (by dsimp only; omega), bindS]
        refine Ok.some ?_
        dsimp only
        rw [filter_Y a1 (gN a1 a2 (kn : Int) n) n _ (fun j hj => ?_)]
        rw [eg j, ← id_eq a1 j (kn % 4) (by omega)]
        rfl
      · rw [decide_eq_false q1]
        simp only [cond_false]
        by_cases q2 : a2.toBitVec &&& (3 : UInt8).toBitVec = (2 : UInt8).toBitVec
        · simp only [decide_eq_false q0, decide_eq_false q1, decide_eq_true q2, Bool.true_and, Bool.false_and, Bool.false_or] at eg
          rw [decide_eq_true q2]
          simp only [cond_true]
          by_cases hn0 : 0 < n
          · have hlt : kn % n < n := Nat.mod_lt _ hn0
            rw [decide_eq_true (show (0 : Int) < (n : Int) by omega), decide_eq_false (show ¬ ((n : Int) = 0) by omega), decide_eq_true (show (0 : Int) ≤ ((kn % n : Nat) : Int) by omega), decide_eq_true (show ((kn % n : Nat) : Int) < (n : Int) by omega)]
            simp only [cond_true, cond_false, Bool.and_self, Int.toNat_natCast]
            rw [show ((List.range n).map (tokY a0 a1))[kn % n]? = some (tokY a0 a1 (kn % n)) by simp [hlt], bindS]
            rw [close_ok _ _ _ (by rfl) (by dsimp only; omega) (fun x hx => by
              rw [List.mem_map] at hx
              obtain ⟨j, _, rfl⟩ := hx
              simp [Y])]
            dsimp only
            have hk : ((List.range n).map (Y a1)).filter (keepE 50) = (List.range n).map (Y a1) := filter_all fun x hx => by
              rw [List.mem_map] at hx
              obtain ⟨j, _, rfl⟩ := hx
              exact keepY a1 50 (by omega) j
            have hfind := find_K a0 a1 (fun _ => false) n 0 (kn % n) hn (by omega) hlt ⟨a0, (n : Int), (List.range n).map (Y a1)⟩ rfl
            rw [← K_all a1 (fun _ => false) n (fun _ _ => rfl)] at hfind
            simp only [List.range_zero, List.map_nil, List.append_nil, Bool.false_eq_true, if_false] at hfind
            rw [hk, hfind]
            simp only [bindS]
            refine Ok.some ?_
            rw [filter_Y a1 (gN a1 a2 (kn : Int) n) n _ (fun j hj => ?_)]
            rw [eg j]
            rfl
          · have : n = 0 := by omega
            subst this
            rw [decide_eq_false (show ¬ (0 : Int) < ((0 : Nat) : Int) by omega)]
            exact Ok.some rfl
        · simp only [decide_eq_false q0, decide_eq_false q1, decide_eq_false q2, Bool.false_and, Bool.or_false] at eg
          rw [decide_eq_false q2]
          refine Ok.some ?_
          rw [K_all a1 (gN a1 a2 (kn : Int) n) n (fun j _ => eg j)]
  · rintro j rfl
    dsimp only
    refine Ok.bind ((gone_L5 a0 a1 a2 a3 _ (kn : Int) n hn hnm hm).mono ?_)
    rintro z rfl
    dsimp only
    refine Ok.bind ((gone_L7 a0 a1 (gN a1 a2 (kn : Int) n) n hn a3 _ _).mono ?_)
    rintro z ⟨L, hL, rfl⟩
    simp only [Sum.elim_inr]
    refine Ok.bind ((gone_L9 a0 a1 (gN a1 a2 (kn : Int) n) n L hn hL).mono ?_)
    rintro z rfl
    simp only [Sum.elim_inr, awake_ok, bindS]
    exact Ok.some rfl
end Go.Proofs.Ytgenglnebkjhfaa

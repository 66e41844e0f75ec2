/- The laws ChallengeFull and ChallengeOnce, plainly. -/
import Derived.Test.YtlinfghjilpcdaaChalLaw
import Derived.Test.YtlinfghjilpcdaaTyZ
set_option linter.unusedVariables false
set_option maxRecDepth 100000
namespace Go.Proofs.Ytlinfghjilpcdaa
open Go Go.Abs
/-! ### ChallengeFull -/
theorem full_L2 (a2 : UInt8) (s t : ApiChallenges) (k i now e : Int) (hT : isT now = true) (hs : SinceOk s) (hl : s.open_.length < 100000) :
    passkeylaw29_ChallengeFull_L2 (a2, (s, ()), k, i, now, (t, ()), e, 0, 0, ()) = some (a2, (s, ()), k, i, (t, ()), e, ((s.open_.filter (keepE now)).length : Int), ()) := by
  unfold passkeylaw29_ChallengeFull_L2
  rw [iter_fun (fun q => q.1 = a2 ∧ q.2.1 = (s, ()) ∧ q.2.2.1 = k ∧ q.2.2.2.1 = i ∧ q.2.2.2.2.1 = now ∧ q.2.2.2.2.2.1 = (t, ()) ∧ q.2.2.2.2.2.2.1 = e ∧ 0 ≤ q.2.2.2.2.2.2.2.1 ∧ q.2.2.2.2.2.2.2.1 ≤ q.2.2.2.2.2.2.2.2.1 ∧ q.2.2.2.2.2.2.2.2.1 ≤ (s.open_.length : Int)) (fun q => ((s.open_.length : Int) - q.2.2.2.2.2.2.2.2.1).toNat)
    (fun q => (q.1, q.2.1, q.2.2.1, q.2.2.2.1, q.2.2.2.2.2.1, q.2.2.2.2.2.2.1, q.2.2.2.2.2.2.2.1 + (((s.open_.drop q.2.2.2.2.2.2.2.2.1.toNat).filter (keepE now)).length : Int), ()))]
  · simp
  · rintro ⟨y0, y1, y2, y3, y4, y5, y6, o, j, u⟩ ⟨h1, h2, h3, h4, h5, h6, h7, h8, h9, h10⟩
    dsimp only at *
    subst h1; subst h2; subst h3; subst h4; subst h5; subst h6; subst h7
    simp only [passkeylaw29_ChallengeFull_L2b]
    by_cases hc : j < s.open_.length
    · left
      have e := drop_at0 (by omega) hc
      have hx := hs _ (ati_mem (by omega) hc)
      have hnow := isT_iff.1 hT
      rw [getI_some (by omega) hc, wrap_id (n := j + 1) (by omega) (by omega), wrap_id (n := o + 1) (by omega) (by omega)]
      simp only [hc, decide_true, cond_true, bindS]
      rw [wrap_id (n := y4 - (ati s.open_ j).since) (by omega) (by omega)]
      by_cases hk : y4 - (ati s.open_ j).since ≤ 60
      · simp only [hk, decide_true, cond_true]
        refine ⟨_, rfl, ⟨rfl, rfl, rfl, rfl, rfl, rfl, rfl, by dsimp only; omega, by dsimp only; omega, by dsimp only; omega⟩, by dsimp only; omega, ?_⟩
        dsimp only
        rw [e, show (j + 1).toNat = j.toNat + 1 by omega, List.filter_cons_of_pos (by simp [keepE]; right; omega), List.length_cons]
        congr 7
        omega
      · simp only [hk, decide_false, cond_false]
        refine ⟨_, rfl, ⟨rfl, rfl, rfl, rfl, rfl, rfl, rfl, by dsimp only; omega, by dsimp only; omega, by dsimp only; omega⟩, by dsimp only; omega, ?_⟩
        dsimp only
        rw [e, show (j + 1).toNat = j.toNat + 1 by omega, List.filter_cons_of_neg (by simp [keepE, hT]; omega)]
    · right
      have : j.toNat = s.open_.length := by omega
      simp [hc, this]
  · exact ⟨rfl, rfl, rfl, rfl, rfl, rfl, rfl, by simp, by simp, by simp⟩
  · rw [rounds_eq]; dsimp only; omega
def InvF (a2 : UInt8) (k : Int) (y : UInt8 × (ApiChallenges × Unit) × Int × Int × Unit) : Prop :=
  y.1 = a2 ∧ y.2.2.1 = k ∧ 0 ≤ y.2.2.2.1 ∧ y.2.2.2.1 ≤ 100 ∧ SinceOk y.2.1.1 ∧ y.2.1.1.open_.length ≤ 32
theorem ChallengeFull_plain (a0 : BitVec 64) (a1 a2 : UInt8) (hd : ChallengeFull_dom a0 a1 a2) : Ok (passkeylaw29_ChallengeFull a0 a1 a2) fun r => r.2.1 = true := by
  unfold passkeylaw29_ChallengeFull challenge_New
  have hv : (UInt8.ofBitVec (a1.toBitVec % (5 : UInt8).toBitVec)).toBitVec.toNat < 5 := by
    have : (UInt8.ofBitVec (a1.toBitVec % (5 : UInt8).toBitVec)).toBitVec.toNat = a1.toNat % 5 := rfl
    omega
  have hv2 : (UInt8.ofBitVec (a2.toBitVec % (40 : UInt8).toBitVec)).toBitVec.toNat < 40 := by
    have : (UInt8.ofBitVec (a2.toBitVec % (40 : UInt8).toBitVec)).toBitVec.toNat = a2.toNat % 40 := rfl
    omega
  simp only [bindS, show ((5 : UInt8).toBitVec = 0) = False by decide, decide_false, cond_false]
  generalize (UInt8.ofBitVec (a1.toBitVec % (5 : UInt8).toBitVec)).toBitVec.toNat = v at hv
  rw [wrap_id (n := 1 + (v : Int)) (by omega) (by omega)]
  refine Ok.bind ?_
  unfold passkeylaw29_ChallengeFull_L0
  refine Ok.iter (InvF a2 (1 + (v : Int))) (fun y => (100 - y.2.2.2.1).toNat) ⟨rfl, rfl, by simp, by simp, by intro x hx; simp at hx, by simp⟩ (by rw [rounds_eq]; dsimp only; omega) ?_
  rintro ⟨y0, ⟨s, u1⟩, k, i, u⟩ ⟨h1, h2, h3, h4, h5, h6⟩
  dsimp only at *
  subst h1; subst h2
  unfold passkeylaw29_ChallengeFull_L0b
  simp only [show ((40 : UInt8).toBitVec = 0) = False by decide, decide_false, cond_false]
  generalize (UInt8.ofBitVec (y0.toBitVec % (40 : UInt8).toBitVec)).toBitVec.toNat = w at hv2
  rw [wrap_id (n := 40 + (w : Int)) (by omega) (by omega)]
  refine Ok.cond ?_ ?_ <;> intro hc
  rotate_left
  · refine Ok.some ?_
    simp only [Sum.elim_inr]
    rw [awake_ok, bindS]
    exact Ok.some rfl
  have hc : i < 40 + (w : Int) := of_decide_eq_true hc
  have hm0 : 0 ≤ i * (1 + (v : Int)) := Int.mul_nonneg h3 (by omega)
  have hm1 : i * (1 + (v : Int)) ≤ 100 * (1 + (v : Int)) := Int.mul_le_mul_of_nonneg_right (by omega) (by omega)
  generalize i * (1 + (v : Int)) = now at hm0 hm1
  rw [wrap_id (n := now) (by omega) (by omega)]
  have hT : isT now = true := isT_iff.2 ⟨hm0, by omega⟩
  rw [issue_ok s 2 [] false now hT (.inr rfl) (by simp) (by omega), bindS, full_L2 _ _ _ _ _ _ _ hT h5 (by omega), bindS]
  have hfl := flen s now
  dsimp only
  rw [wrap_id (n := i + 1) (by omega) (by omega)]
  unfold issued
  by_cases h32 : 32 ≤ (s.open_.filter (keepE now)).length
  · rw [if_pos h32]
    simp only [show ¬ (((s.open_.filter (keepE now)).length : Int) < 32) by omega, show ((12 : Int) = 0) = False by simp, decide_false, decide_true, BEq.rfl, Bool.not_true, Bool.not_false, cond_false, cond_true, show ¬ ((32 : Int) < (s.open_.length : Int)) by omega]
    exact Ok.some ⟨⟨rfl, rfl, by dsimp only; omega, by dsimp only; omega, h5, h6⟩, by dsimp only; omega⟩
  · rw [if_neg h32]
    have hl2 : ¬ ((32 : Int) < ((s.open_.filter (keepE now) ++ [(⟨s.count, 2, [], false, now⟩ : ApiChallenge)]).length : Int)) := by simp; omega
    simp only [show (((s.open_.filter (keepE now)).length : Int) < 32) by omega, decide_true, BEq.rfl, Bool.not_true, cond_false, hl2, decide_false]
    refine Ok.some ⟨⟨rfl, rfl, by dsimp only; omega, by dsimp only; omega, fun x hx => ?_, by simp; omega⟩, by dsimp only; omega⟩
    rcases List.mem_append.1 hx with hx | hx
    · exact h5 x (List.mem_filter.1 hx).1
    · rw [List.mem_singleton] at hx
      subst hx
      exact ⟨hm0, by dsimp only; omega⟩

/-! ### ChallengeOnce -/
def nm (n : Int) : List UInt8 := ((passkeycast_Name n).getD ((), [], ())).2.1
theorem name_ok (n : Int) : passkeycast_Name n = some ((), nm n, ()) ∧ (nm n).length ≤ 32 := by
  have key : Ok (passkeycast_Name n) fun r => r.2.1.length ≤ 32 := by
    unfold passkeycast_Name
    obtain ⟨r, e, h1, h2⟩ := mod_ok n 5 (by omega) (by omega)
    rw [e, bindS]
    dsimp only
    obtain ⟨k, rfl⟩ : ∃ k : Nat, r = k := ⟨r.toNat, by omega⟩
    rw [decide_eq_true h1, decide_eq_true h2]
    have hk : k < 5 := by omega
    simp only [Bool.and_self, cond_true, Int.toNat_natCast]
    match k, hk with
    | 0, _ => exact Ok.some (by simp)
    | 1, _ => exact Ok.some (by simp)
    | 2, _ => exact Ok.some (by simp)
    | 3, _ => exact Ok.some (by simp)
    | 4, _ => exact Ok.some (by simp)
  obtain ⟨⟨u, b, u'⟩, e, hb⟩ := key
  have : nm n = b := by unfold nm; rw [e]; rfl
  rw [this]
  exact ⟨e, hb⟩
def kd (x : UInt8) : Int := IntKind.wrap .i64 ((1 : Int) + ((UInt8.ofBitVec (x.toBitVec &&& (1 : UInt8).toBitVec)).toBitVec.toNat : Int))
theorem kd_ok (x : UInt8) : kd x = 1 ∨ kd x = 2 := by
  unfold kd
  have h : (UInt8.ofBitVec (x.toBitVec &&& (1 : UInt8).toBitVec)).toBitVec.toNat ≤ 1 := by
    show (x.toBitVec &&& (1 : UInt8).toBitVec).toNat ≤ 1
    rw [BitVec.toNat_and]
    exact Nat.and_le_right
  rw [wrap_id (by omega) (by omega)]
  omega
def nx (x : UInt8) : List UInt8 := nm (Int.tmod (x.toBitVec.toNat : Int) (3 : Int))
def bd (x : UInt8) : Bool := decide ((UInt8.ofBitVec (x.toBitVec &&& (8 : UInt8).toBitVec)).toBitVec = (8 : UInt8).toBitVec)
def ch (ks : List UInt8) (j : Nat) : ApiChallenge := ⟨(j : Int), kd (ati ks (j : Int)), nx (ati ks (j : Int)), bd (ati ks (j : Int)), 100⟩
def cbt (sec : BitVec 64) (ks : List UInt8) (j : Nat) : List UInt8 := chb ⟨sec, 0, []⟩ (ch ks j)
theorem cbt_inj (sec : BitVec 64) (ks : List UInt8) (i j : Nat) (hi : i < 256) (hj : j < 256) (h : cbt sec ks i = cbt sec ks j) : i = j := by
  have e : (cbt sec ks i)[7]? = (cbt sec ks j)[7]? := by rw [h]
  change some (UInt8.ofBitVec (BitVec.setWidth 8 (BitVec.ofInt 64 (i : Int) >>> 0))) = some (UInt8.ofBitVec (BitVec.setWidth 8 (BitVec.ofInt 64 (j : Int) >>> 0))) at e
  have e2 := congrArg (fun o : Option UInt8 => (o.getD 0).toNat) e
  simp [UInt8.toNat] at e2
  omega
def lst (ks : List UInt8) (xs : List Nat) : List ApiChallenge := xs.map (ch ks)
theorem lst_keep (ks : List UInt8) (xs : List Nat) (now : Int) (h : now ≤ 160) : (lst ks xs).filter (keepE now) = lst ks xs := by
  refine filter_all fun x hx => ?_
  obtain ⟨j, _, rfl⟩ := List.mem_map.1 hx
  unfold keepE ch
  rw [decide_eq_true (by dsimp only; omega), Bool.or_true]
theorem once_L0 (sec : BitVec 64) (ks ord : List UInt8) (wt : UInt8) (n : Nat) (hn : n = min ks.length 20) :
    Ok (passkeylaw29_ChallengeOnce_L0 (ks, ord, wt, (⟨sec, 0, []⟩, ()), [], 0, ())) fun z => z = .inr (ks, ord, wt, (⟨sec, n, lst ks (List.range n)⟩, ()), (List.range n).map (cbt sec ks), ()) := by
  unfold passkeylaw29_ChallengeOnce_L0
  refine Ok.iter (fun q => ∃ i : Nat, i ≤ n ∧ q = (ks, ord, wt, (⟨sec, (i : Int), lst ks (List.range i)⟩, ()), (List.range i).map (cbt sec ks), (i : Int), ())) (fun q => ((n : Int) - q.2.2.2.2.2.1).toNat) ⟨0, by omega, rfl⟩ (by rw [rounds_eq]; dsimp only; omega) ?_
  rintro q ⟨i, hi, rfl⟩
  simp only [passkeylaw29_ChallengeOnce_L0b]
  refine Ok.cond ?_ ?_ <;> intro hc
  · have hc : (i : Int) < (ks.length : Int) := of_decide_eq_true hc
    refine Ok.cond ?_ ?_ <;> intro hc2
    · have hc2 : (i : Int) < 20 := of_decide_eq_true hc2
      rw [getI_some (by omega) hc]
      simp only [bindS, (name_ok _).1]
      have hlen : (lst ks (List.range i)).length = i := by simp [lst]
      change Ok ((challenge_Issue (⟨sec, (i : Int), lst ks (List.range i)⟩ : ApiChallenges) (kd (ati ks (i : Int))) (nx (ati ks (i : Int))) (bd (ati ks (i : Int))) 100).bind _) _
      rw [issue_ok _ _ (nx (ati ks (i : Int))) _ 100 (by decide) (kd_ok _) (name_ok _).2 (by dsimp only; omega), bindS]
      unfold issued
      dsimp only
      rw [lst_keep _ _ _ (by omega), if_neg (by omega), wrap_id (n := (i : Int) + 1) (by omega) (by omega)]
      simp only [decide_true, Bool.not_true, cond_false]
      rw [small24 (by simp; omega)]
      refine Ok.some ⟨⟨i + 1, by omega, ?_⟩, by dsimp only; omega⟩
      rw [List.range_succ, List.map_append]
      unfold lst
      rw [List.map_append]
      rfl
    · have hc2 : ¬ (i : Int) < 20 := of_decide_eq_false hc2
      obtain rfl : i = n := by omega
      exact Ok.some rfl
  · have hc : ¬ (i : Int) < (ks.length : Int) := of_decide_eq_false hc
    obtain rfl : i = n := by omega
    exact Ok.some rfl
theorem once_L4 (ks ord : List UInt8) (wt : UInt8) (s : ApiChallenges) (sec : BitVec 64) (n i : Nat) (hn : n ≤ 20) (hi : i < n) :
    Ok (passkeylaw29_ChallengeOnce_L4 (ks, ord, wt, (s, ()), (List.range n).map (cbt sec ks), (i : Int), 0, ())) fun z => z = .inr (ks, ord, wt, (s, ()), (List.range n).map (cbt sec ks), (i : Int), ()) := by
  unfold passkeylaw29_ChallengeOnce_L4
  refine Ok.iter (fun q => ∃ k : Nat, k ≤ i ∧ q = (ks, ord, wt, (s, ()), (List.range n).map (cbt sec ks), (i : Int), (k : Int), ())) (fun q => ((i : Int) - q.2.2.2.2.2.2.1).toNat) ⟨0, by omega, rfl⟩ (by rw [rounds_eq]; dsimp only; omega) ?_
  rintro q ⟨k, hk, rfl⟩
  simp only [passkeylaw29_ChallengeOnce_L4b]
  refine Ok.cond ?_ ?_ <;> intro hc
  · have hc : (k : Int) < (i : Int) := of_decide_eq_true hc
    have g : ∀ j : Nat, j < n → ((List.range n).map (cbt sec ks))[j]? = some (cbt sec ks j) := fun j hj => by simp [hj]
    rw [wrap_id (n := (k : Int) + 1) (by omega) (by omega)]
    simp only [show (0 : Int) ≤ (i : Int) by omega, show (i : Int) < (((List.range n).map (cbt sec ks)).length : Int) by simp; omega, show (0 : Int) ≤ (k : Int) by omega, show (k : Int) < (((List.range n).map (cbt sec ks)).length : Int) by simp; omega, decide_true, Bool.and_self, cond_true, Int.toNat_natCast, g i hi, g k (by omega), bindS]
    have hne : ¬ cbt sec ks i = cbt sec ks k := fun h => by
      have := cbt_inj sec ks i k (by omega) (by omega) h
      omega
    simp only [hne, decide_false, cond_false]
    exact Ok.some ⟨⟨k + 1, by omega, rfl⟩, by dsimp only; omega⟩
  · exact Ok.some rfl
theorem once_L2 (ks ord : List UInt8) (wt : UInt8) (s : ApiChallenges) (sec : BitVec 64) (n : Nat) (hn : n ≤ 20) :
    Ok (passkeylaw29_ChallengeOnce_L2 (ks, ord, wt, (s, ()), (List.range n).map (cbt sec ks), 0, ())) fun z => z = .inr (ks, ord, wt, (s, ()), (List.range n).map (cbt sec ks), ()) := by
  unfold passkeylaw29_ChallengeOnce_L2
  refine Ok.iter (fun q => ∃ i : Nat, i ≤ n ∧ q = (ks, ord, wt, (s, ()), (List.range n).map (cbt sec ks), (i : Int), ())) (fun q => ((n : Int) - q.2.2.2.2.2.1).toNat) ⟨0, by omega, rfl⟩ (by rw [rounds_eq]; dsimp only; omega) ?_
  rintro q ⟨i, hi, rfl⟩
  simp only [passkeylaw29_ChallengeOnce_L2b]
  refine Ok.cond ?_ ?_ <;> intro hc
  · have hc : (i : Int) < (((List.range n).map (cbt sec ks)).length : Int) := of_decide_eq_true hc
    have hin : i < n := by simp at hc; omega
    refine Ok.bind ((once_L4 ks ord wt s sec n i hn hin).mono ?_)
    rintro z rfl
    simp only [Sum.elim_inr]
    rw [wrap_id (n := (i : Int) + 1) (by omega) (by omega)]
    exact Ok.some ⟨⟨i + 1, by omega, rfl⟩, by dsimp only; omega⟩
  · exact Ok.some rfl

/-- finding and removing among the challenges with these numbers. -/
theorem find_lst (ks : List UInt8) (q : ApiChallenge → Bool) (k : Nat) : ∀ (xs : List Nat), xs.Nodup → (∀ j ∈ xs, q (ch ks j) = decide (j = k)) →
    (k ∈ xs → ∃ i, (lst ks xs).findIdx? q = some i ∧ ati (lst ks xs) (i : Int) = ch ks k ∧ (lst ks xs).take i ++ (lst ks xs).drop (i + 1) = lst ks (xs.filter fun j => !decide (j = k))) ∧ (k ∉ xs → (lst ks xs).findIdx? q = none)
  | [], _, _ => ⟨fun h => by simp at h, fun _ => rfl⟩
  | a :: r, hd, hq => by
    have hd' := List.nodup_cons.1 hd
    have ih := find_lst ks q k r hd'.2 (fun j hj => hq j (by simp [hj]))
    have e : lst ks (a :: r) = ch ks a :: lst ks r := rfl
    have hqa := hq a (by simp)
    rw [e, List.findIdx?_cons, hqa]
    by_cases hak : a = k
    · subst hak
      refine ⟨fun _ => ⟨0, by simp, rfl, ?_⟩, fun h => absurd (by simp) h⟩
      rw [List.filter_cons_of_neg (by simp)]
      have : r.filter (fun j => !decide (j = a)) = r := List.filter_eq_self.2 fun j hj => by
        have : j ≠ a := fun h => hd'.1 (h ▸ hj)
        simp [this]
      rw [this]
      rfl
    · rw [decide_eq_false hak]
      simp only [Bool.false_eq_true, if_false]
      refine ⟨fun h => ?_, fun h => ?_⟩
      · have hk : k ∈ r := by
          rcases List.mem_cons.1 h with h | h
          · exact absurd h.symm hak
          · exact h
        obtain ⟨i, h1, h2, h3⟩ := ih.1 hk
        refine ⟨i + 1, by rw [h1]; rfl, ?_, ?_⟩
        · rw [← h2]
          unfold ati
          rw [show ((i + 1 : Nat) : Int).toNat = i + 1 by omega, show ((i : Nat) : Int).toNat = i by omega, List.getD_cons_succ]
        · rw [List.filter_cons_of_pos (by simp [hak])]
          show ch ks a :: ((lst ks r).take i ++ (lst ks r).drop (i + 1)) = _
          rw [h3]
          rfl
      · rw [ih.2 (fun hk => h (by simp [hk]))]
        rfl
theorem find_none (ks : List UInt8) (q : ApiChallenge → Bool) (xs : List Nat) (h : ∀ j ∈ xs, q (ch ks j) = false) : (lst ks xs).findIdx? q = none := by
  rw [List.findIdx?_eq_none_iff]
  intro x hx
  obtain ⟨j, hj, rfl⟩ := List.mem_map.1 hx
  exact h j hj
/-- the numbers that are not used. -/
def fr (n : Nat) (used : List Bool) : List Nat := (List.range n).filter fun j => !used.getD j false
def stt (sec : BitVec 64) (ks : List UInt8) (n : Nat) (used : List Bool) : ApiChallenges := ⟨sec, (n : Int), lst ks (fr n used)⟩
theorem fr_nodup (n : Nat) (used : List Bool) : (fr n used).Nodup := List.Pairwise.filter _ List.nodup_range
theorem fr_mem {n : Nat} {used : List Bool} {k : Nat} : k ∈ fr n used ↔ k < n ∧ used.getD k false = false := by
  unfold fr
  simp
theorem fr_set (n : Nat) (used : List Bool) (k : Nat) (hk : k < used.length) : fr n (used.set k true) = (fr n used).filter fun j => !decide (j = k) := by
  unfold fr
  rw [List.filter_filter]
  refine List.filter_congr fun j _ => ?_
  by_cases h : j = k
  · subst h
    simp [List.getD_eq_getElem?_getD, hk]
  · have : (used.set k true)[j]? = used[j]? := List.getElem?_set_ne (fun e => h e.symm)
    simp [List.getD_eq_getElem?_getD, this, h]
theorem fr_same (n : Nat) (used : List Bool) (k : Nat) (b : Bool) (hk : used.getD k false = b) : used.set k b = used := by
  apply List.ext_getElem?
  intro i
  by_cases h : i = k
  · subst h
    rw [List.getD_eq_getElem?_getD] at hk
    by_cases hl : i < used.length
    · rw [List.getElem?_set_self hl]
      rw [List.getElem?_eq_getElem hl] at hk ⊢
      simp at hk
      rw [hk]
    · rw [List.getElem?_eq_none (by simp; omega), List.getElem?_eq_none (by omega)]
  · rw [List.getElem?_set_ne (fun e => h e.symm)]
theorem use_lst (sec : BitVec 64) (ks : List UInt8) (n : Nat) (used : List Bool) (hn : n ≤ 20) (hu : used.length = n) (k : Nat) (hk : k < n) (kind wt : Int) (hw0 : 0 ≤ wt) (hw1 : wt ≤ 300) :
    challenge_Use (stt sec ks n used) (cbt sec ks k) kind (100 + wt) = some (if wt ≤ 60 ∧ kind = kd (ati ks (k : Int)) ∧ used.getD k false = false then ((), stt sec ks n (used.set k true), ch ks k, 0, ()) else ((), stt sec ks n used, zc, 35, ())) := by
  have hlen : (fr n used).length ≤ n := by
    unfold fr
    have := List.length_filter_le (fun j => !used.getD j false) (List.range n)
    simpa using this
  have hT : isT (100 + wt) = true := isT_iff.2 ⟨by omega, by omega⟩
  have hacc : ∀ x ∈ (stt sec ks n used).open_, x.account.length < 100000000 := fun x hx => by
    obtain ⟨j, _, rfl⟩ := List.mem_map.1 hx
    have := (name_ok (Int.tmod ((ati ks (j : Int)).toBitVec.toNat : Int) (3 : Int))).2
    show (nm (Int.tmod ((ati ks (j : Int)).toBitVec.toNat : Int) (3 : Int))).length < _
    omega
  rw [use_ok _ _ _ _ hT (by show (lst ks (fr n used)).length < _; simp [lst]; omega) hacc]
  congr 1
  show usedR (stt sec ks n used) ((lst ks (fr n used)).filter (keepE (100 + wt))) (((lst ks (fr n used)).filter (keepE (100 + wt))).findIdx? (pU (stt sec ks n used) (cbt sec ks k) kind)) = _
  by_cases hw : wt ≤ 60
  · rw [lst_keep _ _ _ (by omega)]
    have hq : ∀ j ∈ fr n used, pU (stt sec ks n used) (cbt sec ks k) kind (ch ks j) = (decide (kd (ati ks (k : Int)) = kind) && decide (j = k)) := fun j hj => by
      have hj := fr_mem.1 hj
      unfold pU
      rw [chb_sec (stt sec ks n used) ⟨sec, 0, []⟩ _ rfl]
      by_cases h : j = k
      · subst h
        show (decide (kd (ati ks (j : Int)) = kind) && decide (cbt sec ks j = cbt sec ks j)) = _
        simp
      · have : ¬ chb ⟨sec, 0, []⟩ (ch ks j) = cbt sec ks k := fun e => h (cbt_inj sec ks j k (by omega) (by omega) e)
        simp [this, h]
    by_cases hkind : kind = kd (ati ks (k : Int))
    · have hq' : ∀ j ∈ fr n used, pU (stt sec ks n used) (cbt sec ks k) kind (ch ks j) = decide (j = k) := fun j hj => by
        rw [hq j hj, hkind]
        simp
      have hf := find_lst ks _ k (fr n used) (fr_nodup n used) hq'
      by_cases hud : used.getD k false = false
      · obtain ⟨i, h1, h2, h3⟩ := hf.1 (fr_mem.2 ⟨hk, hud⟩)
        rw [h1, if_pos ⟨hw, hkind, hud⟩]
        show ((), (⟨sec, (n : Int), (lst ks (fr n used)).take i ++ (lst ks (fr n used)).drop (i + 1)⟩ : ApiChallenges), ati (lst ks (fr n used)) (i : Int), (0 : Int), ()) = _
        rw [h2, h3]
        unfold stt
        rw [fr_set n used k (by omega)]
      · rw [hf.2 (fun h => hud (fr_mem.1 h).2), if_neg (fun h => hud h.2.2)]
        rfl
    · rw [find_none ks _ _ (fun j hj => by rw [hq j hj, decide_eq_false (fun h => hkind h.symm)]; rfl), if_neg (fun h => hkind h.2.1)]
      rfl
  · have : (lst ks (fr n used)).filter (keepE (100 + wt)) = [] := by
      rw [List.filter_eq_nil_iff]
      intro x hx
      obtain ⟨j, _, rfl⟩ := List.mem_map.1 hx
      unfold keepE ch
      rw [hT, decide_eq_false (by dsimp only; omega)]
      simp
    rw [this, if_neg (fun h => hw h.1)]
    rfl
theorem once_L6 (sec : BitVec 64) (ks ord : List UInt8) (wt : UInt8) (n : Nat) (hn : n = min ks.length 20) :
    Ok (passkeylaw29_ChallengeOnce_L6 (ks, ord, wt, (⟨sec, n, lst ks (List.range n)⟩, ()), (List.range n).map (cbt sec ks), List.replicate n false, 0, ())) fun z => z = .inr () := by
  unfold passkeylaw29_ChallengeOnce_L6
  refine Ok.iter (fun q => ∃ (i : Nat) (used : List Bool), i ≤ 40 ∧ used.length = n ∧ q = (ks, ord, wt, (stt sec ks n used, ()), (List.range n).map (cbt sec ks), used, (i : Int), ())) (fun q => ((40 : Int) - q.2.2.2.2.2.2.1).toNat) ⟨0, List.replicate n false, by omega, by simp, ?_⟩ (by rw [rounds_eq]; dsimp only; omega) ?_
  · have : fr n (List.replicate n false) = List.range n := List.filter_eq_self.2 fun j hj => by
      rw [List.getD_eq_getElem?_getD, List.getElem?_replicate]
      split <;> rfl
    unfold stt
    rw [this]
    rfl
  rintro q ⟨i, used, hi, hul, rfl⟩
  unfold passkeylaw29_ChallengeOnce_L6b
  dsimp only
  refine Ok.cond ?_ ?_ <;> intro hc
  rotate_left
  · exact Ok.some rfl
  refine Ok.cond ?_ ?_ <;> intro hc2
  rotate_left
  · exact Ok.some rfl
  refine Ok.cond ?_ ?_ <;> intro hc3
  rotate_left
  · exact Ok.some rfl
  have hc : (i : Int) < (ord.length : Int) := of_decide_eq_true hc
  have hc2 : (i : Int) < 40 := of_decide_eq_true hc2
  have hal : ((List.range n).map (cbt sec ks)).length = n := by simp
  rw [hal] at hc3 ⊢
  have hc3 : (0 : Int) < (n : Int) := of_decide_eq_true hc3
  rw [getI_some (by omega) hc, bindS, decide_eq_false (show ¬ (n : Int) = 0 by omega)]
  generalize ati ord (i : Int) = x
  obtain ⟨k, hk, hkn⟩ : ∃ k : Nat, Int.tmod (x.toBitVec.toNat : Int) (n : Int) = (k : Int) ∧ k < n := ⟨x.toBitVec.toNat % n, rfl, Nat.mod_lt _ (by omega)⟩
  rw [hk]
  simp only [cond_false, bindS]
  generalize IntKind.wrap .i64 ((1 : Int) + ((UInt8.ofBitVec (x.toBitVec >>> 7)).toBitVec.toNat : Int)) = kind
  have hg : ((List.range n).map (cbt sec ks))[k]? = some (cbt sec ks k) := by simp [hkn]
  have hg2 : used[k]? = some (used.getD k false) := by
    rw [List.getD_eq_getElem?_getD, List.getElem?_eq_getElem (by omega)]
    rfl
  have hw : (wt.toBitVec.toNat : Int) < 256 := by
    have := wt.toBitVec.isLt
    omega
  have hks : (k : Int) < (ks.length : Int) := by omega
  rw [decide_eq_true (show (0 : Int) ≤ (k : Int) by omega), decide_eq_true (show (k : Int) < (n : Int) by omega), hul, decide_eq_true (show (k : Int) < (n : Int) by omega)]
  simp only [Bool.and_self, cond_true, Int.toNat_natCast, hg, hg2, bindS, getI_some (show (0 : Int) ≤ (k : Int) by omega) hks, (name_ok _).1]
  rw [wrap_id (n := 100 + (wt.toBitVec.toNat : Int)) (by omega) (by omega), wrap_id (n := (i : Int) + 1) (by omega) (by omega), use_lst sec ks n used (by omega) hul k hkn kind (wt.toBitVec.toNat : Int) (by omega) (by omega), bindS]
  generalize (wt.toBitVec.toNat : Int) = w at hw
  change Ok _ _
  have next : ∀ (used' : List Bool), used'.length = n → (∃ (i' : Nat) (used'' : List Bool), i' ≤ 40 ∧ used''.length = n ∧ (ks, ord, wt, (stt sec ks n used', ()), (List.range n).map (cbt sec ks), used', (i : Int) + 1, ()) = (ks, ord, wt, (stt sec ks n used'', ()), (List.range n).map (cbt sec ks), used'', (i' : Int), ())) ∧ ((40 : Int) - ((i : Int) + 1)).toNat < ((40 : Int) - (i : Int)).toNat := fun used' h1 =>
    ⟨⟨i + 1, used', by omega, h1, rfl⟩, by omega⟩
  have same : ∀ b, used.getD k false = b → used.set k b = used := fun b h => fr_same n used k b h
  cases hu : used.getD k false
  · simp only [Bool.not_false, cond_true]
    by_cases hkind : kind = kd (ati ks (k : Int))
    · have hkind' : kind = IntKind.wrap .i64 ((1 : Int) + ((UInt8.ofBitVec ((ati ks (k : Int)).toBitVec &&& (1 : UInt8).toBitVec)).toBitVec.toNat : Int)) := hkind
      rw [decide_eq_true hkind']
      simp only [cond_true]
      by_cases hw60 : w ≤ 60
      · rw [if_pos ⟨hw60, hkind, trivial⟩, decide_eq_true hw60]
        simp only [decide_true, BEq.rfl, Bool.not_true, cond_false, cond_true]
        rw [decide_eq_true (show (ch ks k).number = (k : Int) from rfl), decide_eq_true (show (ch ks k).account = nm (Int.tmod ((ati ks (k : Int)).toBitVec.toNat : Int) (3 : Int)) from rfl), show (ch ks k).bound = bd (ati ks (k : Int)) from rfl]
        unfold bd
        simp only [BEq.rfl, Bool.not_true, cond_false]
        exact Ok.some (next _ (by rw [List.length_set]; exact hul))
      · rw [if_neg (fun h => hw60 h.1), decide_eq_false hw60]
        simp only [show ((35 : Int) = 0) = False by simp, decide_false, BEq.rfl, Bool.not_true, cond_false]
        rw [same _ hu]
        exact Ok.some (next _ hul)
    · have hkind' : ¬ kind = IntKind.wrap .i64 ((1 : Int) + ((UInt8.ofBitVec ((ati ks (k : Int)).toBitVec &&& (1 : UInt8).toBitVec)).toBitVec.toNat : Int)) := hkind
      rw [decide_eq_false hkind', if_neg (fun h => hkind h.2.1)]
      simp only [show ((35 : Int) = 0) = False by simp, decide_false, BEq.rfl, Bool.not_true, cond_false]
      rw [same _ hu]
      exact Ok.some (next _ hul)
  · simp only [Bool.not_true, cond_false]
    rw [if_neg (fun h => by simp at h)]
    simp only [show ((35 : Int) = 0) = False by simp, decide_false, BEq.rfl, Bool.not_true, cond_false, cond_true]
    rw [same _ hu]
    exact Ok.some (next _ hul)
theorem ChallengeOnce_plain (a0 : BitVec 64) (a1 a2 : List UInt8) (a3 : UInt8) (hd : ChallengeOnce_dom a0 a1 a2 a3) : Ok (passkeylaw29_ChallengeOnce a0 a1 a2 a3) fun r => r.2.1 = true := by
  unfold passkeylaw29_ChallengeOnce challenge_New
  rw [bindS]
  refine Ok.bind ((once_L0 a0 a1 a2 a3 _ rfl).mono ?_)
  rintro z rfl
  simp only [Sum.elim_inr]
  refine Ok.bind ((once_L2 a1 a2 a3 _ a0 _ (by omega)).mono ?_)
  rintro z rfl
  simp only [Sum.elim_inr]
  have hn : min a1.length 20 ≤ 20 := by omega
  have hL6 := once_L6 a0 a1 a2 a3 (min a1.length 20) rfl
  generalize min a1.length 20 = n at hn hL6
  rw [show ((List.range n).map (cbt a0 a1)).length = n by simp]
  refine Ok.cond ?_ ?_ <;> intro hc
  · rw [Int.toNat_natCast]
    refine Ok.bind (hL6.mono ?_)
    rintro z rfl
    simp only [Sum.elim_inr]
    rw [awake_ok, bindS]
    exact Ok.some rfl
  · exfalso
    simp at hc
    omega
end Go.Proofs.Ytlinfghjilpcdaa

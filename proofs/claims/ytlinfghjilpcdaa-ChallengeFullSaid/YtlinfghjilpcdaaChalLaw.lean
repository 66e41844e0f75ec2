/- The law ChallengeBytes, plainly, and what the program's and the document's functions on challenges compute. -/
import Derived.Test.YtlinfghjilpcdaaFns
import Derived.Test.YtlinfghjilpcdaaTyZc
set_option linter.unusedVariables false
set_option maxRecDepth 100000
namespace Go.Proofs.Ytlinfghjilpcdaa
open Go Go.Abs
/-! ### SipHash: the program's and the document's are the same -/
def rot (x : BitVec 64) (n : Nat) : BitVec 64 := (x <<< n) ||| (x >>> (64 - n))
def sr (v : DigestState) : DigestState :=
  ⟨rot (v.v0 + v.v1) 32 + (rot v.v3 16 ^^^ (v.v2 + v.v3)), rot (rot v.v1 13 ^^^ (v.v0 + v.v1)) 17 ^^^ ((v.v2 + v.v3) + (rot v.v1 13 ^^^ (v.v0 + v.v1))), rot ((v.v2 + v.v3) + (rot v.v1 13 ^^^ (v.v0 + v.v1))) 32,
    rot (rot v.v3 16 ^^^ (v.v2 + v.v3)) 21 ^^^ (rot (v.v0 + v.v1) 32 + (rot v.v3 16 ^^^ (v.v2 + v.v3)))⟩
def toA (s : DigestState) : Arr4_BitVec64 := ⟨s.v0, s.v1, s.v2, s.v3⟩
def ofA (s : Arr4_BitVec64) : DigestState := ⟨s.a0, s.a1, s.a2, s.a3⟩
theorem rounds2 (s : DigestState) : digest_state_rounds (s, ()) 2 = some (((sr (sr s), ()), ()), ()) := by kernel_rfl
theorem rounds4 (s : DigestState) : digest_state_rounds (s, ()) 4 = some (((sr (sr (sr (sr s))), ()), ()), ()) := by kernel_rfl
theorem round_ok (s : Arr4_BitVec64) : passkeyref1_round s = some ((), toA (sr (ofA s)), ()) := by kernel_rfl
def ab (s : DigestState) (m : BitVec 64) : DigestState :=
  let t := sr (sr ⟨s.v0, s.v1, s.v2, s.v3 ^^^ m⟩)
  ⟨t.v0 ^^^ m, t.v1, t.v2, t.v3⟩
theorem absorb_ok (s : DigestState) (m : BitVec 64) : digest_state_absorb (s, ()) m = some (((ab s m, ()), ()), ()) := by
  unfold digest_state_absorb
  rw [rounds2]
  rfl
def W (c : UInt8) : BitVec 64 := BitVec.setWidth 64 c.toBitVec
def litk : List UInt8 → Nat → BitVec 64
  | [], _ => 0#64
  | c :: r, k => (W c <<< (8 * k)) ||| litk r (k + 1)

theorem little_ok (l : List UInt8) (hl : l.length < 1000000000) : digest_little l = some ((), litk l 0, ()) := by
  unfold digest_little digest_little_L0
  rw [iter_fun (fun s => s.2.1 = l ∧ s.2.2.1 = (l.length : Int) ∧ 0 ≤ s.2.2.2.1 ∧ s.2.2.2.1 ≤ (l.length : Int)) (fun s => ((l.length : Int) - s.2.2.2.1).toNat) (fun s => (s.1 ||| litk (s.2.1.drop s.2.2.2.1.toNat) s.2.2.2.1.toNat, ()))]
  · simp
  · rintro ⟨m, y1, n, i, u⟩ ⟨h1, h2, h3, h4⟩
    dsimp only at *
    subst h1; subst h2
    simp only [digest_little_L0b]
    by_cases hc : i < y1.length
    · left
      have e : y1.drop i.toNat = ati y1 i :: y1.drop (i.toNat + 1) := by
        have : i.toNat < y1.length := by omega
        rw [List.drop_eq_getElem_cons this]
        simp [ati, this]
      rw [getI_some h3 hc, wrap_id (n := 8 * i) (by omega) (by omega), wrap_id (n := i + 1) (by omega) (by omega)]
      simp only [hc, decide_true, cond_true, Option.bind_some, show (0 : Int) ≤ 8 * i by omega]
      refine ⟨_, rfl, ⟨rfl, rfl, by dsimp only; omega, by dsimp only; omega⟩, by dsimp only; omega, ?_⟩
      dsimp only
      rw [e, show (i + 1).toNat = i.toNat + 1 by omega]
      simp only [litk, W, show (8 * i).toNat = 8 * i.toNat by omega, BitVec.or_assoc]
    · right
      have : i = y1.length := by omega
      simp only [hc, decide_false, cond_false]
      simp [this, litk]
  · exact ⟨rfl, rfl, by simp, by simp⟩
  · rw [rounds_eq]; dsimp only; omega

/-! #### a block of the document's -/
def cb (d : List UInt8) (n : UInt8) (k : Nat) : UInt8 := if k < d.length then d.getD k default else if k = 7 then n else 0
def blk (d : List UInt8) (n : UInt8) : BitVec 64 :=
  W (cb d n 0) ||| (W (cb d n 1) <<< 8) ||| (W (cb d n 2) <<< 16) ||| (W (cb d n 3) <<< 24) ||| (W (cb d n 4) <<< 32) ||| (W (cb d n 5) <<< 40) ||| (W (cb d n 6) <<< 48) ||| (W (cb d n 7) <<< 56)
theorem blk_full (d : List UInt8) (n : UInt8) (h : 8 ≤ d.length) : blk d n = litk (d.take 8) 0 := by
  match d, h with
  | a0 :: a1 :: a2 :: a3 :: a4 :: a5 :: a6 :: a7 :: r, _ =>
    simp only [blk, cb, List.length_cons, List.take_succ_cons, List.take_zero, litk]
    simp [List.getD_cons_zero, List.getD_cons_succ, BitVec.or_assoc]
theorem W0 : W 0 = 0#64 := rfl
theorem blk_last (d : List UInt8) (n : UInt8) (h : d.length < 8) : blk d n = litk d 0 ||| (W n <<< 56) := by
  match d, h with
  | [], _ => simp [blk, cb, litk, W0]
  | [a0], _ => simp [blk, cb, litk, W0]
  | [a0, a1], _ => simp [blk, cb, litk, W0]
  | [a0, a1, a2], _ => simp [blk, cb, litk, W0, BitVec.or_assoc]
  | [a0, a1, a2, a3], _ => simp [blk, cb, litk, W0, BitVec.or_assoc]
  | [a0, a1, a2, a3, a4], _ => simp [blk, cb, litk, W0, BitVec.or_assoc]
  | [a0, a1, a2, a3, a4, a5], _ => simp [blk, cb, litk, W0, BitVec.or_assoc]
  | [a0, a1, a2, a3, a4, a5, a6], _ => simp [blk, cb, litk, W0, BitVec.or_assoc]
  | a0 :: a1 :: a2 :: a3 :: a4 :: a5 :: a6 :: a7 :: r, h => simp at h; omega

theorem ref_step (b : List UInt8) (v : Arr4_BitVec64) (i : Int) (m : BitVec 64) (k : Nat) (hk : k < 8) (h0 : 0 ≤ i) (hl : b.length < 1000000000) (hi : i ≤ b.length) :
    passkeyref1_Sum_L2b b (v, ()) i m k = some (.inl (b, (v, ()), i, (m <<< 8) ||| W (cb (b.drop i.toNat) (UInt8.ofBitVec (BitVec.ofInt 8 (b.length : Int))) k), (k : Int) - 1, ())) := by
  unfold passkeyref1_Sum_L2b
  rw [wrap_id (n := i + k) (by omega) (by omega), wrap_id (n := (k : Int) - 1) (by omega) (by omega)]
  simp only [show (0 : Int) ≤ (k : Int) by omega, decide_true, cond_true]
  by_cases hc : i + k < b.length
  · rw [getI_some (by omega) hc]
    simp only [hc, decide_true, cond_true, Option.bind_some, cb, List.length_drop]
    rw [if_pos (by omega)]
    have e : (List.drop i.toNat b).getD k default = ati b (i + k) := by
      unfold ati
      rw [List.getD_eq_getElem?_getD, List.getElem?_drop, List.getD_eq_getElem?_getD, show (i + (k : Int)).toNat = i.toNat + k by omega]
    rw [e]
    rfl
  · simp only [hc, decide_false, cond_false, cb, List.length_drop]
    rw [if_neg (by omega)]
    by_cases h7 : k = 7
    · subst h7
      simp
      rfl
    · have : ¬ (k : Int) = 7 := by omega
      simp only [this, h7, decide_false, cond_false, if_false]
      rfl
theorem fold8 (x0 x1 x2 x3 x4 x5 x6 x7 : BitVec 64) : (((((((((0#64 <<< 8 ||| x7) <<< 8 ||| x6) <<< 8 ||| x5) <<< 8 ||| x4) <<< 8 ||| x3) <<< 8 ||| x2) <<< 8 ||| x1) <<< 8 ||| x0)) = x0 ||| (x1 <<< 8) ||| (x2 <<< 16) ||| (x3 <<< 24) ||| (x4 <<< 32) ||| (x5 <<< 40) ||| (x6 <<< 48) ||| (x7 <<< 56) := by
  have z : 0#64 <<< 8 ||| x7 = x7 := by simp
  have L : ∀ (y x : BitVec 64) (n m : Nat), 8 + n = m → (y <<< 8 ||| x) <<< n = y <<< m ||| x <<< n := by
    intro y x n m h
    rw [BitVec.shiftLeft_or_distrib, ← BitVec.shiftLeft_add, h]
  rw [z, L _ x1 8 16 rfl, L _ x2 16 24 rfl, L _ x3 24 32 rfl, L _ x4 32 40 rfl, L _ x5 40 48 rfl, L _ x6 48 56 rfl]
  generalize x1 <<< 8 = y1, x2 <<< 16 = y2, x3 <<< 24 = y3, x4 <<< 32 = y4, x5 <<< 40 = y5, x6 <<< 48 = y6, x7 <<< 56 = y7
  ac_rfl
theorem ref_end (b : List UInt8) (v : Arr4_BitVec64) (i : Int) (m : BitVec 64) : passkeyref1_Sum_L2b b (v, ()) i m (-1) = some (.inr (b, (v, ()), i, m, ())) := rfl
theorem ref_block (b : List UInt8) (v : Arr4_BitVec64) (i : Int) (h0 : 0 ≤ i) (hl : b.length < 1000000000) (hi : i ≤ b.length) :
    passkeyref1_Sum_L2 (b, (v, ()), i, 0#64, 7, ()) = some (b, (v, ()), i, blk (b.drop i.toNat) (UInt8.ofBitVec (BitVec.ofInt 8 (b.length : Int))), ()) := by
  unfold passkeyref1_Sum_L2
  rw [show rounds = 1180591620717411303415 + 1 + 1 + 1 + 1 + 1 + 1 + 1 + 1 + 1 from rfl]
  have st := fun m k hk => ref_step b v i m k hk h0 hl hi
  rw [iter_succ]; simp only []
  rw [show (7 : Int) = ((7 : Nat) : Int) from rfl, st _ 7 (by omega), Option.bind_some, Sum.elim_inl, iter_succ]; simp only []
  rw [show ((7 : Nat) : Int) - 1 = ((6 : Nat) : Int) from rfl, st _ 6 (by omega), Option.bind_some, Sum.elim_inl, iter_succ]; simp only []
  rw [show ((6 : Nat) : Int) - 1 = ((5 : Nat) : Int) from rfl, st _ 5 (by omega), Option.bind_some, Sum.elim_inl, iter_succ]; simp only []
  rw [show ((5 : Nat) : Int) - 1 = ((4 : Nat) : Int) from rfl, st _ 4 (by omega), Option.bind_some, Sum.elim_inl, iter_succ]; simp only []
  rw [show ((4 : Nat) : Int) - 1 = ((3 : Nat) : Int) from rfl, st _ 3 (by omega), Option.bind_some, Sum.elim_inl, iter_succ]; simp only []
  rw [show ((3 : Nat) : Int) - 1 = ((2 : Nat) : Int) from rfl, st _ 2 (by omega), Option.bind_some, Sum.elim_inl, iter_succ]; simp only []
  rw [show ((2 : Nat) : Int) - 1 = ((1 : Nat) : Int) from rfl, st _ 1 (by omega), Option.bind_some, Sum.elim_inl, iter_succ]; simp only []
  rw [show ((1 : Nat) : Int) - 1 = ((0 : Nat) : Int) from rfl, st _ 0 (by omega), Option.bind_some, Sum.elim_inl, iter_succ]; simp only []
  rw [show ((0 : Nat) : Int) - 1 = -1 from rfl, ref_end, Option.bind_some, Sum.elim_inr]
  rw [fold8]
  rfl

/-! #### all blocks -/
def blocks : Nat → List UInt8 → DigestState → DigestState
  | 0, _, s => s
  | k + 1, d, s => blocks k (d.drop 8) (ab s (litk (d.take 8) 0))
def fin4 (s : DigestState) : BitVec 64 :=
  let t := sr (sr (sr (sr ⟨s.v0, s.v1, s.v2 ^^^ 255#64, s.v3⟩)))
  ((t.v0 ^^^ t.v1) ^^^ t.v2) ^^^ t.v3
def lastW (d : List UInt8) (n : Nat) : BitVec 64 := litk d 0 ||| ((BitVec.ofInt 64 (n : Int)) <<< 56)
def s0 (k0 k1 : BitVec 64) : DigestState := ⟨k0 ^^^ 8317987319222330741#64, k1 ^^^ 7237128888997146477#64, k0 ^^^ 7816392313619706465#64, k1 ^^^ 8387220255154660723#64⟩
def sip (k0 k1 : BitVec 64) (b : List UInt8) : BitVec 64 := fin4 (ab (blocks (b.length / 8) b (s0 k0 k1)) (lastW (b.drop (8 * (b.length / 8))) b.length))

theorem sum_L0 (b : List UInt8) (s : DigestState) (hl : b.length < 1000000000) (n : Int) (hn : n = (b.length / 8 : Nat)) :
    digest_Sum_L0 (b, (s, ()), n, n, 0, ()) = some (b, (blocks (b.length / 8) b s, ()), n, ()) := by
  unfold digest_Sum_L0
  rw [iter_fun (fun q => q.1 = b ∧ q.2.2.1 = n ∧ q.2.2.2.1 = n ∧ 0 ≤ q.2.2.2.2.1 ∧ q.2.2.2.2.1 ≤ n) (fun q => (n - q.2.2.2.2.1).toNat) (fun q => (q.1, (blocks (n - q.2.2.2.2.1).toNat (q.1.drop (8 * q.2.2.2.2.1.toNat)) q.2.1.1, ()), q.2.2.1, ()))]
  · show some (b, (blocks (n - 0).toNat (b.drop (8 * (0 : Int).toNat)) s, ()), n, ()) = _
    rw [show (n - 0).toNat = b.length / 8 by omega]
    rfl
  · rintro ⟨y0, ⟨s, u⟩, n1, n2, i, u2⟩ ⟨h1, h2, h3, h4, h5⟩
    dsimp only at *
    subst h1; subst h2; subst h3
    simp only [digest_Sum_L0b]
    by_cases hc : i < n2
    · left
      rw [wrap_id (n := 8 * i) (by omega) (by omega), wrap_id (n := 8 * i + 8) (by omega) (by omega), wrap_id (n := i + 1) (by omega) (by omega)]
      simp only [hc, decide_true, cond_true, Option.bind_some, show (0 : Int) ≤ 8 * i + 8 by omega, show 8 * i + 8 ≤ (y0.length : Int) by omega, show (0 : Int) ≤ 8 * i by omega, show 8 * i ≤ ((8 * i + 8).toNat : Int) by omega, Bool.and_self]
      have e : List.drop (8 * i).toNat (List.take (8 * i + 8).toNat y0) = List.take 8 (List.drop (8 * i.toNat) y0) := by
        rw [show (8 * i + 8).toNat = 8 * i.toNat + 8 by omega, show (8 * i).toNat = 8 * i.toNat by omega, List.drop_take]
        congr 1
        omega
      rw [e, little_ok _ (by simp; omega)]
      simp only [Option.bind_some, absorb_ok]
      refine ⟨_, rfl, ⟨rfl, rfl, rfl, by dsimp only; omega, by dsimp only; omega⟩, by dsimp only; omega, ?_⟩
      dsimp only
      rw [show (n2 - i).toNat = (n2 - (i + 1)).toNat + 1 by omega]
      simp only [blocks, List.drop_drop]
      rw [show 8 * (i + 1).toNat = 8 * i.toNat + 8 by omega]
    · right
      have : (n2 - i).toNat = 0 := by omega
      simp only [hc, decide_false, cond_false, this, blocks]
  · exact ⟨rfl, rfl, rfl, by simp, by dsimp only; omega⟩
  · rw [rounds_eq]; dsimp only; omega

theorem sum_ok (k0 k1 : BitVec 64) (b : List UInt8) (hl : b.length < 1000000000) : digest_Sum k0 k1 b = some ((), sip k0 k1 b, ()) := by
  unfold digest_Sum
  have hn : IntKind.wrap .i64 (Int.tdiv (b.length : Int) 8) = (b.length / 8 : Nat) := by
    have : Int.tdiv (b.length : Int) 8 = ((b.length / 8 : Nat) : Int) := rfl
    rw [this, wrap_id (by omega) (by omega)]
  rw [hn, show (⟨(k0 ^^^ 8317987319222330741#64), (k1 ^^^ 7237128888997146477#64), (k0 ^^^ 7816392313619706465#64), (k1 ^^^ 8387220255154660723#64)⟩ : DigestState) = s0 k0 k1 from rfl, sum_L0 b (s0 k0 k1) hl _ rfl]
  simp only [Option.bind_some]
  rw [wrap_id (n := 8 * ((b.length / 8 : Nat) : Int)) (by omega) (by omega)]
  simp only [show (0 : Int) ≤ 8 * ((b.length / 8 : Nat) : Int) by omega, show 8 * ((b.length / 8 : Nat) : Int) ≤ (b.length : Int) by omega, decide_true, Bool.and_self, cond_true]
  rw [show (8 * ((b.length / 8 : Nat) : Int)).toNat = 8 * (b.length / 8) by omega, little_ok _ (by simp; omega)]
  simp only [Option.bind_some]
  rw [absorb_ok]
  simp only [Option.bind_some]
  rw [rounds4]
  rfl

theorem lenByte (n : Nat) : W (UInt8.ofBitVec (BitVec.ofInt 8 (n : Int))) <<< 56 = (BitVec.ofInt 64 (n : Int)) <<< 56 := by
  simp only [W]
  apply BitVec.eq_of_getLsbD_eq
  intro i hi
  simp only [BitVec.getLsbD_shiftLeft, BitVec.getLsbD_setWidth, BitVec.ofInt_natCast, BitVec.getLsbD_ofNat]
  by_cases h : i < 56
  · simp [h]
  · have : i - 56 < 8 := by omega
    have : i - 56 < 64 := by omega
    simp [*]

theorem refsum_L0 (b : List UInt8) (s : DigestState) (hl : b.length < 1000000000) :
    passkeyref1_Sum_L0 (b, (toA s, ()), 0, ()) = some ((toA (ab (blocks (b.length / 8) b s) (lastW (b.drop (8 * (b.length / 8))) b.length)), ()), ()) := by
  unfold passkeyref1_Sum_L0
  rw [iter_fun (fun q => q.1 = b ∧ 0 ≤ q.2.2.1 ∧ q.2.2.1 ≤ (b.length : Int) + 8 ∧ q.2.2.1 % 8 = 0) (fun q => ((b.length : Int) + 9 - q.2.2.1).toNat)
    (fun q => ((if q.2.2.1 ≤ (b.length : Int) then toA (ab (blocks (((b.length : Int) - q.2.2.1).toNat / 8) (b.drop q.2.2.1.toNat) (ofA q.2.1.1)) (lastW (b.drop (8 * (b.length / 8))) b.length)) else q.2.1.1, ()), ()))]
  · simp only [show (0 : Int) ≤ (b.length : Int) by omega, if_true]
    simp only [Int.sub_zero, Int.toNat_natCast, Int.toNat_zero, List.drop_zero]
    rfl
  · rintro ⟨y0, ⟨v, u⟩, i, u2⟩ ⟨h1, h2, h3, h4⟩
    dsimp only at *
    subst h1
    simp only [passkeyref1_Sum_L0b]
    by_cases hc : i ≤ y0.length
    · left
      rw [ref_block y0 v i h2 hl hc]
      simp only [hc, decide_true, cond_true, Option.bind_some, round_ok]
      rw [wrap_id (n := i + 8) (by omega) (by omega)]
      refine ⟨_, rfl, ⟨rfl, by dsimp only; omega, by dsimp only; omega, by dsimp only; omega⟩, by dsimp only; omega, ?_⟩
      dsimp only
      rw [if_pos trivial]
      by_cases hf : 8 ≤ (y0.drop i.toNat).length
      · rw [blk_full _ _ hf]
        simp only [List.length_drop] at hf
        rw [if_pos (show i + 8 ≤ (y0.length : Int) by omega), show ((y0.length : Int) - i).toNat / 8 = ((y0.length : Int) - (i + 8)).toNat / 8 + 1 by omega]
        simp only [blocks, List.drop_drop]
        rw [show (i + 8).toNat = i.toNat + 8 by omega]
        rfl
      · have hlt : (y0.drop i.toNat).length < 8 := by omega
        rw [blk_last _ _ hlt, lenByte]
        simp only [List.length_drop] at hlt
        rw [if_neg (show ¬ i + 8 ≤ (y0.length : Int) by omega), show ((y0.length : Int) - i).toNat / 8 = 0 by omega]
        simp only [blocks]
        rw [show 8 * (y0.length / 8) = i.toNat by omega]
        rfl
    · right
      simp only [hc, decide_false, cond_false, if_false]
  · exact ⟨rfl, by simp, by dsimp only; omega, by simp⟩
  · rw [rounds_eq]; dsimp only; omega

theorem refsum_ok (k0 k1 : BitVec 64) (b : List UInt8) (hl : b.length < 1000000000) : passkeyref1_Sum k0 k1 b = some ((), sip k0 k1 b, ()) := by
  unfold passkeyref1_Sum
  rw [show (⟨(k0 ^^^ 8317987319222330741#64), (k1 ^^^ 7237128888997146477#64), (k0 ^^^ 7816392313619706465#64), (k1 ^^^ 8387220255154660723#64)⟩ : Arr4_BitVec64) = toA (s0 k0 k1) from rfl, refsum_L0 b (s0 k0 k1) hl]
  simp only [Option.bind_some, round_ok]
  rfl


def w8 (a : BitVec 64) : List UInt8 := [UInt8.ofBitVec (BitVec.setWidth 8 (a >>> 56)), UInt8.ofBitVec (BitVec.setWidth 8 (a >>> 48)), UInt8.ofBitVec (BitVec.setWidth 8 (a >>> 40)), UInt8.ofBitVec (BitVec.setWidth 8 (a >>> 32)), UInt8.ofBitVec (BitVec.setWidth 8 (a >>> 24)), UInt8.ofBitVec (BitVec.setWidth 8 (a >>> 16)), UInt8.ofBitVec (BitVec.setWidth 8 (a >>> 8)), UInt8.ofBitVec (BitVec.setWidth 8 (a >>> 0))]
theorem words2 (a b : BitVec 64) : digest_Words [a, b] = some ((), w8 a ++ w8 b, ()) := by kernel_rfl
theorem rwords2 (a b : BitVec 64) : passkeyref1_Words [a, b] = some ((), w8 a ++ w8 b, ()) := by kernel_rfl
theorem mac_ok (k : BitVec 64) (d : Int) (b : List UInt8) (hl : b.length < 1000000000) : digest_Mac k d b = some ((), sip k (1#64 + BitVec.ofInt 64 d) b, ()) := by
  unfold digest_Mac
  rw [sum_ok _ _ _ hl]
  rfl
theorem rmac_ok (k : BitVec 64) (d : Int) (b : List UInt8) (hl : b.length < 1000000000) : passkeyref1_Mac k d b = some ((), sip k (1#64 + BitVec.ofInt 64 d) b, ()) := by
  unfold passkeyref1_Mac
  rw [refsum_ok _ _ _ hl]
  rfl
theorem small1 {n : Nat} (h : n < 1000000000) : small n 1 = true := by
  unfold small
  simp only [decide_eq_true_eq]
  omega
theorem bindS {α β : Type} (a : α) (f : α → Option β) : (some a).bind f = f a := by
  cases h : f a <;> simp [h]
theorem words4 (a b c d : BitVec 64) : digest_Words [a, b, c, d] = some ((), w8 a ++ w8 b ++ w8 c ++ w8 d, ()) := by kernel_rfl
theorem rwords4 (a b c d : BitVec 64) : passkeyref1_Words [a, b, c, d] = some ((), w8 a ++ w8 b ++ w8 c ++ w8 d, ()) := by kernel_rfl
theorem w8_len (a : BitVec 64) : (w8 a).length = 8 := rfl
def bwd (x : ApiChallenge) : BitVec 64 := bif x.bound then 1#64 else 0#64
def pre4 (x : ApiChallenge) : List UInt8 := w8 (BitVec.ofInt 64 x.number) ++ w8 (BitVec.ofInt 64 x.kind) ++ w8 (bwd x) ++ w8 (BitVec.ofInt 64 x.since) ++ x.account
/-- the bytes of a challenge. -/
def chb (s : ApiChallenges) (x : ApiChallenge) : List UInt8 := w8 (BitVec.ofInt 64 x.number) ++ w8 (sip s.secret (1#64 + BitVec.ofInt 64 17) (pre4 x))
theorem chb_sec (s s' : ApiChallenges) (x : ApiChallenge) (h : s.secret = s'.secret) : chb s x = chb s' x := by
  unfold chb
  rw [h]
theorem bytes_ok (s : ApiChallenges) (x : ApiChallenge) (h : x.account.length < 100000000) : challenge_Bytes s x = some ((), chb s x, ()) := by
  unfold challenge_Bytes
  have e : (bif x.bound then (some ((s, ()), (x, ()), 1#64, ()) : Option ((ApiChallenges × Unit) × (ApiChallenge × Unit) × (BitVec 64) × Unit)) else some ((s, ()), (x, ()), 0#64, ())) = some ((s, ()), (x, ()), bwd x, ()) := by
    unfold bwd
    cases x.bound <;> rfl
  rw [e]
  simp only [bindS, words4]
  rw [small1 (by simp [w8_len]; omega), mac_ok _ _ _ (by simp [w8_len]; omega)]
  simp only [cond_true, bindS, words2]
  rfl
theorem rbytes_ok (s : ApiChallenges) (x : ApiChallenge) (h : x.account.length < 100000000) : passkeyref29_ChallengeBytes s x = some ((), chb s x, ()) := by
  unfold passkeyref29_ChallengeBytes
  have e : (bif x.bound then (some ((s, ()), (x, ()), 1#64, ()) : Option ((ApiChallenges × Unit) × (ApiChallenge × Unit) × (BitVec 64) × Unit)) else some ((s, ()), (x, ()), 0#64, ())) = some ((s, ()), (x, ()), bwd x, ()) := by
    unfold bwd
    cases x.bound <;> rfl
  rw [e]
  simp only [bindS, rwords4]
  rw [small1 (by simp [w8_len]; omega), rmac_ok _ _ _ (by simp [w8_len]; omega)]
  simp only [cond_true, bindS, rwords2]
  rfl
theorem awake_ok : passkeylaw29_awake = some ((), true, ()) := by kernel_rfl
theorem ChallengeBytes_plain (a0 : ApiChallenges) (a1 : ApiChallenge) (hd : ChallengeBytes_dom a0 a1) : Ok (passkeylaw29_ChallengeBytes a0 a1) fun r => r.2.1 = true := by
  unfold passkeylaw29_ChallengeBytes
  refine Ok.cond ?_ ?_ <;> intro hc
  · rw [awake_ok]
    exact Ok.some rfl
  · simp only [decide_eq_false_iff_not] at hc
    rw [bytes_ok _ _ (by omega), rbytes_ok _ _ (by omega)]
    simp only [bindS, decide_true, cond_true, awake_ok]
    exact Ok.some rfl

/-! ### expiring -/
theorem small48 {n : Nat} (h : n < 1000000) : small n 48 = true := by
  unfold small
  simp only [decide_eq_true_eq]
  omega
theorem small24 {n : Nat} (h : n < 1000000) : small n 24 = true := by
  unfold small
  simp only [decide_eq_true_eq]
  omega
def isT (now : Int) : Bool := decide (0 ≤ now) && decide (now ≤ 1099511627776)
theorem isTime_ok (now : Int) : challenge_isTime now = some ((), isT now, ()) := by
  unfold challenge_isTime isT
  by_cases h : 0 ≤ now <;> simp [h]
theorem isT_iff {now : Int} : isT now = true ↔ 0 ≤ now ∧ now ≤ 1099511627776 := by
  unfold isT
  simp
def keepE (now : Int) (x : ApiChallenge) : Bool := !(isT now) || decide (now - 60 ≤ x.since)
theorem filter_all {p : ApiChallenge → Bool} {l : List ApiChallenge} (h : ∀ x ∈ l, p x = true) : l.filter p = l := List.filter_eq_self.2 h
theorem drop_at0 {α : Type} [Inhabited α] {l : List α} {i : Int} (h0 : 0 ≤ i) (h : i < l.length) : l.drop i.toNat = ati l i :: l.drop (i.toNat + 1) := by
  have : i.toNat < l.length := by omega
  rw [List.drop_eq_getElem_cons this]
  simp [ati, this]
theorem ati_mem {α : Type} [Inhabited α] {l : List α} {i : Int} (h0 : 0 ≤ i) (h : i < l.length) : ati l i ∈ l := by
  have hlt : i.toNat < l.length := by omega
  unfold ati
  rw [List.getD_eq_getElem?_getD, List.getElem?_eq_getElem hlt]
  exact List.getElem_mem _
theorem exp_L0 (now : Int) (s z : ApiChallenges) (l : List ApiChallenge) (hl : l.length < 100000) : challenge_Expire_L0 (now, (s, ()), (z, ()), [], l, (l.length : Int), 0, ()) = some ((s, ()), (z, ()), l.filter (keepE now), ()) := by
  unfold challenge_Expire_L0
  rw [iter_fun (fun q => q.1 = now ∧ q.2.2.2.2.1 = l ∧ q.2.2.2.2.2.1 = (l.length : Int) ∧ 0 ≤ q.2.2.2.2.2.2.1 ∧ q.2.2.2.2.2.2.1 ≤ (l.length : Int) ∧ (q.2.2.2.1.length : Int) ≤ q.2.2.2.2.2.2.1) (fun q => ((l.length : Int) - q.2.2.2.2.2.2.1).toNat) (fun q => (q.2.1, q.2.2.1, q.2.2.2.1 ++ (l.drop q.2.2.2.2.2.2.1.toNat).filter (keepE now), ()))]
  · simp
  · rintro ⟨y0, ⟨y1, u1⟩, ⟨y2, u2⟩, y3, y4, y5, i, u⟩ ⟨h1, h2, h3, h4, h5, h6⟩
    dsimp only at *
    subst h1; subst h2; subst h3
    simp only [challenge_Expire_L0b]
    by_cases hc : i < y4.length
    · left
      have e := drop_at0 h4 hc
      rw [getI_some h4 hc, wrap_id (n := i + 1) (by omega) (by omega)]
      simp only [hc, decide_true, cond_true, bindS, isTime_ok]
      rw [small48 (by simp; omega)]
      have yes : keepE y0 (ati y4 i) = true → (y3 ++ (y4.drop i.toNat).filter (keepE y0)) = (y3 ++ [ati y4 i]) ++ (y4.drop (i + 1).toNat).filter (keepE y0) := fun hk => by
        rw [e, show (i + 1).toNat = i.toNat + 1 by omega, List.filter_cons_of_pos hk]
        simp
      cases hT : isT y0
      · simp only [Bool.not_false, cond_true]
        refine ⟨_, rfl, ⟨rfl, rfl, rfl, by dsimp only; omega, by dsimp only; omega, by simp; omega⟩, by dsimp only; omega, ?_⟩
        dsimp only
        rw [yes (by simp [keepE, hT])]
      · have hnow := isT_iff.1 hT
        rw [wrap_id (n := y0 - 60) (by omega) (by omega)]
        simp only [Bool.not_true, cond_false]
        by_cases hk : y0 - 60 ≤ (ati y4 i).since
        · simp only [hk, decide_true, cond_true]
          refine ⟨_, rfl, ⟨rfl, rfl, rfl, by dsimp only; omega, by dsimp only; omega, by simp; omega⟩, by dsimp only; omega, ?_⟩
          dsimp only
          rw [yes (by simp [keepE, hk])]
        · simp only [hk, decide_false, cond_false]
          refine ⟨_, rfl, ⟨rfl, rfl, rfl, by dsimp only; omega, by dsimp only; omega, by dsimp only; omega⟩, by dsimp only; omega, ?_⟩
          dsimp only
          rw [e, show (i + 1).toNat = i.toNat + 1 by omega, List.filter_cons_of_neg (by simp [keepE, hT, hk])]
    · right
      have : i.toNat = y4.length := by omega
      simp [hc, this]
  · exact ⟨rfl, rfl, rfl, by simp, by simp, by simp⟩
  · rw [rounds_eq]; dsimp only; omega
theorem mk_cond (n : Nat) (h : n < 100000) : (decide ((0 : Int) ≤ (0 : Int)) && (decide ((0 : Int) ≤ (n : Int)) && decide ((48 : Int) * (n : Int) ≤ 281474976710656 ∧ (n : Int) ≤ 9223372036854775807))) = true := by
  simp
  omega
theorem expire_ok (s : ApiChallenges) (now : Int) (hl : s.open_.length < 100000) : challenge_Expire s now = some ((), ((s.secret, s.count, ()), s.open_.filter (keepE now), ()), ()) := by
  unfold challenge_Expire
  rw [mk_cond _ hl]
  simp only [cond_true, List.replicate_zero]
  rw [exp_L0 _ _ _ _ hl, bindS]
theorem within_ok (a lo hi : Int) : passkeyref29_within a lo hi = some ((), decide (lo ≤ a) && decide (a ≤ hi), ()) := by
  unfold passkeyref29_within
  by_cases h : lo ≤ a <;> simp [h]
def SinceOk (s : ApiChallenges) : Prop := ∀ x ∈ s.open_, 0 ≤ x.since ∧ x.since ≤ 1099511627776
theorem rexp_L0 (now : Int) (s z : ApiChallenges) (hT : isT now = true) (hs : SinceOk s) (hl : s.open_.length < 100000) : passkeyref29_ExpireChallenges_L0 (now, (s, ()), (z, ()), [], 0, ()) = some ((s, ()), (z, ()), s.open_.filter (keepE now), ()) := by
  unfold passkeyref29_ExpireChallenges_L0
  rw [iter_fun (fun q => q.1 = now ∧ q.2.1.1 = s ∧ 0 ≤ q.2.2.2.2.1 ∧ q.2.2.2.2.1 ≤ (s.open_.length : Int) ∧ (q.2.2.2.1.length : Int) ≤ q.2.2.2.2.1) (fun q => ((s.open_.length : Int) - q.2.2.2.2.1).toNat) (fun q => (q.2.1, q.2.2.1, q.2.2.2.1 ++ (s.open_.drop q.2.2.2.2.1.toNat).filter (keepE now), ()))]
  · simp
  · rintro ⟨y0, ⟨y1, u1⟩, ⟨y2, u2⟩, y3, i, u⟩ ⟨h1, h2, h4, h5, h6⟩
    dsimp only at *
    subst h1; subst h2
    simp only [passkeyref29_ExpireChallenges_L0b]
    by_cases hc : i < y1.open_.length
    · left
      have e := drop_at0 h4 hc
      have hx := hs _ (ati_mem h4 hc)
      have hnow := isT_iff.1 hT
      rw [getI_some h4 hc, wrap_id (n := i + 1) (by omega) (by omega)]
      simp only [hc, decide_true, cond_true, bindS]
      rw [small48 (by simp; omega)]
      rw [wrap_id (n := y0 - (ati y1.open_ i).since) (by omega) (by omega)]
      by_cases hk : y0 - (ati y1.open_ i).since ≤ 60
      · simp only [hk, decide_true, cond_true]
        refine ⟨_, rfl, ⟨rfl, rfl, by dsimp only; omega, by dsimp only; omega, by simp; omega⟩, by dsimp only; omega, ?_⟩
        dsimp only
        rw [e, show (i + 1).toNat = i.toNat + 1 by omega, List.filter_cons_of_pos (by simp [keepE]; right; omega)]
        simp
      · simp only [hk, decide_false, cond_false]
        refine ⟨_, rfl, ⟨rfl, rfl, by dsimp only; omega, by dsimp only; omega, by dsimp only; omega⟩, by dsimp only; omega, ?_⟩
        dsimp only
        rw [e, show (i + 1).toNat = i.toNat + 1 by omega, List.filter_cons_of_neg (by simp [keepE, hT]; omega)]
    · right
      have : i.toNat = y1.open_.length := by omega
      simp [hc, this]
  · exact ⟨rfl, rfl, by simp, by simp, by simp⟩
  · rw [rounds_eq]; dsimp only; omega
theorem isT_eq (now : Int) : (decide ((0 : Int) ≤ now) && decide (now ≤ 1099511627776)) = isT now := rfl
theorem rexpire_ok (s : ApiChallenges) (now : Int) (hs : SinceOk s) (hl : s.open_.length < 100000) : passkeyref29_ExpireChallenges s now = some ((), ⟨s.secret, s.count, s.open_.filter (keepE now)⟩, ()) := by
  unfold passkeyref29_ExpireChallenges
  rw [within_ok, bindS, isT_eq]
  cases h : isT now
  · have : s.open_.filter (keepE now) = s.open_ := filter_all fun x _ => by unfold keepE; rw [h]; rfl
    rw [this]
    rfl
  · simp only [Bool.not_true, cond_false]
    rw [rexp_L0 _ _ _ h hs hl, bindS]

/-! ### issuing -/
theorem flen (s : ApiChallenges) (now : Int) : (s.open_.filter (keepE now)).length ≤ s.open_.length := List.length_filter_le _ _
/-- what Issue gives where nothing is wrong with its arguments. -/
def issued (s : ApiChallenges) (kind : Int) (acc : List UInt8) (bound : Bool) (now : Int) : Unit × ApiChallenges × List UInt8 × Int × Unit :=
  if 32 ≤ (s.open_.filter (keepE now)).length then ((), s, [], 12, ())
  else ((), ⟨s.secret, IntKind.wrap .i64 (s.count + 1), s.open_.filter (keepE now) ++ [⟨s.count, kind, acc, bound, now⟩]⟩, chb s ⟨s.count, kind, acc, bound, now⟩, 0, ())
theorem issue_ok (s : ApiChallenges) (kind : Int) (acc : List UInt8) (bound : Bool) (now : Int) (hT : isT now = true) (hk : kind = 1 ∨ kind = 2) (ha : acc.length ≤ 32) (hl : s.open_.length < 90000) :
    challenge_Issue s kind acc bound now = some (issued s kind acc bound now) := by
  have hlen := flen s now
  have ha2 : ¬ (32 : Int) < (acc.length : Int) := by omega
  unfold challenge_Issue issued
  rw [isTime_ok, expire_ok s now (by omega)]
  simp only [bindS, hT, Bool.not_true, cond_false, ha2, decide_false]
  generalize s.open_.filter (keepE now) = l at hlen
  have tl : (bif (decide ((32 : Int) ≤ (l.length : Int))) then (some ((), (s, [], (12 : Int), ())) : Option (Unit × (ApiChallenges × (List UInt8) × Int × Unit)))
     else ((bif small (l.length + ([(⟨s.count, kind, acc, bound, now⟩ : ApiChallenge)] : List ApiChallenge).length) 48 then (some (((⟨0#64, (0 : Int), []⟩ : ApiChallenges), ()), ((⟨s.secret, (IntKind.wrap .i64 (s.count + (1 : Int))), (l ++ [(⟨s.count, kind, acc, bound, now⟩ : ApiChallenge)])⟩ : ApiChallenges), ()), ((⟨s.count, kind, acc, bound, now⟩ : ApiChallenge), ()), ()))
       else none).bind (fun (j4 : ((ApiChallenges × Unit) × (ApiChallenges × Unit) × (ApiChallenge × Unit) × Unit)) => ((challenge_Bytes j4.2.1.1 j4.2.2.1.1).bind fun r5 => (some ((), (j4.2.1.1, r5.2.1, (0 : Int), ()))))))) =
      some (if 32 ≤ l.length then ((), s, [], 12, ()) else ((), ⟨s.secret, IntKind.wrap .i64 (s.count + 1), l ++ [⟨s.count, kind, acc, bound, now⟩]⟩, chb s ⟨s.count, kind, acc, bound, now⟩, 0, ())) := by
    by_cases h : 32 ≤ l.length
    · rw [decide_eq_true (show (32 : Int) ≤ (l.length : Int) by omega), if_pos h]
      rfl
    · rw [decide_eq_false (show ¬ (32 : Int) ≤ (l.length : Int) by omega), if_neg h, small48 (by simp; omega)]
      simp only [cond_true, cond_false, bindS]
      rw [bytes_ok _ _ (by dsimp only; omega), bindS, chb_sec (⟨s.secret, IntKind.wrap .i64 (s.count + 1), _⟩ : ApiChallenges) s _ rfl]
  rcases hk with rfl | rfl
  · simp only [decide_true, Bool.not_true, cond_false]
    exact tl
  · simp only [show ¬ (2 : Int) = 1 by omega, decide_false, decide_true, Bool.not_true, Bool.not_false, cond_false, cond_true]
    exact tl
theorem rissue_ok (s : ApiChallenges) (kind : Int) (acc : List UInt8) (bound : Bool) (now : Int) (hT : isT now = true) (hk : kind = 1 ∨ kind = 2) (ha : acc.length ≤ 32) (hs : SinceOk s) (hl : s.open_.length < 90000) :
    passkeyref29_Issue s kind acc bound now = some (issued s kind acc bound now) := by
  have hlen := flen s now
  have ha2 : ¬ (32 : Int) < (acc.length : Int) := by omega
  unfold passkeyref29_Issue issued
  rw [within_ok, rexpire_ok s now hs (by omega), isT_eq]
  simp only [bindS, hT, Bool.not_true, cond_false, ha2, decide_false]
  generalize s.open_.filter (keepE now) = l at hlen
  have tl : (bif (decide ((32 : Int) ≤ (l.length : Int))) then (some ((), (s, [], (12 : Int), ())) : Option (Unit × (ApiChallenges × (List UInt8) × Int × Unit)))
     else ((bif small l.length 48 then (bif small (l.length + ([(⟨s.count, kind, acc, bound, now⟩ : ApiChallenge)] : List ApiChallenge).length) 48 then (some (((⟨0#64, (0 : Int), []⟩ : ApiChallenges), ()), ((⟨s.secret, (IntKind.wrap .i64 (s.count + (1 : Int))), (l ++ [(⟨s.count, kind, acc, bound, now⟩ : ApiChallenge)])⟩ : ApiChallenges), ()), ((⟨s.count, kind, acc, bound, now⟩ : ApiChallenge), ()), ()))
       else none) else none).bind (fun (j4 : ((ApiChallenges × Unit) × (ApiChallenges × Unit) × (ApiChallenge × Unit) × Unit)) => ((passkeyref29_ChallengeBytes j4.2.1.1 j4.2.2.1.1).bind fun r5 => (some ((), (j4.2.1.1, r5.2.1, (0 : Int), ()))))))) =
      some (if 32 ≤ l.length then ((), s, [], 12, ()) else ((), ⟨s.secret, IntKind.wrap .i64 (s.count + 1), l ++ [⟨s.count, kind, acc, bound, now⟩]⟩, chb s ⟨s.count, kind, acc, bound, now⟩, 0, ())) := by
    by_cases h : 32 ≤ l.length
    · rw [decide_eq_true (show (32 : Int) ≤ (l.length : Int) by omega), if_pos h]
      rfl
    · rw [decide_eq_false (show ¬ (32 : Int) ≤ (l.length : Int) by omega), if_neg h, small48 (n := l.length + _) (by simp; omega), small48 (n := l.length) (by omega)]
      simp only [cond_true, cond_false, bindS]
      rw [rbytes_ok _ _ (by dsimp only; omega), bindS, chb_sec (⟨s.secret, IntKind.wrap .i64 (s.count + 1), _⟩ : ApiChallenges) s _ rfl]
  rcases hk with rfl | rfl
  · simp only [decide_true, Bool.not_true, cond_false]
    exact tl
  · simp only [show ¬ (2 : Int) = 1 by omega, decide_false, decide_true, Bool.not_true, Bool.not_false, cond_false, cond_true]
    exact tl
/-- what Issue gives where something is wrong with its arguments. -/
theorem issue_bad (s : ApiChallenges) (kind : Int) (acc : List UInt8) (bound : Bool) (now : Int) (h : ¬ (isT now = true ∧ (kind = 1 ∨ kind = 2) ∧ acc.length ≤ 32)) :
    ∃ e, challenge_Issue s kind acc bound now = some ((), s, [], e, ()) ∧ passkeyref29_Issue s kind acc bound now = some ((), s, [], e, ()) := by
  unfold challenge_Issue passkeyref29_Issue
  rw [within_ok, isTime_ok, isT_eq]
  simp only [bindS]
  cases hT : isT now
  · exact ⟨_, rfl, rfl⟩
  · simp only [Bool.not_true, cond_false]
    by_cases h1 : kind = 1
    · have : (32 : Int) < (acc.length : Int) := by
        have : ¬ acc.length ≤ 32 := fun q => h ⟨hT, .inl h1, q⟩
        omega
      simp only [h1, this, decide_true, Bool.not_true, cond_false, cond_true]
      exact ⟨_, rfl, rfl⟩
    · by_cases h2 : kind = 2
      · have : (32 : Int) < (acc.length : Int) := by
          have : ¬ acc.length ≤ 32 := fun q => h ⟨hT, .inr h2, q⟩
          omega
        simp only [h2, this, show ¬ (2 : Int) = 1 by omega, decide_true, decide_false, Bool.not_true, Bool.not_false, cond_false, cond_true]
        exact ⟨_, rfl, rfl⟩
      · simp only [h1, h2, decide_false, Bool.not_false, cond_true]
        exact ⟨_, rfl, rfl⟩

/-! ### using -/
def zc : ApiChallenge := ⟨0, 0, [], false, 0⟩
def pU (s : ApiChallenges) (b : List UInt8) (kind : Int) (x : ApiChallenge) : Bool := decide (x.kind = kind) && decide (chb s x = b)
abbrev UseX := (((BitVec 64) × Int × (List (ApiChallenge)) × Unit) × (ApiChallenge × Unit) × Int × Unit) ⊕ ((ApiChallenges × Unit) × (ApiChallenges × Unit) × (ApiChallenge × Unit) × Unit)
def outU (l : List ApiChallenge) (sec : BitVec 64) (cnt : Int) (a z : ApiChallenges) (zz : ApiChallenge) (i : Nat) : Option Nat → UseX
  | some k => .inl ((sec, cnt, l.take (i + k) ++ l.drop (i + k + 1), ()), (ati l ((i + k : Nat) : Int), ()), 0, ())
  | none => .inr ((a, ()), (z, ()), (zz, ()), ())
theorem outU_next (l : List ApiChallenge) (sec : BitVec 64) (cnt : Int) (a z : ApiChallenges) (zz : ApiChallenge) (p : ApiChallenge → Bool) {i : Int} (h0 : 0 ≤ i) (h : i < l.length) (hp : p (ati l i) = false) :
    outU l sec cnt a z zz i.toNat ((l.drop i.toNat).findIdx? p) = outU l sec cnt a z zz (i + 1).toNat ((l.drop (i + 1).toNat).findIdx? p) := by
  rw [drop_at0 h0 h, List.findIdx?_cons, hp, show (i + 1).toNat = i.toNat + 1 by omega]
  simp only [Bool.false_eq_true, if_false]
  cases (l.drop (i.toNat + 1)).findIdx? p with
  | none => rfl
  | some k =>
    show outU l sec cnt a z zz i.toNat (some (k + 1)) = outU l sec cnt a z zz (i.toNat + 1) (some k)
    simp only [outU]
    rw [show i.toNat + (k + 1) = i.toNat + 1 + k by omega]
theorem outU_here (l : List ApiChallenge) (sec : BitVec 64) (cnt : Int) (a z : ApiChallenges) (zz : ApiChallenge) (p : ApiChallenge → Bool) {i : Int} (h0 : 0 ≤ i) (h : i < l.length) (hp : p (ati l i) = true) :
    outU l sec cnt a z zz i.toNat ((l.drop i.toNat).findIdx? p) = .inl ((sec, cnt, l.take i.toNat ++ l.drop (i.toNat + 1), ()), (ati l i, ()), 0, ()) := by
  rw [drop_at0 h0 h, List.findIdx?_cons, hp]
  simp only [if_true, outU]
  rw [Nat.add_zero, show ((i.toNat : Nat) : Int) = i by omega]
theorem use_L0 (b : List UInt8) (kind : Int) (a z : ApiChallenges) (zz : ApiChallenge) (sec : BitVec 64) (cnt : Int) (l : List ApiChallenge) (hl : l.length < 100000) (ha : ∀ x ∈ l, x.account.length < 100000000) :
    challenge_Use_L0 (b, kind, (a, ()), (z, ()), (zz, ()), (sec, cnt, l, ()), (l.length : Int), 0, ()) = some (outU l sec cnt a z zz 0 (l.findIdx? (pU ⟨sec, cnt, l⟩ b kind))) := by
  unfold challenge_Use_L0
  rw [iter_fun (fun q => q.1 = b ∧ q.2.1 = kind ∧ q.2.2.1.1 = a ∧ q.2.2.2.1.1 = z ∧ q.2.2.2.2.1.1 = zz ∧ q.2.2.2.2.2.1 = (sec, cnt, l, ()) ∧ q.2.2.2.2.2.2.1 = (l.length : Int) ∧ 0 ≤ q.2.2.2.2.2.2.2.1 ∧ q.2.2.2.2.2.2.2.1 ≤ (l.length : Int)) (fun q => ((l.length : Int) - q.2.2.2.2.2.2.2.1).toNat)
    (fun q => outU l sec cnt a z zz q.2.2.2.2.2.2.2.1.toNat ((l.drop q.2.2.2.2.2.2.2.1.toNat).findIdx? (pU ⟨sec, cnt, l⟩ b kind)))]
  · simp
  · rintro ⟨y0, y1, ⟨y2, u2⟩, ⟨y3, u3⟩, ⟨y4, u4⟩, y5, y6, i, u⟩ ⟨h1, h2, h3, h4, h5, h6, h7, h8, h9⟩
    dsimp only at *
    subst h1; subst h2; subst h3; subst h4; subst h5; subst h6; subst h7
    simp only [challenge_Use_L0b]
    by_cases hc : i < l.length
    · have hlt : i.toNat < l.length := by omega
      have hm := ati_mem h8 hc
      have hg : l[i.toNat]? = some (ati l i) := by
        rw [List.getElem?_eq_getElem hlt]
        simp [ati, hlt]
      rw [wrap_id (n := i + 1) (by omega) (by omega)]
      simp only [hc, h8, decide_true, cond_true, Bool.and_self, hg, bindS, bytes_ok _ _ (ha _ hm), bytes_Equal]
      by_cases hk : (ati l i).kind = y1
      · by_cases hb : chb ⟨sec, cnt, l⟩ (ati l i) = y0
        · right
          rw [outU_here _ _ _ _ _ _ _ h8 hc (by simp [pU, hk, hb])]
          have e1 : List.take (l.length - (i + 1).toNat) (List.drop (i + 1).toNat l) = List.drop (i.toNat + 1) l := by
            rw [show (i + 1).toNat = i.toNat + 1 by omega]
            exact List.take_of_length_le (by simp)
          rw [e1]
          simp only [hk, hb, decide_true, cond_true, show i ≤ (l.length : Int) by omega, show (0 : Int) ≤ i + 1 by omega, show i + 1 ≤ (l.length : Int) by omega, show l.length - (i + 1).toNat + (i + 1).toNat ≤ l.length by omega, show i.toNat ≤ l.length by omega, Bool.and_self, Bool.true_and]
          rw [small48 (by simp; omega)]
          rfl
        · left
          simp only [hk, hb, decide_true, decide_false, cond_true, cond_false]
          refine ⟨_, rfl, ⟨rfl, rfl, rfl, rfl, rfl, rfl, rfl, by dsimp only; omega, by dsimp only; omega⟩, by dsimp only; omega, ?_⟩
          exact outU_next _ _ _ _ _ _ _ h8 hc (by simp [pU, hb])
      · left
        simp only [hk, decide_false, cond_false]
        refine ⟨_, rfl, ⟨rfl, rfl, rfl, rfl, rfl, rfl, rfl, by dsimp only; omega, by dsimp only; omega⟩, by dsimp only; omega, ?_⟩
        exact outU_next _ _ _ _ _ _ _ h8 hc (by simp [pU, hk])
    · right
      have : i.toNat = l.length := by omega
      simp only [hc, decide_false, cond_false, this, List.drop_length]
      rfl
  · exact ⟨rfl, rfl, rfl, rfl, rfl, rfl, rfl, by simp, by simp⟩
  · rw [rounds_eq]; dsimp only; omega
theorem ruse_L0 (b : List UInt8) (kind : Int) (a z : ApiChallenges) (zz : ApiChallenge) (t : ApiChallenges) (hl : t.open_.length < 100000) (ha : ∀ x ∈ t.open_, x.account.length < 100000000) :
    passkeyref29_UseChallenge_L0 (b, kind, (a, ()), (z, ()), (zz, ()), (t, ()), 0, ()) = some (outU t.open_ t.secret t.count a z zz 0 (t.open_.findIdx? (pU t b kind))) := by
  unfold passkeyref29_UseChallenge_L0
  rw [iter_fun (fun q => q.1 = b ∧ q.2.1 = kind ∧ q.2.2.1.1 = a ∧ q.2.2.2.1.1 = z ∧ q.2.2.2.2.1.1 = zz ∧ q.2.2.2.2.2.1.1 = t ∧ 0 ≤ q.2.2.2.2.2.2.1 ∧ q.2.2.2.2.2.2.1 ≤ (t.open_.length : Int)) (fun q => ((t.open_.length : Int) - q.2.2.2.2.2.2.1).toNat)
    (fun q => outU t.open_ t.secret t.count a z zz q.2.2.2.2.2.2.1.toNat ((t.open_.drop q.2.2.2.2.2.2.1.toNat).findIdx? (pU t b kind)))]
  · simp
  · rintro ⟨y0, y1, ⟨y2, u2⟩, ⟨y3, u3⟩, ⟨y4, u4⟩, ⟨y5, u5⟩, i, u⟩ ⟨h1, h2, h3, h4, h5, h6, h8, h9⟩
    dsimp only at *
    subst h1; subst h2; subst h3; subst h4; subst h5; subst h6
    simp only [passkeyref29_UseChallenge_L0b]
    by_cases hc : i < y5.open_.length
    · have hlt : i.toNat < y5.open_.length := by omega
      have hm := ati_mem h8 hc
      rw [wrap_id (n := i + 1) (by omega) (by omega), getI_some h8 hc]
      simp only [hc, decide_true, cond_true, bindS, rbytes_ok _ _ (ha _ hm)]
      by_cases hk : (ati y5.open_ i).kind = y1
      · by_cases hb : chb y5 (ati y5.open_ i) = y0
        · right
          rw [outU_here _ _ _ _ _ _ _ h8 hc (by simp [pU, hk, hb])]
          rw [show (i + 1).toNat = i.toNat + 1 by omega, small48 (n := (List.take i.toNat y5.open_).length) (by simp; omega), small48 (by simp; omega)]
          simp only [hk, hb, h8, decide_true, cond_true, show i ≤ (y5.open_.length : Int) by omega, show (0 : Int) ≤ i + 1 by omega, show i + 1 ≤ (y5.open_.length : Int) by omega, Bool.and_self]
        · left
          simp only [hk, hb, decide_true, decide_false, cond_true, cond_false]
          refine ⟨_, rfl, ⟨rfl, rfl, rfl, rfl, rfl, rfl, by dsimp only; omega, by dsimp only; omega⟩, by dsimp only; omega, ?_⟩
          exact outU_next _ _ _ _ _ _ _ h8 hc (by simp [pU, hb])
      · left
        simp only [hk, decide_false, cond_false]
        refine ⟨_, rfl, ⟨rfl, rfl, rfl, rfl, rfl, rfl, by dsimp only; omega, by dsimp only; omega⟩, by dsimp only; omega, ?_⟩
        exact outU_next _ _ _ _ _ _ _ h8 hc (by simp [pU, hk])
    · right
      have : i.toNat = y5.open_.length := by omega
      simp only [hc, decide_false, cond_false, this, List.drop_length]
      rfl
  · exact ⟨rfl, rfl, rfl, rfl, rfl, rfl, by simp, by simp⟩
  · rw [rounds_eq]; dsimp only; omega
/-- what Use gives at a time. -/
def usedR (s : ApiChallenges) (l : List ApiChallenge) : Option Nat → Unit × ApiChallenges × ApiChallenge × Int × Unit
  | some k => ((), ⟨s.secret, s.count, l.take k ++ l.drop (k + 1)⟩, ati l (k : Int), 0, ())
  | none => ((), s, zc, 35, ())
theorem pU_sec (s : ApiChallenges) (l : List ApiChallenge) (b : List UInt8) (kind : Int) : pU ⟨s.secret, s.count, l⟩ b kind = pU s b kind := by
  funext x
  unfold pU
  rw [chb_sec (⟨s.secret, s.count, l⟩ : ApiChallenges) s x rfl]
theorem use_ok (s : ApiChallenges) (b : List UInt8) (kind now : Int) (hT : isT now = true) (hl : s.open_.length < 90000) (ha : ∀ x ∈ s.open_, x.account.length < 100000000) :
    challenge_Use s b kind now = some (usedR s (s.open_.filter (keepE now)) ((s.open_.filter (keepE now)).findIdx? (pU s b kind))) := by
  have hlen := flen s now
  unfold challenge_Use
  rw [isTime_ok, expire_ok s now (by omega)]
  simp only [bindS, hT, Bool.not_true, cond_false]
  rw [use_L0 _ _ _ _ _ _ _ _ (by omega) (fun x hx => ha x (List.mem_filter.1 hx).1), bindS, pU_sec]
  cases (s.open_.filter (keepE now)).findIdx? (pU s b kind) with
  | none => rfl
  | some k => simp only [outU, usedR, Sum.elim_inl, Nat.zero_add]
theorem ruse_ok (s : ApiChallenges) (b : List UInt8) (kind now : Int) (hT : isT now = true) (hs : SinceOk s) (hl : s.open_.length < 90000) (ha : ∀ x ∈ s.open_, x.account.length < 100000000) :
    passkeyref29_UseChallenge s b kind now = some (usedR s (s.open_.filter (keepE now)) ((s.open_.filter (keepE now)).findIdx? (pU s b kind))) := by
  have hlen := flen s now
  unfold passkeyref29_UseChallenge
  rw [within_ok, isT_eq, rexpire_ok s now hs (by omega)]
  simp only [bindS, hT, Bool.not_true, cond_false]
  rw [ruse_L0 _ _ _ _ _ _ (by dsimp only; omega) (fun x hx => ha x (List.mem_filter.1 hx).1), bindS, pU_sec]
  dsimp only
  cases (s.open_.filter (keepE now)).findIdx? (pU s b kind) with
  | none => rfl
  | some k => simp only [outU, usedR, Sum.elim_inl, Nat.zero_add]
theorem use_bad (s : ApiChallenges) (b : List UInt8) (kind now : Int) (hT : isT now = false) : challenge_Use s b kind now = some ((), s, zc, 9, ()) ∧ passkeyref29_UseChallenge s b kind now = some ((), s, zc, 9, ()) := by
  unfold challenge_Use passkeyref29_UseChallenge
  rw [within_ok, isTime_ok, isT_eq, hT]
  exact ⟨rfl, rfl⟩
theorem same_ok (s : ApiChallenges) (hl : s.open_.length < 100000) : passkeyref29_SameChallenges s s = some ((), true, ()) := by
  unfold passkeyref29_SameChallenges
  simp only [decide_true, Bool.not_true, cond_false]
  have : passkeyref29_SameChallenges_L0 ((s, ()), (s, ()), 0, ()) = some (.inr ()) := by
    unfold passkeyref29_SameChallenges_L0
    rw [iter_fun (fun q => q.1.1 = s ∧ q.2.1.1 = s ∧ 0 ≤ q.2.2.1 ∧ q.2.2.1 ≤ (s.open_.length : Int)) (fun q => ((s.open_.length : Int) - q.2.2.1).toNat) (fun _ => .inr ())]
    · rintro ⟨⟨y0, u0⟩, ⟨y1, u1⟩, i, u⟩ ⟨h1, h2, h3, h4⟩
      dsimp only at *
      subst h1; subst h2
      simp only [passkeyref29_SameChallenges_L0b]
      by_cases hc : i < y1.open_.length
      · left
        rw [getI_some h3 hc, wrap_id (n := i + 1) (by omega) (by omega)]
        simp only [hc, decide_true, cond_true, bindS, BEq.rfl, Bool.and_self, Bool.not_true, cond_false]
        exact ⟨_, rfl, ⟨rfl, rfl, by dsimp only; omega, by dsimp only; omega⟩, by dsimp only; omega, trivial⟩
      · right
        simp [hc]
    · exact ⟨rfl, rfl, by simp, by simp⟩
    · rw [rounds_eq]; dsimp only; omega
  rw [this, bindS]
  rfl
theorem drop_at {α : Type} [Inhabited α] {l : List α} {i : Int} (h0 : 0 ≤ i) (h : i < l.length) : l.drop i.toNat = ati l i :: l.drop (i.toNat + 1) := by
  have : i.toNat < l.length := by omega
  rw [List.drop_eq_getElem_cons this]
  simp [ati, this]
/-! ### decks -/
def DkOk (d : PasskeycastDeck) : Prop := 0 ≤ d.at_ ∧ d.at_ ≤ d.l.length ∧ (d.l.length : Int) < 9223372036854775808
theorem mod_ok (v n : Int) (h1 : 0 < n) (h2 : n < 9223372036854775808) : ∃ r, passkeycast_Mod v n = some ((), r, ()) ∧ 0 ≤ r ∧ r < n := by
  unfold passkeycast_Mod
  have e : (BitVec.ofInt 64 n).toNat = n.toNat := by simp [BitVec.toNat_ofInt]; omega
  have h0 : ¬ BitVec.ofInt 64 n = 0 := by
    intro h
    have := congrArg BitVec.toNat h
    rw [e] at this
    simp at this
    omega
  simp only [h0, decide_false, cond_false]
  have hlt : ((BitVec.ofInt 64 v) % (BitVec.ofInt 64 n)).toNat < n.toNat := by
    rw [BitVec.toNat_umod, e]
    exact Nat.mod_lt _ (by omega)
  generalize ((BitVec.ofInt 64 v) % (BitVec.ofInt 64 n)).toNat = q at hlt
  exact ⟨_, rfl, by rw [wrap_id (by omega) (by omega)]; omega, by rw [wrap_id (by omega) (by omega)]; omega⟩
theorem next_ok (d : PasskeycastDeck) (n : Int) (hd : DkOk d) (h1 : 0 < n) (h2 : n < 9223372036854775808) :
    ∃ d' r, passkeycast_Deck_Next (d, ()) n = some (((d', ()), ()), r, ()) ∧ 0 ≤ r ∧ r < n ∧ DkOk d' := by
  unfold passkeycast_Deck_Next
  obtain ⟨h3, h4, h5⟩ := hd
  by_cases h : (d.l.length : Int) ≤ d.at_
  · simp only [h, decide_true, cond_true]
    exact ⟨d, 0, rfl, by omega, by omega, ⟨h3, h4, h5⟩⟩
  · simp only [h, decide_false, cond_false]
    rw [wrap_id (n := d.at_ + 1) (by omega) (by omega), wrap_id (by omega) (by omega), show d.at_ + 1 - 1 = d.at_ by omega, getI_some h3 (by omega)]
    obtain ⟨r, hr, hr1, hr2⟩ := mod_ok (ati d.l d.at_) n h1 h2
    simp only [Option.bind_some, hr]
    exact ⟨_, r, rfl, hr1, hr2, ⟨by show 0 ≤ d.at_ + 1; omega, by show d.at_ + 1 ≤ (d.l.length : Int); omega, h5⟩⟩
theorem Ok.next {β : Type} {d : PasskeycastDeck} {n : Int} {f : (((PasskeycastDeck × Unit) × Unit) × (Int × Unit)) → Option β} {Q : β → Prop} (h1 : 0 < n) (h2 : n < 9223372036854775808) (hd : DkOk d)
    (h : ∀ d' r, DkOk d' → 0 ≤ r → r < n → Ok (f (((d', ()), ()), r, ())) Q) : Ok ((passkeycast_Deck_Next (d, ()) n).bind f) Q := by
  obtain ⟨d', r, e, h3, h4, h5⟩ := next_ok d n hd h1 h2
  rw [e, bindS]
  exact h d' r h5 h3 h4
theorem Ok.name {β : Type} {n : Int} {f : (Unit × (List UInt8 × Unit)) → Option β} {Q : β → Prop}
    (h : ∀ b : List UInt8, b.length ≤ 100 → Ok (f ((), b, ())) Q) : Ok ((passkeycast_Name n).bind f) Q := by
  have key : Ok (passkeycast_Name n) fun r => r.2.1.length ≤ 100 := by
    unfold passkeycast_Name
    obtain ⟨r, e, h1, h2⟩ := mod_ok n 5 (by omega) (by omega)
    rw [e, bindS]
    dsimp only
    obtain ⟨k, rfl⟩ : ∃ k : Nat, r = k := ⟨r.toNat, by omega⟩
    rw [decide_eq_true h1, decide_eq_true h2]
    have hk : k < 5 := by omega
    simp only [Bool.and_self, cond_true, Int.toNat_natCast]
    match k, hk with
    | 0, _ => exact Ok.some (by simp)
    | 1, _ => exact Ok.some (by simp)
    | 2, _ => exact Ok.some (by simp)
    | 3, _ => exact Ok.some (by simp)
    | 4, _ => exact Ok.some (by simp)
  obtain ⟨⟨u, b, u'⟩, e, hb⟩ := key
  rw [e, bindS]
  exact h b hb
end Go.Proofs.Ytlinfghjilpcdaa

/- SipHash of program and document. No condition. -/
import Derived.Test.YteenkpgjcbhonaaGreatDoorFns
import Derived.Test.YteenkpgjcbhonaaGreatDoorLib8
set_option linter.unusedVariables false
set_option linter.unusedSimpArgs false
set_option maxRecDepth 100000
namespace Go.Proofs.YteenkpgjcbhonaaGreatDoor
open Go Go.Abs
namespace Sip
def rot (x : BitVec 64) (n : Nat) : BitVec 64 := (x <<< n) ||| (x >>> (64 - n))
def sr (v : DigestState) : DigestState :=
  ⟨rot (v.v0 + v.v1) 32 + (rot v.v3 16 ^^^ (v.v2 + v.v3)), rot (rot v.v1 13 ^^^ (v.v0 + v.v1)) 17 ^^^ ((v.v2 + v.v3) + (rot v.v1 13 ^^^ (v.v0 + v.v1))), rot ((v.v2 + v.v3) + (rot v.v1 13 ^^^ (v.v0 + v.v1))) 32,
    rot (rot v.v3 16 ^^^ (v.v2 + v.v3)) 21 ^^^ (rot (v.v0 + v.v1) 32 + (rot v.v3 16 ^^^ (v.v2 + v.v3)))⟩
def toA (s : DigestState) : Arr4_BitVec64 := ⟨s.v0, s.v1, s.v2, s.v3⟩
def ofA (s : Arr4_BitVec64) : DigestState := ⟨s.a0, s.a1, s.a2, s.a3⟩
theorem rounds2 (s : DigestState) : digest_state_rounds (s, ()) 2 = some (((sr (sr s), ()), ()), ()) := by kernel_rfl
theorem rounds4 (s : DigestState) : digest_state_rounds (s, ()) 4 = some (((sr (sr (sr (sr s))), ()), ()), ()) := by kernel_rfl
theorem round_ok (s : Arr4_BitVec64) : passkeyref1_round s = some ((), toA (sr (ofA s)), ()) := by kernel_rfl
def ab (s : DigestState) (m : BitVec 64) : DigestState :=
  let t := sr (sr ⟨s.v0, s.v1, s.v2, s.v3 ^^^ m⟩)
  ⟨t.v0 ^^^ m, t.v1, t.v2, t.v3⟩
theorem absorb_ok (s : DigestState) (m : BitVec 64) : digest_state_absorb (s, ()) m = some (((ab s m, ()), ()), ()) := by
  unfold digest_state_absorb
  rw [rounds2]
  rfl
theorem words1 (a : BitVec 64) : ∃ l, digest_Words [a] = some ((), l, ()) ∧ passkeyref1_Words [a] = some ((), l, ()) ∧ l.length = 8 :=
  ⟨_, (by kernel_rfl : digest_Words [a] = some ((), [UInt8.ofBitVec (BitVec.setWidth 8 (a >>> 56)), UInt8.ofBitVec (BitVec.setWidth 8 (a >>> 48)), UInt8.ofBitVec (BitVec.setWidth 8 (a >>> 40)), UInt8.ofBitVec (BitVec.setWidth 8 (a >>> 32)), UInt8.ofBitVec (BitVec.setWidth 8 (a >>> 24)), UInt8.ofBitVec (BitVec.setWidth 8 (a >>> 16)), UInt8.ofBitVec (BitVec.setWidth 8 (a >>> 8)), UInt8.ofBitVec (BitVec.setWidth 8 (a >>> 0))], ())), by kernel_rfl, rfl⟩

def W (c : UInt8) : BitVec 64 := BitVec.setWidth 64 c.toBitVec
def litk : List UInt8 → Nat → BitVec 64
  | [], _ => 0#64
  | c :: r, k => (W c <<< (8 * k)) ||| litk r (k + 1)

theorem little_ok (l : List UInt8) (hl : l.length < 1000000000) : digest_little l = some ((), litk l 0, ()) := by
  unfold digest_little digest_little_L0
  rw [iter_fun (fun s => s.2.1 = l ∧ s.2.2.1 = (l.length : Int) ∧ 0 ≤ s.2.2.2.1 ∧ s.2.2.2.1 ≤ (l.length : Int)) (fun s => ((l.length : Int) - s.2.2.2.1).toNat) (fun s => (s.1 ||| litk (s.2.1.drop s.2.2.2.1.toNat) s.2.2.2.1.toNat, ()))]
  · simp
  · rintro ⟨m, y1, n, i, u⟩ ⟨h1, h2, h3, h4⟩
    dsimp only at *
    subst h1; subst h2
    simp only [digest_little_L0b]
    by_cases hc : i < y1.length
    · left
      have e : y1.drop i.toNat = ati y1 i :: y1.drop (i.toNat + 1) := by
        have : i.toNat < y1.length := by omega
        rw [List.drop_eq_getElem_cons this]
        simp [ati, this]
      rw [getI_some h3 hc, wrap_id (n := 8 * i) (by omega) (by omega), wrap_id (n := i + 1) (by omega) (by omega)]
      simp only [hc, decide_true, cond_true, Option.bind_some, show (0 : Int) ≤ 8 * i by omega]
      refine ⟨_, rfl, ⟨rfl, rfl, by dsimp only; omega, by dsimp only; omega⟩, by dsimp only; omega, ?_⟩
      dsimp only
      rw [e, show (i + 1).toNat = i.toNat + 1 by omega]
      simp only [litk, W, show (8 * i).toNat = 8 * i.toNat by omega, BitVec.or_assoc]
    · right
      have : i = y1.length := by omega
      simp only [hc, decide_false, cond_false]
      simp [this, litk]
  · exact ⟨rfl, rfl, by simp, by simp⟩
  · rw [rounds_eq]; dsimp only; omega

/-! #### a block of the document's -/
def cb (d : List UInt8) (n : UInt8) (k : Nat) : UInt8 := if k < d.length then d.getD k default else if k = 7 then n else 0
def blk (d : List UInt8) (n : UInt8) : BitVec 64 :=
  W (cb d n 0) ||| (W (cb d n 1) <<< 8) ||| (W (cb d n 2) <<< 16) ||| (W (cb d n 3) <<< 24) ||| (W (cb d n 4) <<< 32) ||| (W (cb d n 5) <<< 40) ||| (W (cb d n 6) <<< 48) ||| (W (cb d n 7) <<< 56)
theorem blk_full (d : List UInt8) (n : UInt8) (h : 8 ≤ d.length) : blk d n = litk (d.take 8) 0 := by
  match d, h with
  | a0 :: a1 :: a2 :: a3 :: a4 :: a5 :: a6 :: a7 :: r, _ =>
    simp only [blk, cb, List.length_cons, List.take_succ_cons, List.take_zero, litk]
    simp [List.getD_cons_zero, List.getD_cons_succ, BitVec.or_assoc]
theorem W0 : W 0 = 0#64 := rfl
theorem blk_last (d : List UInt8) (n : UInt8) (h : d.length < 8) : blk d n = litk d 0 ||| (W n <<< 56) := by
  match d, h with
  | [], _ => simp [blk, cb, litk, W0]
  | [a0], _ => simp [blk, cb, litk, W0]
  | [a0, a1], _ => simp [blk, cb, litk, W0]
  | [a0, a1, a2], _ => simp [blk, cb, litk, W0, BitVec.or_assoc]
  | [a0, a1, a2, a3], _ => simp [blk, cb, litk, W0, BitVec.or_assoc]
  | [a0, a1, a2, a3, a4], _ => simp [blk, cb, litk, W0, BitVec.or_assoc]
  | [a0, a1, a2, a3, a4, a5], _ => simp [blk, cb, litk, W0, BitVec.or_assoc]
  | [a0, a1, a2, a3, a4, a5, a6], _ => simp [blk, cb, litk, W0, BitVec.or_assoc]
  | a0 :: a1 :: a2 :: a3 :: a4 :: a5 :: a6 :: a7 :: r, h => simp at h; omega

theorem ref_step (b : List UInt8) (v : Arr4_BitVec64) (i : Int) (m : BitVec 64) (k : Nat) (hk : k < 8) (h0 : 0 ≤ i) (hl : b.length < 1000000000) (hi : i ≤ b.length) :
    passkeyref1_Sum_L2b b (v, ()) i m k = some (.inl (b, (v, ()), i, (m <<< 8) ||| W (cb (b.drop i.toNat) (UInt8.ofBitVec (BitVec.ofInt 8 (b.length : Int))) k), (k : Int) - 1, ())) := by
  unfold passkeyref1_Sum_L2b
  rw [wrap_id (n := i + k) (by omega) (by omega), wrap_id (n := (k : Int) - 1) (by omega) (by omega)]
  simp only [show (0 : Int) ≤ (k : Int) by omega, decide_true, cond_true]
  by_cases hc : i + k < b.length
  · rw [getI_some (by omega) hc]
    simp only [hc, decide_true, cond_true, Option.bind_some, cb, List.length_drop]
    rw [if_pos (by omega)]
    have e : (List.drop i.toNat b).getD k default = ati b (i + k) := by
      unfold ati
      rw [List.getD_eq_getElem?_getD, List.getElem?_drop, List.getD_eq_getElem?_getD, show (i + (k : Int)).toNat = i.toNat + k by omega]
    rw [e]
    rfl
  · simp only [hc, decide_false, cond_false, cb, List.length_drop]
    rw [if_neg (by omega)]
    by_cases h7 : k = 7
    · subst h7
      simp
      rfl
    · have : ¬ (k : Int) = 7 := by omega
      simp only [this, h7, decide_false, cond_false, if_false]
      rfl
theorem fold8 (x0 x1 x2 x3 x4 x5 x6 x7 : BitVec 64) : (((((((((0#64 <<< 8 ||| x7) <<< 8 ||| x6) <<< 8 ||| x5) <<< 8 ||| x4) <<< 8 ||| x3) <<< 8 ||| x2) <<< 8 ||| x1) <<< 8 ||| x0)) = x0 ||| (x1 <<< 8) ||| (x2 <<< 16) ||| (x3 <<< 24) ||| (x4 <<< 32) ||| (x5 <<< 40) ||| (x6 <<< 48) ||| (x7 <<< 56) := by
  have z : 0#64 <<< 8 ||| x7 = x7 := by simp
  have L : ∀ (y x : BitVec 64) (n m : Nat), 8 + n = m → (y <<< 8 ||| x) <<< n = y <<< m ||| x <<< n := by
    intro y x n m h
    rw [BitVec.shiftLeft_or_distrib, ← BitVec.shiftLeft_add, h]
  rw [z, L _ x1 8 16 rfl, L _ x2 16 24 rfl, L _ x3 24 32 rfl, L _ x4 32 40 rfl, L _ x5 40 48 rfl, L _ x6 48 56 rfl]
  generalize x1 <<< 8 = y1, x2 <<< 16 = y2, x3 <<< 24 = y3, x4 <<< 32 = y4, x5 <<< 40 = y5, x6 <<< 48 = y6, x7 <<< 56 = y7
  ac_rfl
theorem ref_end (b : List UInt8) (v : Arr4_BitVec64) (i : Int) (m : BitVec 64) : passkeyref1_Sum_L2b b (v, ()) i m (-1) = some (.inr (b, (v, ()), i, m, ())) := rfl
theorem ref_block (b : List UInt8) (v : Arr4_BitVec64) (i : Int) (h0 : 0 ≤ i) (hl : b.length < 1000000000) (hi : i ≤ b.length) :
    passkeyref1_Sum_L2 (b, (v, ()), i, 0#64, 7, ()) = some (b, (v, ()), i, blk (b.drop i.toNat) (UInt8.ofBitVec (BitVec.ofInt 8 (b.length : Int))), ()) := by
  unfold passkeyref1_Sum_L2
  rw [show rounds = 1180591620717411303415 + 1 + 1 + 1 + 1 + 1 + 1 + 1 + 1 + 1 from rfl]
  have st := fun m k hk => ref_step b v i m k hk h0 hl hi
  rw [iter_succ]; simp only []
  rw [show (7 : Int) = ((7 : Nat) : Int) from rfl, st _ 7 (by omega), Option.bind_some, Sum.elim_inl, iter_succ]; simp only []
  rw [show ((7 : Nat) : Int) - 1 = ((6 : Nat) : Int) from rfl, st _ 6 (by omega), Option.bind_some, Sum.elim_inl, iter_succ]; simp only []
  rw [show ((6 : Nat) : Int) - 1 = ((5 : Nat) : Int) from rfl, st _ 5 (by omega), Option.bind_some, Sum.elim_inl, iter_succ]; simp only []
  rw [show ((5 : Nat) : Int) - 1 = ((4 : Nat) : Int) from rfl, st _ 4 (by omega), Option.bind_some, Sum.elim_inl, iter_succ]; simp only []
  rw [show ((4 : Nat) : Int) - 1 = ((3 : Nat) : Int) from rfl, st _ 3 (by omega), Option.bind_some, Sum.elim_inl, iter_succ]; simp only []
  rw [show ((3 : Nat) : Int) - 1 = ((2 : Nat) : Int) from rfl, st _ 2 (by omega), Option.bind_some, Sum.elim_inl, iter_succ]; simp only []
  rw [show ((2 : Nat) : Int) - 1 = ((1 : Nat) : Int) from rfl, st _ 1 (by omega), Option.bind_some, Sum.elim_inl, iter_succ]; simp only []
  rw [show ((1 : Nat) : Int) - 1 = ((0 : Nat) : Int) from rfl, st _ 0 (by omega), Option.bind_some, Sum.elim_inl, iter_succ]; simp only []
  rw [show ((0 : Nat) : Int) - 1 = -1 from rfl, ref_end, Option.bind_some, Sum.elim_inr]
  rw [fold8]
  rfl

/-! #### all blocks -/
def blocks : Nat → List UInt8 → DigestState → DigestState
  | 0, _, s => s
  | k + 1, d, s => blocks k (d.drop 8) (ab s (litk (d.take 8) 0))
def fin4 (s : DigestState) : BitVec 64 :=
  let t := sr (sr (sr (sr ⟨s.v0, s.v1, s.v2 ^^^ 255#64, s.v3⟩)))
  ((t.v0 ^^^ t.v1) ^^^ t.v2) ^^^ t.v3
def lastW (d : List UInt8) (n : Nat) : BitVec 64 := litk d 0 ||| ((BitVec.ofInt 64 (n : Int)) <<< 56)
def s0 (k0 k1 : BitVec 64) : DigestState := ⟨k0 ^^^ 8317987319222330741#64, k1 ^^^ 7237128888997146477#64, k0 ^^^ 7816392313619706465#64, k1 ^^^ 8387220255154660723#64⟩
def sip (k0 k1 : BitVec 64) (b : List UInt8) : BitVec 64 := fin4 (ab (blocks (b.length / 8) b (s0 k0 k1)) (lastW (b.drop (8 * (b.length / 8))) b.length))

theorem sum_L0 (b : List UInt8) (s : DigestState) (hl : b.length < 1000000000) (n : Int) (hn : n = (b.length / 8 : Nat)) :
    digest_Sum_L0 (b, (s, ()), n, n, 0, ()) = some (b, (blocks (b.length / 8) b s, ()), n, ()) := by
  unfold digest_Sum_L0
  rw [iter_fun (fun q => q.1 = b ∧ q.2.2.1 = n ∧ q.2.2.2.1 = n ∧ 0 ≤ q.2.2.2.2.1 ∧ q.2.2.2.2.1 ≤ n) (fun q => (n - q.2.2.2.2.1).toNat) (fun q => (q.1, (blocks (n - q.2.2.2.2.1).toNat (q.1.drop (8 * q.2.2.2.2.1.toNat)) q.2.1.1, ()), q.2.2.1, ()))]
  · show some (b, (blocks (n - 0).toNat (b.drop (8 * (0 : Int).toNat)) s, ()), n, ()) = _
    rw [show (n - 0).toNat = b.length / 8 by omega]
    rfl
  · rintro ⟨y0, ⟨s, u⟩, n1, n2, i, u2⟩ ⟨h1, h2, h3, h4, h5⟩
    dsimp only at *
    subst h1; subst h2; subst h3
    simp only [digest_Sum_L0b]
    by_cases hc : i < n2
    · left
      rw [wrap_id (n := 8 * i) (by omega) (by omega), wrap_id (n := 8 * i + 8) (by omega) (by omega), wrap_id (n := i + 1) (by omega) (by omega)]
      simp only [hc, decide_true, cond_true, Option.bind_some, show (0 : Int) ≤ 8 * i + 8 by omega, show 8 * i + 8 ≤ (y0.length : Int) by omega, show (0 : Int) ≤ 8 * i by omega, show 8 * i ≤ ((8 * i + 8).toNat : Int) by omega, Bool.and_self]
      have e : List.drop (8 * i).toNat (List.take (8 * i + 8).toNat y0) = List.take 8 (List.drop (8 * i.toNat) y0) := by
        rw [show (8 * i + 8).toNat = 8 * i.toNat + 8 by omega, show (8 * i).toNat = 8 * i.toNat by omega, List.drop_take]
        congr 1
        omega
      rw [e, little_ok _ (by simp; omega)]
      simp only [Option.bind_some, absorb_ok]
      refine ⟨_, rfl, ⟨rfl, rfl, rfl, by dsimp only; omega, by dsimp only; omega⟩, by dsimp only; omega, ?_⟩
      dsimp only
      rw [show (n2 - i).toNat = (n2 - (i + 1)).toNat + 1 by omega]
      simp only [blocks, List.drop_drop]
      rw [show 8 * (i + 1).toNat = 8 * i.toNat + 8 by omega]
    · right
      have : (n2 - i).toNat = 0 := by omega
      simp only [hc, decide_false, cond_false, this, blocks]
  · exact ⟨rfl, rfl, rfl, by simp, by dsimp only; omega⟩
  · rw [rounds_eq]; dsimp only; omega

theorem sum_ok (k0 k1 : BitVec 64) (b : List UInt8) (hl : b.length < 1000000000) : digest_Sum k0 k1 b = some ((), sip k0 k1 b, ()) := by
  unfold digest_Sum
  have hn : IntKind.wrap .i64 (Int.tdiv (b.length : Int) 8) = (b.length / 8 : Nat) := by
    have : Int.tdiv (b.length : Int) 8 = ((b.length / 8 : Nat) : Int) := rfl
    rw [this, wrap_id (by omega) (by omega)]
  rw [hn, show (⟨(k0 ^^^ 8317987319222330741#64), (k1 ^^^ 7237128888997146477#64), (k0 ^^^ 7816392313619706465#64), (k1 ^^^ 8387220255154660723#64)⟩ : DigestState) = s0 k0 k1 from rfl, sum_L0 b (s0 k0 k1) hl _ rfl]
  simp only [Option.bind_some]
  rw [wrap_id (n := 8 * ((b.length / 8 : Nat) : Int)) (by omega) (by omega)]
  simp only [show (0 : Int) ≤ 8 * ((b.length / 8 : Nat) : Int) by omega, show 8 * ((b.length / 8 : Nat) : Int) ≤ (b.length : Int) by omega, decide_true, Bool.and_self, cond_true]
  rw [show (8 * ((b.length / 8 : Nat) : Int)).toNat = 8 * (b.length / 8) by omega, little_ok _ (by simp; omega)]
  simp only [Option.bind_some]
  rw [absorb_ok]
  simp only [Option.bind_some]
  rw [rounds4]
  rfl

theorem lenByte (n : Nat) : W (UInt8.ofBitVec (BitVec.ofInt 8 (n : Int))) <<< 56 = (BitVec.ofInt 64 (n : Int)) <<< 56 := by
  simp only [W]
  apply BitVec.eq_of_getLsbD_eq
  intro i hi
  simp only [BitVec.getLsbD_shiftLeft, BitVec.getLsbD_setWidth, BitVec.ofInt_natCast, BitVec.getLsbD_ofNat]
  by_cases h : i < 56
  · simp [h]
  · have : i - 56 < 8 := by omega
    have : i - 56 < 64 := by omega
    simp [*]

theorem refsum_L0 (b : List UInt8) (s : DigestState) (hl : b.length < 1000000000) :
    passkeyref1_Sum_L0 (b, (toA s, ()), 0, ()) = some ((toA (ab (blocks (b.length / 8) b s) (lastW (b.drop (8 * (b.length / 8))) b.length)), ()), ()) := by
  unfold passkeyref1_Sum_L0
  rw [iter_fun (fun q => q.1 = b ∧ 0 ≤ q.2.2.1 ∧ q.2.2.1 ≤ (b.length : Int) + 8 ∧ q.2.2.1 % 8 = 0) (fun q => ((b.length : Int) + 9 - q.2.2.1).toNat)
    (fun q => ((if q.2.2.1 ≤ (b.length : Int) then toA (ab (blocks (((b.length : Int) - q.2.2.1).toNat / 8) (b.drop q.2.2.1.toNat) (ofA q.2.1.1)) (lastW (b.drop (8 * (b.length / 8))) b.length)) else q.2.1.1, ()), ()))]
  · simp only [show (0 : Int) ≤ (b.length : Int) by omega, if_true]
    simp only [Int.sub_zero, Int.toNat_natCast, Int.toNat_zero, List.drop_zero]
    rfl
  · rintro ⟨y0, ⟨v, u⟩, i, u2⟩ ⟨h1, h2, h3, h4⟩
    dsimp only at *
    subst h1
    simp only [passkeyref1_Sum_L0b]
    by_cases hc : i ≤ y0.length
    · left
      rw [ref_block y0 v i h2 hl hc]
      simp only [hc, decide_true, cond_true, Option.bind_some, round_ok]
      rw [wrap_id (n := i + 8) (by omega) (by omega)]
      refine ⟨_, rfl, ⟨rfl, by dsimp only; omega, by dsimp only; omega, by dsimp only; omega⟩, by dsimp only; omega, ?_⟩
      dsimp only
      rw [if_pos trivial]
      by_cases hf : 8 ≤ (y0.drop i.toNat).length
      · rw [blk_full _ _ hf]
        simp only [List.length_drop] at hf
        rw [if_pos (show i + 8 ≤ (y0.length : Int) by omega), show ((y0.length : Int) - i).toNat / 8 = ((y0.length : Int) - (i + 8)).toNat / 8 + 1 by omega]
        simp only [blocks, List.drop_drop]
        rw [show (i + 8).toNat = i.toNat + 8 by omega]
        rfl
      · have hlt : (y0.drop i.toNat).length < 8 := by omega
        rw [blk_last _ _ hlt, lenByte]
        simp only [List.length_drop] at hlt
        rw [if_neg (show ¬ i + 8 ≤ (y0.length : Int) by omega), show ((y0.length : Int) - i).toNat / 8 = 0 by omega]
        simp only [blocks]
        rw [show 8 * (y0.length / 8) = i.toNat by omega]
        rfl
    · right
      simp only [hc, decide_false, cond_false, if_false]
  · exact ⟨rfl, by simp, by dsimp only; omega, by simp⟩
  · rw [rounds_eq]; dsimp only; omega

theorem refsum_ok (k0 k1 : BitVec 64) (b : List UInt8) (hl : b.length < 1000000000) : passkeyref1_Sum k0 k1 b = some ((), sip k0 k1 b, ()) := by
  unfold passkeyref1_Sum
  rw [show (⟨(k0 ^^^ 8317987319222330741#64), (k1 ^^^ 7237128888997146477#64), (k0 ^^^ 7816392313619706465#64), (k1 ^^^ 8387220255154660723#64)⟩ : Arr4_BitVec64) = toA (s0 k0 k1) from rfl, refsum_L0 b (s0 k0 k1) hl]
  simp only [Option.bind_some, round_ok]
  rfl

end Sip
end Go.Proofs.YteenkpgjcbhonaaGreatDoor

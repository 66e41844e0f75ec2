/- Arithmetic and comparisons on typed abstract values are followed by those on what they denote. No condition. -/
import Derived.Test.YtlinfghjilpcdaaTyB
namespace Go.Abs
open Go
set_option linter.unusedSimpArgs false
theorem wrapU (k : IntKind) (h : k.signed = false) (n : Int) : k.wrap n = n % 2 ^ k.bits := by
  cases k <;> first | (simp [IntKind.signed] at h; done) | simp [IntKind.wrap, IntKind.bits, IntKind.signed]
theorem wrapN (k : IntKind) (h : k.signed = false) (n : Nat) : k.wrap n = ((n % 2 ^ k.bits : Nat) : Int) := by
  rw [wrapU k h]; simp
theorem wrap_bv (k : IntKind) (h : k.signed = false) (z : BitVec k.bits) : k.wrap z.toNat = z.toNat := by
  rw [wrapN k h, Nat.mod_eq_of_lt z.isLt]
theorem ofInt_bv {w : Nat} (z : BitVec w) : BitVec.ofInt w (z.toNat : Int) = z := by simp
theorem bv_eq {w : Nat} (a b : BitVec w) : ((a.toNat : Int) == (b.toNat : Int)) = decide (a = b) := by
  rw [Bool.eq_iff_iff]
  simp
  constructor
  · intro h; exact BitVec.eq_of_toNat_eq (by omega)
  · intro h; rw [h]

theorem bv_ok {R : Type} (k : IntKind) (hk : k.signed = false) {w : Nat} (hkw : k.bits = w) (op : BinOp) (a b : BitVec w) {K : BitVec w → Option R} {Q : Bool → Option R} {r : R} (h : bvK op a b K Q = some r) :
    (∃ z, intBin op k a.toNat k b.toNat = some (.int k z.toNat) ∧ K z = some r) ∨ (∃ q, intBin op k a.toNat k b.toNat = some (.bool q) ∧ Q q = some r) := by
  subst hkw
  have hw := wrap_bv k hk
  cases op <;> simp only [bvK] at h <;> try (cases h; done)
  case add =>
    refine .inl ⟨_, ?_, h⟩
    simp only [intBin]
    rw [if_neg (by simp)]
    rw [BitVec.toNat_add, ← wrapN k hk]; simp
  case sub =>
    refine .inl ⟨_, ?_, h⟩
    simp only [intBin]
    rw [if_neg (by simp)]
    rw [BitVec.toNat_sub, ← wrapN k hk]
    congr 2
    rw [wrapU k hk, wrapU k hk]
    have hb := b.isLt
    have : ((2 ^ k.bits - b.toNat + a.toNat : Nat) : Int) = (a.toNat : Int) - b.toNat + 2 ^ k.bits := by
      rw [Int.natCast_add, Int.natCast_sub (Nat.le_of_lt hb)]; simp; omega
    rw [this]; simp
  case mul =>
    refine .inl ⟨_, ?_, h⟩
    simp only [intBin]
    rw [if_neg (by simp)]
    rw [BitVec.toNat_mul, ← wrapN k hk]; simp
  case quo =>
    cases hb : decide (b = 0) <;> simp only [hb, cond_true, cond_false] at h
    · refine .inl ⟨_, ?_, h⟩
      have hb : b ≠ 0 := by simpa using hb
      have hb' : ¬ ((b.toNat : Int) = 0) := fun e => hb (BitVec.eq_of_toNat_eq (by simpa using e))
      simp only [intBin]
      rw [if_neg (by simp), if_neg hb']
      have : (a.toNat : Int).tdiv b.toNat = ((a / b).toNat : Int) := by rw [Int.tdiv_eq_ediv_of_nonneg (by omega)]; simp
      rw [this, hw]
    · cases h
  case rem =>
    cases hb : decide (b = 0) <;> simp only [hb, cond_true, cond_false] at h
    · refine .inl ⟨_, ?_, h⟩
      have hb : b ≠ 0 := by simpa using hb
      have hb' : ¬ ((b.toNat : Int) = 0) := fun e => hb (BitVec.eq_of_toNat_eq (by simpa using e))
      simp only [intBin]
      rw [if_neg (by simp), if_neg hb']
      have : (a.toNat : Int).tmod b.toNat = ((a % b).toNat : Int) := by rw [Int.tmod_eq_emod_of_nonneg (by omega)]; simp
      rw [this]
    · cases h
  case and => refine .inl ⟨_, ?_, h⟩; simp only [intBin]; rw [if_neg (by simp), ofInt_bv, ofInt_bv, hw]
  case or => refine .inl ⟨_, ?_, h⟩; simp only [intBin]; rw [if_neg (by simp), ofInt_bv, ofInt_bv, hw]
  case xor => refine .inl ⟨_, ?_, h⟩; simp only [intBin]; rw [if_neg (by simp), ofInt_bv, ofInt_bv, hw]
  case andNot => refine .inl ⟨_, ?_, h⟩; simp only [intBin]; rw [if_neg (by simp), ofInt_bv, ofInt_bv, hw]
  case eql => refine .inr ⟨_, ?_, h⟩; simp only [intBin]; rw [if_neg (by simp), bv_eq]
  case neq => refine .inr ⟨_, ?_, h⟩; simp only [intBin]; rw [if_neg (by simp)]; simp only [bne, bv_eq]
  case lss => refine .inr ⟨_, ?_, h⟩; simp only [intBin]; rw [if_neg (by simp)]; simp
  case leq => refine .inr ⟨_, ?_, h⟩; simp only [intBin]; rw [if_neg (by simp)]; simp
  case gtr => refine .inr ⟨_, ?_, h⟩; simp only [intBin]; rw [if_neg (by simp)]; simp
  case geq => refine .inr ⟨_, ?_, h⟩; simp only [intBin]; rw [if_neg (by simp)]; simp

section
variable {T : Nat → Type} {R : Type} {C : Cd T} {L : Nat → Nat → Nat} {P : Program} {Y : Nat → Option TI}

theorem ex_of {o : Option D} {K : DT T → Option R} {d : DT T} {r : R} (h : K d = some r) (ha : o = some (den C d)) (hw : WfD L d) : ∃ d : DT T, o = some (den C d) ∧ WfD L d ∧ K d = some r := ⟨d, ha, hw, h⟩
theorem cntK_ok {y : DT T} {K : Nat → Option R} {r : R} (h : cntK y K = some r) : ∃ (kd : IntKind) (n : Nat), den C y = .int kd n ∧ K n = some r := by
  unfold cntK at h
  split at h
  · rename_i k n
    cases hn : decide (0 ≤ n) <;> simp only [hn, cond_true, cond_false] at h
    · cases h
    · have hn : 0 ≤ n := by simpa using hn
      exact ⟨k, n.toNat, by simp only [den]; congr 1; omega, h⟩
  · exact ⟨_, _, rfl, h⟩
  · exact ⟨_, _, rfl, h⟩
  · exact ⟨_, _, rfl, h⟩
  · exact ⟨_, _, rfl, h⟩
  · cases h

theorem shl_bv (k : IntKind) (hk : k.signed = false) (x : BitVec k.bits) (n : Nat) : k.wrap ((x.toNat : Int) * 2 ^ (min n k.bits)) = ((x <<< n).toNat : Int) := by
  have e : (x.toNat : Int) * 2 ^ (min n k.bits) = ((x.toNat * 2 ^ (min n k.bits) : Nat) : Int) := by simp
  rw [e, wrapN k hk, BitVec.toNat_shiftLeft, Nat.shiftLeft_eq]
  congr 1
  rcases Nat.le_total n k.bits with h | h
  · rw [Nat.min_eq_left h]
  · rw [Nat.min_eq_right h]
    have : 2 ^ n = 2 ^ k.bits * 2 ^ (n - k.bits) := by rw [← Nat.pow_add]; congr 1; omega
    rw [this, Nat.mul_mod_left, ← Nat.mul_assoc, Nat.mul_right_comm, Nat.mul_mod_left]
theorem shr_bv (k : IntKind) (x : BitVec k.bits) (n : Nat) : (x.toNat : Int).fdiv (2 ^ (min n k.bits)) = ((x >>> n).toNat : Int) := by
  rw [Int.fdiv_eq_ediv_of_nonneg _ (by exact Int.le_of_lt (Int.pow_pos (by decide)))]
  rw [BitVec.toNat_ushiftRight, Nat.shiftRight_eq_div_pow]
  have : (2 : Int) ^ (min n k.bits) = ((2 ^ (min n k.bits) : Nat) : Int) := by simp
  rw [this]
  have : (x.toNat : Int) / ((2 ^ (min n k.bits) : Nat) : Int) = ((x.toNat / 2 ^ (min n k.bits) : Nat) : Int) := by simp
  rw [this]
  congr 1
  rcases Nat.le_total n k.bits with h | h
  · rw [Nat.min_eq_left h]
  · rw [Nat.min_eq_right h]
    have hx := x.isLt
    rw [Nat.div_eq_of_lt hx, Nat.div_eq_of_lt (Nat.lt_of_lt_of_le hx (Nat.pow_le_pow_right (by decide) h))]

theorem ib_shl (k kd : IntKind) (a : Int) (n : Nat) : intBin .shl k a kd n = some (.int k (k.wrap (a * 2 ^ (min n k.bits)))) := by
  simp only [intBin]; rw [if_neg (by omega)]; simp
theorem ib_shr (k kd : IntKind) (a : Int) (n : Nat) : intBin .shr k a kd n = some (.int k (a.fdiv (2 ^ (min n k.bits)))) := by
  simp only [intBin]; rw [if_neg (by omega)]; simp

theorem shlK_ok {x : DT T} {n : Nat} {K : DT T → Option R} {r : R} (kd : IntKind) (t : Nat) (h : shlK x n K = some r) : ∃ d : DT T, binD P .shl t (den C x) (.int kd n) = some (den C d) ∧ WfD L d ∧ K d = some r := by
  unfold shlK at h
  split at h
  · exact ex_of h (by simp only [den, binD, ib_shl]) trivial
  · rename_i x
    refine ⟨.u8 (UInt8.ofBitVec (x.toBitVec <<< n)), ?_, trivial, h⟩
    simp only [den, binD, ib_shl]
    exact congrArg (fun z => some (D.int .u8 z)) (shl_bv .u8 rfl x.toBitVec n)
  · rename_i x; exact ⟨.u16 (x <<< n), by simp only [den, binD, ib_shl]; exact congrArg (fun z => some (D.int .u16 z)) (shl_bv .u16 rfl x n), trivial, h⟩
  · rename_i x; exact ⟨.u32 (x <<< n), by simp only [den, binD, ib_shl]; exact congrArg (fun z => some (D.int .u32 z)) (shl_bv .u32 rfl x n), trivial, h⟩
  · rename_i x; exact ⟨.u64 (x <<< n), by simp only [den, binD, ib_shl]; exact congrArg (fun z => some (D.int .u64 z)) (shl_bv .u64 rfl x n), trivial, h⟩
  · cases h
theorem shrK_ok {x : DT T} {n : Nat} {K : DT T → Option R} {r : R} (kd : IntKind) (t : Nat) (h : shrK x n K = some r) : ∃ d : DT T, binD P .shr t (den C x) (.int kd n) = some (den C d) ∧ WfD L d ∧ K d = some r := by
  unfold shrK at h
  split at h
  · exact ex_of h (by simp only [den, binD, ib_shr]) trivial
  · rename_i x
    refine ⟨.u8 (UInt8.ofBitVec (x.toBitVec >>> n)), ?_, trivial, h⟩
    simp only [den, binD, ib_shr]
    exact congrArg (fun z => some (D.int .u8 z)) (shr_bv .u8 x.toBitVec n)
  · rename_i x; exact ⟨.u16 (x >>> n), by simp only [den, binD, ib_shr]; exact congrArg (fun z => some (D.int .u16 z)) (shr_bv .u16 x n), trivial, h⟩
  · rename_i x; exact ⟨.u32 (x >>> n), by simp only [den, binD, ib_shr]; exact congrArg (fun z => some (D.int .u32 z)) (shr_bv .u32 x n), trivial, h⟩
  · rename_i x; exact ⟨.u64 (x >>> n), by simp only [den, binD, ib_shr]; exact congrArg (fun z => some (D.int .u64 z)) (shr_bv .u64 x n), trivial, h⟩
  · cases h

theorem intK_ok {op : BinOp} {k k' : IntKind} {a b : Int} {K : DT T → Option R} {r : R} (hs1 : op ≠ .shl) (hs2 : op ≠ .shr) (h : intK op k a k' b K = some r) : ∃ d : DT T, intBin op k a k' b = some (den C d) ∧ WfD L d ∧ K d = some r := by
  unfold intK at h
  split at h
  · cases h
  · rename_i hk
    have hk : k = k' := by simpa using hk
    subst hk
    cases op <;> simp only [] at h <;> try (cases h; done)
    case quo =>
      cases hb : decide (b = 0) <;> simp only [hb, cond_true, cond_false] at h
      · exact ex_of h (by simp only [intBin]; rw [if_neg (by simp), if_neg (by simpa using hb)]; rfl) trivial
      · cases h
    case rem =>
      cases hb : decide (b = 0) <;> simp only [hb, cond_true, cond_false] at h
      · exact ex_of h (by simp only [intBin]; rw [if_neg (by simp), if_neg (by simpa using hb)]; rfl) trivial
      · cases h
    case neq => exact ex_of h (by simp only [intBin]; rw [if_neg (by simp)]; rfl) trivial
    all_goals exact ex_of h (by simp only [intBin]; rw [if_neg (by simp)]; rfl) trivial

theorem beq_dec {α : Type} [DecidableEq α] (a b : α) : (a == b) = decide (a = b) := by
  rw [Bool.eq_iff_iff]; simp
theorem beq_decS (a b : List UInt8) : (a == b) = decide (a = b) := by
  rw [Bool.eq_iff_iff]; simp

theorem strK_ok {op : BinOp} {a b : List UInt8} {K : DT T → Option R} {r : R} (h : strK op a b K = some r) : ∃ d : DT T, strBin op a b = some (den C d) ∧ WfD L d ∧ K d = some r := by
  unfold strK at h
  cases op <;> simp only [] at h <;> try (cases h; done)
  case add =>
    have hbe : Nat.ble (a.length + b.length) 9223372036854775807 = decide (((a.length + b.length : Nat) : Int) ≤ IntKind.i64.max) := by
      rw [Bool.eq_iff_iff, Nat.ble_eq, decide_eq_true_eq]
      simp only [IntKind.max, IntKind.signed, IntKind.bits]
      simp
      omega
    rw [hbe] at h
    cases hb : decide (((a.length + b.length : Nat) : Int) ≤ IntKind.i64.max) <;> simp only [hb, cond_true, cond_false] at h
    · cases h
    · exact ex_of h (by simp only [strBin]; rw [if_neg (by have := of_decide_eq_true hb; omega)]; rfl) trivial
  all_goals exact ex_of h (by simp only [strBin, beq_decS]; rfl) trivial

theorem u8_beq (a b : UInt8) : ((a.toNat : Int) == (b.toNat : Int)) = decide (a = b) := by
  rw [Bool.eq_iff_iff]
  simp
  constructor
  · intro h; exact UInt8.toNat_inj.1 (by omega)
  · intro h; rw [h]

theorem eqCT_ok : ∀ {q : List Nat} {xs ys : List (DT T)} {p : Bool}, eqCT q xs ys = some p → eqCells q (denL C xs) (denL C ys) = some p
  | [], [], [], p, h => by simpa [eqCT, eqCells, denL] using h
  | [], [], _ :: _, p, h => by simp [eqCT] at h
  | [], _ :: _, [], p, h => by simp [eqCT] at h
  | [], _ :: _, _ :: _, p, h => by simp [eqCT] at h
  | _ :: _, [], [], p, h => by simp [eqCT] at h
  | _ :: _, [], _ :: _, p, h => by simp [eqCT] at h
  | _ :: _, _ :: _, [], p, h => by simp [eqCT] at h
  | q :: qs, x :: xs, y :: ys, p, h => by
    simp only [eqCT] at h
    split at h
    case h_2 => cases h
    rename_i p1 h1
    split at h
    case h_2 => cases h
    rename_i p2 h2
    simp only [Option.some.injEq] at h; subst h
    have ih := eqCT_ok h2
    unfold eqC1 at h1
    split at h1
    · split at h1
      · rename_i k a k' b _ hk
        have hk : k = k' := by simpa using hk
        simp only [Option.some.injEq] at h1; subst h1
        simp [denL, den, eqCells, hk, ih, beq_dec]
      · cases h1
    · simp only [Option.some.injEq] at h1; subst h1
      simp only [denL, den, eqCells, if_true, ih, Option.map_some, u8_beq]
    · simp only [Option.some.injEq] at h1; subst h1
      simp only [denL, den, eqCells, if_true, ih, Option.map_some, bv_eq]
    · simp only [Option.some.injEq] at h1; subst h1
      simp only [denL, den, eqCells, if_true, ih, Option.map_some, bv_eq]
    · simp only [Option.some.injEq] at h1; subst h1
      simp only [denL, den, eqCells, if_true, ih, Option.map_some, bv_eq]
    · simp only [Option.some.injEq] at h1; subst h1
      simp only [denL, den, eqCells, ih, Option.map_some]
    · simp only [Option.some.injEq] at h1; subst h1
      simp only [denL, den, eqCells, ih, Option.map_some, beq_decS]
    · cases h1

theorem binK_ok (hY : TysOk P Y) {op : BinOp} {t : Nat} {x y : DT T} {K : DT T → Option R} {r : R} (h : binK Y op t x y K = some r) : ∃ d : DT T, binD P op t (den C x) (den C y) = some (den C d) ∧ WfD L d ∧ K d = some r := by
  unfold binK at h
  split at h
  · obtain ⟨kd, n, h1, h2⟩ := cntK_ok (C := C) h
    rw [h1]; exact shlK_ok kd t h2
  · obtain ⟨kd, n, h1, h2⟩ := cntK_ok (C := C) h
    rw [h1]; exact shrK_ok kd t h2
  · rename_i hs1 hs2
    split at h
    · split at h
      · simp only [den, binD]; exact intK_ok (C := C) (fun e => hs1 e) (fun e => hs2 e) h
      · cases h
    · rename_i a; split at h
      · rename_i b
        simp only [den, binD]
        rcases bv_ok .u8 rfl (w := 8) rfl op a.toBitVec b.toBitVec h with ⟨z, h1, h2⟩ | ⟨q, h1, h2⟩
        · exact ex_of h2 h1 trivial
        · exact ex_of h2 h1 trivial
      · cases h
    · rename_i a; split at h
      · rename_i b
        simp only [den, binD]
        rcases bv_ok .u16 rfl (w := 16) rfl op a b h with ⟨z, h1, h2⟩ | ⟨q, h1, h2⟩
        · exact ex_of h2 h1 trivial
        · exact ex_of h2 h1 trivial
      · cases h
    · rename_i a; split at h
      · rename_i b
        simp only [den, binD]
        rcases bv_ok .u32 rfl (w := 32) rfl op a b h with ⟨z, h1, h2⟩ | ⟨q, h1, h2⟩
        · exact ex_of h2 h1 trivial
        · exact ex_of h2 h1 trivial
      · cases h
    · rename_i a; split at h
      · rename_i b
        simp only [den, binD]
        rcases bv_ok .u64 rfl (w := 64) rfl op a b h with ⟨z, h1, h2⟩ | ⟨q, h1, h2⟩
        · exact ex_of h2 h1 trivial
        · exact ex_of h2 h1 trivial
      · cases h
    · split at h
      · simp only [den, binD]; exact strK_ok (C := C) h
      · cases h
    · rename_i a; split at h
      case h_2 => cases h
      rename_i b
      split at h
      case h_2 => cases h
      rename_i i hi
      split at h
      case h_2 => cases h
      rename_i hk
      have hb := (hY t i hi).bool hk
      cases op <;> simp only [] at h <;> try (cases h; done)
      · exact ex_of h (by simp only [den, binD, hb, if_true]) trivial
      · exact ex_of h (by simp only [den, binD, hb, if_true]) trivial
    · rename_i xs; split at h
      case h_2 => cases h
      rename_i ys
      split at h
      case h_2 => cases h
      rename_i i hi
      split at h
      case h_2 => cases h
      rename_i q hq
      have hf := (hY t i hi).eqs q hq
      cases op <;> simp only [] at h <;> try (cases h; done)
      · split at h
        · rename_i p hp
          exact ⟨.bool p, by simp only [den, binD, hf, eqCT_ok (C := C) hp, Option.map_some], trivial, h⟩
        · cases h
      · split at h
        · rename_i p hp
          exact ⟨.bool (!p), by simp only [den, binD, hf, eqCT_ok (C := C) hp, Option.map_some], trivial, h⟩
        · cases h
    · cases h
end
end Go.Abs

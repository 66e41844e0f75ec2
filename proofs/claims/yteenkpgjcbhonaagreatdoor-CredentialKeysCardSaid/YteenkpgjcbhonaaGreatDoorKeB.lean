/- the public key of a seed: the tree of both; the law CredentialKeys, plainly. -/
import Derived.Test.YteenkpgjcbhonaaGreatDoorKeA
set_option linter.unusedVariables false
set_option linter.unusedSimpArgs false
set_option maxRecDepth 100000
namespace Go.Proofs.YteenkpgjcbhonaaGreatDoor
open Go Go.Abs
theorem bindU {α β : Type} (x : α) (f : α → Option β) : (some x).bind f = f x := by cases h : f x <;> exact h
theorem iter_mk {σ β : Type} {f : σ → Option (σ ⊕ β)} (mk : Nat → σ) (n : Nat) (b : β) (h : ∀ k, k < n → f (mk k) = some (.inl (mk (k + 1)))) (he : f (mk n) = some (.inr b)) : iter f rounds (mk 0) = some b ∨ rounds ≤ n := by
  have key : ∀ (d k fuel : Nat), k + d = n → d < fuel → iter f fuel (mk k) = some b := by
    intro d
    induction d with
    | zero =>
      intro k fuel e hf
      obtain ⟨m, rfl⟩ : ∃ m, fuel = m + 1 := ⟨fuel - 1, by omega⟩
      obtain rfl : k = n := by omega
      show (f (mk k)).bind _ = _
      rw [he]; rfl
    | succ d ih =>
      intro k fuel e hf
      obtain ⟨m, rfl⟩ : ∃ m, fuel = m + 1 := ⟨fuel - 1, by omega⟩
      show (f (mk k)).bind _ = _
      rw [h k (by omega), bindU]
      exact ih (k + 1) m (by omega) (by omega)
  rcases Nat.lt_or_ge n rounds with h1 | h1
  · exact .inl (key n 0 rounds (by omega) h1)
  · exact .inr h1
theorem iter_mk' {σ β : Type} {f : σ → Option (σ ⊕ β)} (mk : Nat → σ) (n : Nat) (b : β) {s0 : σ} (h0 : mk 0 = s0) (hn : n < 1000) (h : ∀ k, k < n → f (mk k) = some (.inl (mk (k + 1)))) (he : f (mk n) = some (.inr b)) : iter f rounds s0 = some b := by
  subst h0
  rcases iter_mk mk n b h he with h1 | h1
  · exact h1
  · rw [rounds_eq] at h1; omega
theorem set_fill {α : Type} (g : Nat → α) (d x : α) (k n : Nat) (h : k < n) (hx : x = g k) : List.set ((List.range k).map g ++ List.replicate (n - k) d) k x = (List.range (k + 1)).map g ++ List.replicate (n - (k + 1)) d := by
  subst hx
  obtain ⟨m, rfl⟩ : ∃ m, n = k + 1 + m := ⟨n - (k + 1), by omega⟩
  rw [show k + 1 + m - k = m + 1 by omega, show k + 1 + m - (k + 1) = m by omega, List.set_append_right _ _ (by simp)]
  simp [List.replicate_succ, List.range_succ]
theorem get_fill {α : Type} (g : Nat → α) (d : α) (k n : Nat) (h : k < n) : ∃ y, ((List.range k).map g ++ List.replicate (n - k) d)[k]? = some y := by
  have : k < ((List.range k).map g ++ List.replicate (n - k) d).length := by simp; omega
  exact ⟨_, List.getElem?_eq_getElem this⟩
theorem len_fill {α : Type} (g : Nat → α) (d : α) (k n : Nat) (h : k ≤ n) : ((List.range k).map g ++ List.replicate (n - k) d).length = n := by simp; omega
def mac (k : BitVec 64) (d : Int) (l : List UInt8) : BitVec 64 := Sip.sip k (1#64 + BitVec.ofInt 64 d) l
def hsh (d : Int) (l : List UInt8) : BitVec 64 := Sip.sip (BitVec.ofInt 64 d) 0#64 l
theorem dMac (k : BitVec 64) (d : Int) (l : List UInt8) (h : l.length < 1000000000) : digest_Mac k d l = some ((), mac k d l, ()) := by
  unfold digest_Mac; rw [Sip.sum_ok _ _ _ h]; rfl
theorem rMac (k : BitVec 64) (d : Int) (l : List UInt8) (h : l.length < 1000000000) : passkeyref1_Mac k d l = some ((), mac k d l, ()) := by
  unfold passkeyref1_Mac; rw [Sip.refsum_ok _ _ _ h]; rfl
theorem dHash (d : Int) (l : List UInt8) (h : l.length < 1000000000) : digest_Hash d l = some ((), hsh d l, ()) := by
  unfold digest_Hash; rw [Sip.sum_ok _ _ _ h]; rfl
theorem rHash (d : Int) (l : List UInt8) (h : l.length < 1000000000) : passkeyref1_Hash d l = some ((), hsh d l, ()) := by
  unfold passkeyref1_Hash; rw [Sip.refsum_ok _ _ _ h]; rfl
def bv (n : Int) : BitVec 64 := BitVec.ofInt 64 n
def sec (s : BitVec 64) (i k : Int) : BitVec 64 := mac s 1 (ws [bv i, bv k])
theorem oSecret (s : BitVec 64) (i k : Int) : onetime_Secret s i k = some ((), sec s i k, ()) := by
  unfold onetime_Secret
  dsimp only
  rw [dW2, bindU]
  rw [dMac _ _ _ (by have := ws_len [BitVec.ofInt 64 i, BitVec.ofInt 64 k]; unfold ws at this; simp only [List.length_cons, List.length_nil] at this; dsimp only; omega), bindU]
  rfl
theorem rSecret (s : BitVec 64) (i k : Int) : passkeyref3_Secret s i k = some ((), sec s i k, ()) := by
  unfold passkeyref3_Secret
  dsimp only
  rw [rW2, bindU]
  rw [rMac _ _ _ (by have := ws_len [BitVec.ofInt 64 i, BitVec.ofInt 64 k]; unfold ws at this; simp only [List.length_cons, List.length_nil] at this; dsimp only; omega), bindU]
  rfl
def stp (c k j : Int) (x : BitVec 64) : BitVec 64 := hsh 1 (ws [bv c, bv k, bv j, x])
def runN (c k : Int) (x : BitVec 64) : Nat → BitVec 64
  | 0 => x
  | n + 1 => stp c k (n : Int) (runN c k x n)
theorem wlen (l : List (BitVec 64)) (h : l.length < 1000) : (l.flatMap w8).length < 1000000000 := by
  have := ws_len l; unfold ws at this; omega
theorem oRun (c k : Int) (x : BitVec 64) : onetime_Run c k 0 15 x = some ((), runN c k x 15, ()) := by
  unfold onetime_Run onetime_Run_L0
  rw [show (bif decide ((15 : Int) < 15) then (15 : Int) else 15) = 15 from rfl, show (bif decide ((0 : Int) < 0) then (0 : Int) else 0) = 0 from rfl]
  rw [iter_mk' (fun n => (c, k, runN c k x n, (15 : Int), (n : Int), ())) 15 (runN c k x 15, ()) ?_ (by omega) (fun n hn => ?_) ?_, bindU]
  · rfl
  · rfl
  · show onetime_Run_L0b c k (runN c k x n) 15 (n : Int) = _
    unfold onetime_Run_L0b
    rw [decide_eq_true (by omega), cond_true]
    dsimp only
    rw [dW4, bindU]
    rw [dHash _ _ (wlen _ (by simp)), bindU, wrap_id (by omega) (by omega)]
    rfl
theorem rRun (c k : Int) (x : BitVec 64) : passkeyref3_Run c k 0 15 x = some ((), runN c k x 15, ()) := by
  unfold passkeyref3_Run passkeyref3_Run_L0
  rw [show (bif decide ((0 : Int) < 0) then (0 : Int) else 0) = 0 from rfl]
  rw [iter_mk' (fun n => (c, k, (15 : Int), runN c k x n, (n : Int), ())) 15 (runN c k x 15, ()) ?_ (by omega) (fun n hn => ?_) ?_, bindU]
  · rfl
  · rfl
  · show passkeyref3_Run_L0b c k 15 (runN c k x n) (n : Int) = _
    unfold passkeyref3_Run_L0b
    rw [show (bif decide ((15 : Int) < 15) then (15 : Int) else 15) = 15 from rfl, decide_eq_true (by omega), cond_true]
    dsimp only
    rw [rW4, bindU]
    rw [rHash _ _ (wlen _ (by simp)), bindU, wrap_id (by omega) (by omega)]
    rfl
def tip (s : BitVec 64) (i : Int) (k : Nat) : BitVec 64 := runN i (k : Int) (sec s i (k : Int)) 15
def leaf (s : BitVec 64) (i : Int) : BitVec 64 := hsh 2 (ws (bv i :: (List.range 18).map (tip s i)))
theorem combine_ok (i : Int) (t0 t1 t2 t3 t4 t5 t6 t7 t8 t9 t10 t11 t12 t13 t14 t15 t16 t17 : BitVec 64) : onetime_combine i ⟨t0, t1, t2, t3, t4, t5, t6, t7, t8, t9, t10, t11, t12, t13, t14, t15, t16, t17⟩ = some ((), hsh 2 (ws [bv i, t0, t1, t2, t3, t4, t5, t6, t7, t8, t9, t10, t11, t12, t13, t14, t15, t16, t17]), ()) := by
  have h : onetime_combine i ⟨t0, t1, t2, t3, t4, t5, t6, t7, t8, t9, t10, t11, t12, t13, t14, t15, t16, t17⟩ = (digest_Words [bv i, t0, t1, t2, t3, t4, t5, t6, t7, t8, t9, t10, t11, t12, t13, t14, t15, t16, t17]).bind fun r5 => (digest_Hash (2 : Int) r5.2.1).bind fun r6 => some ((), (r6.2.1, ())) := by kernel_rfl
  rw [h, dW19, bindU]
  rw [dHash _ _ (wlen _ (by simp)), bindU]
  rfl
theorem pubG (k1 k2 k3 l) (s : BitVec 64) (i : Int) (t0 t1 t2 t3 t4 t5 t6 t7 t8 t9 t10 t11 t12 t13 t14 t15 t16 t17 : BitVec 64) (hl : l (s, i, List.replicate 18 0#64, 0, ()) = some (i, [t0, t1, t2, t3, t4, t5, t6, t7, t8, t9, t10, t11, t12, t13, t14, t15, t16, t17], ())) : onetime_PublicG k1 k2 k3 l s i = (k3 i ⟨t0, t1, t2, t3, t4, t5, t6, t7, t8, t9, t10, t11, t12, t13, t14, t15, t16, t17⟩).bind fun r => some ((), r.2.1, ()) := by
  have h : onetime_PublicG k1 k2 k3 (fun y => bif true then some (i, [t0, t1, t2, t3, t4, t5, t6, t7, t8, t9, t10, t11, t12, t13, t14, t15, t16, t17], ()) else l y) s i = (k3 i ⟨t0, t1, t2, t3, t4, t5, t6, t7, t8, t9, t10, t11, t12, t13, t14, t15, t16, t17⟩).bind fun r => some ((), r.2.1, ()) := by kernel_rfl
  unfold onetime_PublicG at h ⊢
  rw [show ([0#64, 0#64, 0#64, 0#64, 0#64, 0#64, 0#64, 0#64, 0#64, 0#64, 0#64, 0#64, 0#64, 0#64, 0#64, 0#64, 0#64, 0#64] : List (BitVec 64)) = List.replicate 18 0#64 from rfl, hl]
  exact h
theorem tips (s : BitVec 64) (i : Int) : (List.range 18).map (tip s i) = [tip s i 0, tip s i 1, tip s i 2, tip s i 3, tip s i 4, tip s i 5, tip s i 6, tip s i 7, tip s i 8, tip s i 9, tip s i 10, tip s i 11, tip s i 12, tip s i 13, tip s i 14, tip s i 15, tip s i 16, tip s i 17] := rfl
theorem oPublicL (s : BitVec 64) (i : Int) : onetime_Public_L0 (s, i, List.replicate 18 0#64, 0, ()) = some (i, (List.range 18).map (tip s i), ()) := by
  unfold onetime_Public_L0
  rw [iter_mk' (fun n => (s, i, (List.range n).map (tip s i) ++ List.replicate (18 - n) 0#64, (n : Int), ())) 18 (i, (List.range 18).map (tip s i), ()) ?_ (by omega) (fun n hn => ?_) ?_]
  · rfl
  · show onetime_Public_L0b s i ((List.range 18).map (tip s i) ++ List.replicate 0 0#64) 18 = _
    unfold onetime_Public_L0b
    rw [decide_eq_false (by omega), cond_false, List.replicate_zero, List.append_nil]
  · show onetime_Public_L0b s i ((List.range n).map (tip s i) ++ List.replicate (18 - n) 0#64) (n : Int) = _
    unfold onetime_Public_L0b
    rw [decide_eq_true (by omega), cond_true, oSecret, bindU]
    dsimp only
    rw [oRun, bindU]
    rw [decide_eq_true (by omega)]
    obtain ⟨y, hy⟩ := get_fill (tip s i) 0#64 n 18 hn
    rw [show (true && true) = true from rfl, cond_true, Int.toNat_natCast, hy, bindU]
    dsimp only
    rw [set_fill (tip s i) 0#64 (runN i (n : Int) (sec s i (n : Int)) 15) n 18 hn rfl, wrap_id (by omega) (by omega)]
    rfl
theorem oPublic (s : BitVec 64) (i : Int) : onetime_Public s i = some ((), leaf s i, ()) := by
  unfold onetime_Public
  have h := oPublicL s i
  rw [tips] at h
  rw [pubG _ _ _ _ s i _ _ _ _ _ _ _ _ _ _ _ _ _ _ _ _ _ _ h, combine_ok, bindU]
  unfold leaf
  rw [tips]
theorem small_le {n w : Nat} (h1 : n ≤ 1000) (h2 : w ≤ 8) : small n w = true := by
  unfold small
  have := Nat.mul_le_mul (show 2 * n + 192 ≤ 2192 by omega) h2
  simp; omega
theorem rEnds (i : Int) (t0 t1 t2 t3 t4 t5 t6 t7 t8 t9 t10 t11 t12 t13 t14 t15 t16 t17 : BitVec 64) : passkeyref3_ends i [t0, t1, t2, t3, t4, t5, t6, t7, t8, t9, t10, t11, t12, t13, t14, t15, t16, t17] = some ((), hsh 2 (ws [bv i, t0, t1, t2, t3, t4, t5, t6, t7, t8, t9, t10, t11, t12, t13, t14, t15, t16, t17]), ()) := by
  unfold passkeyref3_ends
  have h1 := ws_len [BitVec.ofInt 64 i]
  have h2 := ws_len [t0, t1, t2, t3, t4, t5, t6, t7, t8, t9, t10, t11, t12, t13, t14, t15, t16, t17]
  unfold ws at h1 h2
  simp only [List.length_cons, List.length_nil] at h1 h2
  rw [rW1, bindU]
  rw [rW18, bindU]
  rw [small_le (by dsimp only; omega) (by omega), cond_true]
  rw [rHash _ _ (by rw [List.length_append]; dsimp only; omega), bindU]
  rfl
theorem rLeafL (s : BitVec 64) (i : Int) : passkeyref3_Leaf_L0 (s, i, [], 0, ()) = some (i, (List.range 18).map (tip s i), ()) := by
  unfold passkeyref3_Leaf_L0
  rw [iter_mk' (fun n => (s, i, (List.range n).map (tip s i), (n : Int), ())) 18 (i, (List.range 18).map (tip s i), ()) ?_ (by omega) (fun n hn => ?_) ?_]
  · rfl
  · show passkeyref3_Leaf_L0b s i ((List.range 18).map (tip s i)) 18 = _
    unfold passkeyref3_Leaf_L0b
    rw [decide_eq_false (by omega), cond_false]
  · show passkeyref3_Leaf_L0b s i ((List.range n).map (tip s i)) (n : Int) = _
    unfold passkeyref3_Leaf_L0b
    rw [decide_eq_true (by omega), cond_true, rSecret, bindU]
    dsimp only
    rw [rRun, bindU]
    rw [small_le (by simp; omega) (by omega), cond_true]
    rw [wrap_id (by omega) (by omega), List.range_succ, List.map_append]
    rfl
theorem rLeaf (s : BitVec 64) (i : Int) : passkeyref3_Leaf s i = some ((), leaf s i, ()) := by
  unfold passkeyref3_Leaf passkeyref3_LeafG
  rw [rLeafL, bindU]
  dsimp only
  rw [tips, rEnds, bindU]
  unfold leaf
  rw [tips]
def par (k : Int) (a b : BitVec 64) : BitVec 64 := hsh 3 (ws [bv k, a, b])
theorem tParent (k : Int) (a b : BitVec 64) : treekey_parent k a b = some ((), par k a b, ()) := by
  unfold treekey_parent
  rw [dW3, bindU]
  rw [dHash _ _ (wlen _ (by simp)), bindU]
  rfl
theorem rParent (k : Int) (a b : BitVec 64) : passkeyref3_parent k a b = some ((), par k a b, ()) := by
  unfold passkeyref3_parent
  rw [rW3, bindU]
  rw [rHash _ _ (wlen _ (by simp)), bindU]
  rfl
def node (s : BitVec 64) : Nat → Nat → BitVec 64
  | 0, j => leaf s (j : Int)
  | k + 1, j => par ((k + 1 : Nat) : Int) (node s k (2 * j)) (node s k (2 * j + 1))
theorem rNode (s : BitVec 64) : ∀ (h fuel j : Nat), h < fuel → h ≤ 4 → j < 1000 * 2 ^ (4 - h) → passkeyref3_node_n fuel s (h : Int) (j : Int) = some ((), node s h j, ())
  | 0, fuel, j, hf, h4, hj => by
    obtain ⟨m, rfl⟩ : ∃ m, fuel = m + 1 := ⟨fuel - 1, by omega⟩
    show passkeyref3_node_R _ _ _ _ = _
    unfold passkeyref3_node_R
    rw [decide_eq_true (by omega), cond_true, rLeaf, bindU]
    rfl
  | h + 1, fuel, j, hf, h4, hj => by
    obtain ⟨m, rfl⟩ : ∃ m, fuel = m + 1 := ⟨fuel - 1, by omega⟩
    have hp : 2 ^ (4 - h) = 2 * 2 ^ (4 - (h + 1)) := by rw [show 4 - h = 4 - (h + 1) + 1 by omega, Nat.pow_succ]; omega
    have hq : 2 ^ (4 - (h + 1)) ≤ 16 := Nat.pow_le_pow_right (n := 2) (by omega) (by omega : 4 - (h + 1) ≤ 4)
    have h1 : 1 ≤ 2 ^ (4 - (h + 1)) := Nat.one_le_two_pow
    show passkeyref3_node_R _ _ _ _ = _
    unfold passkeyref3_node_R
    rw [decide_eq_false (by omega), cond_false]
    rw [wrap_id (n := ((h + 1 : Nat) : Int) - 1) (by omega) (by omega), wrap_id (n := (2 : Int) * (j : Int)) (by omega) (by omega), wrap_id (n := (2 : Int) * (j : Int) + 1) (by omega) (by omega)]
    rw [show ((h + 1 : Nat) : Int) - 1 = (h : Int) by omega, show (2 : Int) * (j : Int) = ((2 * j : Nat) : Int) by omega, show ((2 * j : Nat) : Int) + 1 = ((2 * j + 1 : Nat) : Int) by omega]
    rw [rNode s h m (2 * j) (by omega) (by omega) (by omega), bindU]
    dsimp only
    rw [rNode s h m (2 * j + 1) (by omega) (by omega) (by omega), bindU]
    rw [rParent, bindU]
    rfl
def lev (s : BitVec 64) (n k : Nat) : List (BitVec 64) := (List.range n).map (node s k)
theorem lev_len (s : BitVec 64) (n k : Nat) : (lev s n k).length = n := by simp [lev]
theorem lev_get (s : BitVec 64) (n k j : Nat) (h : j < n) : (lev s n k)[j]? = some (node s k j) := by simp [lev, h]
theorem tL0 (h : Int) (s : BitVec 64) (n : Nat) (hn : n ≤ 16) : treekey_levels_L0 (h, s, List.replicate n 0#64, (n : Int), 0, ()) = some (h, lev s n 0, ()) := by
  unfold treekey_levels_L0
  rw [iter_mk' (fun k => (h, s, (List.range k).map (node s 0) ++ List.replicate (n - k) 0#64, (n : Int), (k : Int), ())) n (h, lev s n 0, ()) ?_ (by omega) (fun k hk => ?_) ?_]
  · rfl
  · show treekey_levels_L0b h s ((List.range n).map (node s 0) ++ List.replicate (n - n) 0#64) (n : Int) (n : Int) = _
    unfold treekey_levels_L0b
    rw [decide_eq_false (by omega), cond_false, Nat.sub_self, List.replicate_zero, List.append_nil]
    rfl
  · show treekey_levels_L0b h s ((List.range k).map (node s 0) ++ List.replicate (n - k) 0#64) (n : Int) (k : Int) = _
    unfold treekey_levels_L0b
    rw [decide_eq_true (by omega), cond_true, oPublic, bindU]
    dsimp only
    rw [len_fill _ _ _ _ (by omega), decide_eq_true (by omega), decide_eq_true (by omega)]
    obtain ⟨y, hy⟩ := get_fill (node s 0) 0#64 k n hk
    rw [show (true && true) = true from rfl, cond_true, Int.toNat_natCast, hy, bindU]
    rw [set_fill (node s 0) 0#64 (leaf s (k : Int)) k n hk rfl, wrap_id (by omega) (by omega)]
    rfl
theorem tL4 (h : Int) (s : BitVec 64) (k m : Nat) (hm : m ≤ 16) (hk : k ≤ 16) : treekey_levels_L4 (h, lev s (2 * m) k, (k : Int), List.replicate m 0#64, (m : Int), 0, ()) = some (h, (k : Int), lev s m (k + 1), ()) := by
  unfold treekey_levels_L4
  rw [iter_mk' (fun i => (h, lev s (2 * m) k, (k : Int), (List.range i).map (node s (k + 1)) ++ List.replicate (m - i) 0#64, (m : Int), (i : Int), ())) m (h, (k : Int), lev s m (k + 1), ()) ?_ (by omega) (fun i hi => ?_) ?_]
  · rfl
  · show treekey_levels_L4b h (lev s (2 * m) k) (k : Int) ((List.range m).map (node s (k + 1)) ++ List.replicate (m - m) 0#64) (m : Int) (m : Int) = _
    unfold treekey_levels_L4b
    rw [decide_eq_false (by omega), cond_false, Nat.sub_self, List.replicate_zero, List.append_nil]
    rfl
  · show treekey_levels_L4b h (lev s (2 * m) k) (k : Int) ((List.range i).map (node s (k + 1)) ++ List.replicate (m - i) 0#64) (m : Int) (i : Int) = _
    unfold treekey_levels_L4b
    rw [decide_eq_true (by omega), cond_true, wrap_id (n := (2 : Int) * (i : Int)) (by omega) (by omega), wrap_id (n := (2 : Int) * (i : Int) + 1) (by omega) (by omega), wrap_id (n := (k : Int) + 1) (by omega) (by omega), lev_len]
    rw [show (2 : Int) * (i : Int) = ((2 * i : Nat) : Int) by omega, show ((2 * i : Nat) : Int) + 1 = ((2 * i + 1 : Nat) : Int) by omega]
    rw [decide_eq_true (by omega), decide_eq_true (by omega), show (true && true) = true from rfl, cond_true, Int.toNat_natCast, lev_get s _ _ _ (by omega), bindU]
    dsimp only
    rw [decide_eq_true (by omega), decide_eq_true (by omega), show (true && true) = true from rfl, cond_true, Int.toNat_natCast, lev_get s _ _ _ (by omega), bindU, tParent, bindU]
    rw [len_fill _ _ _ _ (by omega), decide_eq_true (by omega), decide_eq_true (by omega)]
    obtain ⟨y, hy⟩ := get_fill (node s (k + 1)) 0#64 i m hi
    rw [show (true && true) = true from rfl, cond_true, Int.toNat_natCast, hy, bindU]
    rw [set_fill (node s (k + 1)) 0#64 _ i m hi (by rw [show ((k : Int) + 1) = ((k + 1 : Nat) : Int) by omega]; rfl), wrap_id (by omega) (by omega)]
    rfl
theorem lv3_ok (h : Int) (s : BitVec 64) (k m : Nat) (hm : m ≤ 16) (hk : k ≤ 16) : lv3 h (lev s (2 * m) k) (k : Int) = some (h, lev s m (k + 1), ((k + 1 : Nat) : Int), ()) := by
  unfold lv3
  rw [lev_len, show Int.tdiv ((2 * m : Nat) : Int) 2 = (m : Int) by rw [Int.tdiv_eq_ediv_of_nonneg (by omega)]; omega, wrap_id (by omega) (by omega)]
  rw [decide_eq_true (by omega), decide_eq_true (by omega), decide_eq_true (by omega), show (true && (true && true)) = true from rfl, cond_true, Int.toNat_natCast, tL4 h s k m hm hk, bindU]
  dsimp only
  rw [wrap_id (by omega) (by omega)]
  rfl
theorem stAt0 (s : BitVec 64) (h : Nat) (hh : h ≤ 4) : stAt (h : Int) s 0 = some ((h : Int), lev s (2 ^ h) 0, 0, ()) := by
  have e : lv0 (h : Int) s = some ((h : Int), s, List.replicate (2 ^ h) 0#64, ()) := by
    rcases (by omega : h = 0 ∨ h = 1 ∨ h = 2 ∨ h = 3 ∨ h = 4) with rfl | rfl | rfl | rfl | rfl <;> rfl
  have hp : 2 ^ h ≤ 16 := Nat.pow_le_pow_right (n := 2) (by omega) hh
  unfold stAt
  rw [e, bindU]
  unfold lv1
  dsimp only
  rw [List.length_replicate, tL0 _ _ _ hp, bindU, bindU]
theorem stAtK (s : BitVec 64) (h : Nat) (hh : h ≤ 4) : ∀ k, k ≤ h → stAt (h : Int) s k = some ((h : Int), lev s (2 ^ (h - k)) k, (k : Int), ())
  | 0, _ => stAt0 s h hh
  | k + 1, hk => by
    have hp : 2 ^ (h - (k + 1)) ≤ 16 := Nat.pow_le_pow_right (n := 2) (by omega) (by omega : h - (k + 1) ≤ 4)
    unfold stAt
    rw [stAtK s h hh k (by omega), bindU]
    dsimp only
    rw [show h - k = h - (k + 1) + 1 by omega, Nat.pow_succ, Nat.mul_comm, lv3_ok _ _ _ _ hp (by omega)]
def pubO (s : BitVec 64) (h : Int) : ApiPublicKey × Int := bif (decide (h < 0) || decide (h > 4)) then (⟨0, 0#64⟩, 9) else (⟨h, node s h.toNat 0⟩, 0)
theorem tPublic (s : BitVec 64) (h : Int) : treekey_Public s h = some ((), (pubO s h).1, (pubO s h).2, ()) := by
  unfold treekey_Public pubO
  cases hc : (decide (h < 0) || decide (h > 4))
  · obtain ⟨n, rfl, hn⟩ : ∃ n : Nat, h = (n : Int) ∧ n ≤ 4 := by
      simp only [Bool.or_eq_false_iff, decide_eq_false_iff_not] at hc
      exact ⟨h.toNat, by omega, by omega⟩
    rw [cond_false, cond_false, Int.toNat_natCast, stAtK s n hn n (Nat.le_refl _), bindU]
    dsimp only
    rw [Nat.sub_self, lev_get _ _ _ _ (by simp), bindU]
  · rfl
theorem rPublic (s : BitVec 64) (h : Int) : passkeyref3_Public s h = some ((), (pubO s h).1, (pubO s h).2, ()) := by
  unfold passkeyref3_Public pubO passkeyref3_height
  cases hc : (decide (h < 0) || decide (h > 4))
  · obtain ⟨n, rfl, hn⟩ : ∃ n : Nat, h = (n : Int) ∧ n ≤ 4 := by
      simp only [Bool.or_eq_false_iff, decide_eq_false_iff_not] at hc
      exact ⟨h.toNat, by omega, by omega⟩
    have e : passkeyref3_node s (n : Int) 0 = some ((), node s n 0, ()) := rNode s n 8 0 (by omega) hn (by have := Nat.one_le_two_pow (n := 4 - n); omega)
    rw [decide_eq_true (by omega), cond_true, bindU, decide_eq_true (by omega)]
    dsimp only
    rw [show (!true) = false from rfl, cond_false, e, bindU]
    rfl
  · simp only [Bool.or_eq_true, decide_eq_true_eq] at hc
    rcases hc with hc | hc
    · rw [decide_eq_false (by omega)]; rfl
    · rw [decide_eq_true (by omega), decide_eq_false (by omega)]; rfl
theorem CredentialKeys_plain (a0 a1 : Int) (hd : CredentialKeys_dom a0 a1) : Ok (passkeylaw15_CredentialKeys a0 a1) fun r => r.2.1 = true := by
  unfold passkeylaw15_CredentialKeys
  obtain ⟨k, hk, e⟩ := mask a0 1048575 (by omega)
  rw [show ((1048575 : Nat) : Int) = (1048575 : Int) from rfl] at e
  rw [e]
  dsimp only
  refine Ok.bind (Ok.mono (Cred_ok k hk) ?_)
  rintro ⟨_, x, _⟩ hx
  dsimp only at *
  have hx' := valC_zero hx
  refine Ok.bind (Ok.mono (spoilC_ok x a1 (by have := hx'.rp; omega) (by have := hx'.nm; omega)) ?_)
  rintro ⟨_, y, _⟩ ⟨y1, y2⟩
  dsimp only at *
  have key : ∃ q : ApiPublicKey × Int, credential_Key y = some ((), q.1, q.2, ()) ∧ passkeyref14_Key y = some ((), q.1, q.2, ()) := by
    unfold credential_Key passkeyref14_Key
    rw [cValidate_ok y (by omega) (by omega), rValidateC_ok y (by omega) (by omega), bindU, bindU]
    dsimp only
    cases hc : (!decide (valC y = 0))
    · exact ⟨pubO y.seed y.height, by rw [cond_false, tPublic, bindU], by rw [cond_false, rPublic, bindU]⟩
    · exact ⟨(⟨0, 0#64⟩, valC y), rfl, rfl⟩
  obtain ⟨q, h1, h2⟩ := key
  rw [h1, bindU, h2, bindU]
  dsimp only
  rw [decide_eq_true rfl, decide_eq_true rfl, decide_eq_true rfl, show (true && (true && true)) = true from rfl, cond_true, cond_true]
  exact awakeC
end Go.Proofs.YteenkpgjcbhonaaGreatDoor

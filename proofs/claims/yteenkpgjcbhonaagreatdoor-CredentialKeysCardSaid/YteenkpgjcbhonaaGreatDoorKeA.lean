/- the public key of a seed: the keys of one use, both. No condition. -/
import Derived.Test.YteenkpgjcbhonaaGreatDoorCkA
import Derived.Test.YteenkpgjcbhonaaGreatDoorCrH
import Derived.Test.YteenkpgjcbhonaaGreatDoorLib8
set_option linter.unusedVariables false
set_option linter.unusedSimpArgs false
set_option maxRecDepth 100000
namespace Go.Proofs.YteenkpgjcbhonaaGreatDoor
open Go Go.Abs
def w8 (a : BitVec 64) : List UInt8 := [UInt8.ofBitVec (BitVec.setWidth 8 (a >>> 56)), UInt8.ofBitVec (BitVec.setWidth 8 (a >>> 48)), UInt8.ofBitVec (BitVec.setWidth 8 (a >>> 40)), UInt8.ofBitVec (BitVec.setWidth 8 (a >>> 32)), UInt8.ofBitVec (BitVec.setWidth 8 (a >>> 24)), UInt8.ofBitVec (BitVec.setWidth 8 (a >>> 16)), UInt8.ofBitVec (BitVec.setWidth 8 (a >>> 8)), UInt8.ofBitVec (BitVec.setWidth 8 (a >>> 0))]
def ws (l : List (BitVec 64)) : List UInt8 := l.flatMap w8
theorem ws_len (l : List (BitVec 64)) : (ws l).length = 8 * l.length := by
  induction l with
  | nil => rfl
  | cons a l ih => simp only [ws, List.flatMap_cons, List.length_append, List.length_cons] at ih ⊢; rw [ih]; simp only [w8, List.length_cons, List.length_nil]; omega
theorem dW2 (a0 a1 : BitVec 64) : digest_Words [a0, a1] = some ((), ([a0, a1] : List (BitVec 64)).flatMap w8, ()) := by kernel_rfl
theorem dW3 (a0 a1 a2 : BitVec 64) : digest_Words [a0, a1, a2] = some ((), ([a0, a1, a2] : List (BitVec 64)).flatMap w8, ()) := by kernel_rfl
theorem dW4 (a0 a1 a2 a3 : BitVec 64) : digest_Words [a0, a1, a2, a3] = some ((), ([a0, a1, a2, a3] : List (BitVec 64)).flatMap w8, ()) := by kernel_rfl
theorem dW19 (a0 a1 a2 a3 a4 a5 a6 a7 a8 a9 a10 a11 a12 a13 a14 a15 a16 a17 a18 : BitVec 64) : digest_Words [a0, a1, a2, a3, a4, a5, a6, a7, a8, a9, a10, a11, a12, a13, a14, a15, a16, a17, a18] = some ((), ([a0, a1, a2, a3, a4, a5, a6, a7, a8, a9, a10, a11, a12, a13, a14, a15, a16, a17, a18] : List (BitVec 64)).flatMap w8, ()) := by kernel_rfl
theorem rW1 (a0 : BitVec 64) : passkeyref1_Words [a0] = some ((), ([a0] : List (BitVec 64)).flatMap w8, ()) := by kernel_rfl
theorem rW2 (a0 a1 : BitVec 64) : passkeyref1_Words [a0, a1] = some ((), ([a0, a1] : List (BitVec 64)).flatMap w8, ()) := by kernel_rfl
theorem rW3 (a0 a1 a2 : BitVec 64) : passkeyref1_Words [a0, a1, a2] = some ((), ([a0, a1, a2] : List (BitVec 64)).flatMap w8, ()) := by kernel_rfl
theorem rW4 (a0 a1 a2 a3 : BitVec 64) : passkeyref1_Words [a0, a1, a2, a3] = some ((), ([a0, a1, a2, a3] : List (BitVec 64)).flatMap w8, ()) := by kernel_rfl
theorem rW18 (a0 a1 a2 a3 a4 a5 a6 a7 a8 a9 a10 a11 a12 a13 a14 a15 a16 a17 : BitVec 64) : passkeyref1_Words [a0, a1, a2, a3, a4, a5, a6, a7, a8, a9, a10, a11, a12, a13, a14, a15, a16, a17] = some ((), ([a0, a1, a2, a3, a4, a5, a6, a7, a8, a9, a10, a11, a12, a13, a14, a15, a16, a17] : List (BitVec 64)).flatMap w8, ()) := by kernel_rfl
end Go.Proofs.YteenkpgjcbhonaaGreatDoor

/- Out of the texts about items of the chapter on items (cbor): what this chapter needs. Written by a program. -/
import Derived.Test.YtghfcfjnfgmkgaaGreatDoorCrB
import Derived.Test.YtghfcfjnfgmkgaaGreatDoorLib8
namespace Go.Proofs.YtghfcfjnfgmkgaaGreatDoor
set_option linter.unusedVariables false
set_option linter.unusedSimpArgs false
set_option maxRecDepth 100000
open Go Go.Abs
def bev : BitVec 64 → List UInt8 → BitVec 64
  | n, [] => n
  | n, c :: r => bev ((n <<< 8) ||| (BitVec.setWidth 64 c.toBitVec)) r
def sho (n : BitVec 64) : Nat := bif decide (n.toNat < 24) then 0 else bif decide (n.toNat < 256) then 1 else bif decide (n.toNat < 65536) then 2 else bif decide (n.toNat < 4294967296) then 4 else 8
def isB (c : UInt8) : Bool := decide (c = 244) || decide (c = 245)
def hdB : List UInt8 → Int × Int × BitVec 64 × List UInt8
  | [] => (1, 0, 0#64, [])
  | c :: r => bif isB c then (0, 7, BitVec.ofNat 64 (c.toNat - 244), r) else bif decide (c = 246) then (0, 8, 0#64, r) else bif decide (5 < c.toNat / 32) || decide (27 < c.toNat % 32) then (2, 0, 0#64, []) else bif decide (c.toNat % 32 < 24) then (0, ((c.toNat / 32 : Nat) : Int) + 1, BitVec.ofNat 64 (c.toNat % 32), r) else bif decide (r.length < 2 ^ (c.toNat % 32 - 24)) then (1, 0, 0#64, []) else bif decide (sho (bev 0#64 (r.take (2 ^ (c.toNat % 32 - 24)))) < 2 ^ (c.toNat % 32 - 24)) then (2, 0, 0#64, []) else (0, ((c.toNat / 32 : Nat) : Int) + 1, bev 0#64 (r.take (2 ^ (c.toNat % 32 - 24))), r.drop (2 ^ (c.toNat % 32 - 24)))
def hdc (n : BitVec 64) : UInt8 := bif decide (n.toNat < 24) then byt n else bif decide (n.toNat < 256) then 24 else bif decide (n.toNat < 65536) then 25 else bif decide (n.toNat < 4294967296) then 26 else 27
theorem hdr_eq (m : UInt8) (n : BitVec 64) : hdr m n = (m + hdc n) :: beb n (sho n) := by
  unfold hdr hdc sho
  cases decide (n.toNat < 24) <;> cases decide (n.toNat < 256) <;> cases decide (n.toNat < 65536) <;> cases decide (n.toNat < 4294967296) <;> rfl
def bodB (k : Int) (m : BitVec 64) (r : List UInt8) : Int × ApiItem × List UInt8 :=
  bif isN k then (bif decide (512 < m.toNat) then (8, default, []) else (0, ⟨k, m, []⟩, r))
  else bif isD k then (bif decide (1024 < m.toNat) then (8, default, []) else bif decide (r.length < m.toNat) then (1, default, []) else (0, ⟨k, 0#64, r.take m.toNat⟩, r.drop m.toNat))
  else (0, ⟨k, m, []⟩, r)
def accB (key : Bool) (before : List UInt8) (q : Int × ApiItem × List UInt8) : Int × ApiItem × List UInt8 :=
  bif decide (q.1 = 0) then (acc q.2.1 key before, q.2.1, q.2.2) else q
def getB (n d : Nat) (key : Bool) (before : List UInt8) (s : List UInt8) : Int × ApiItem × List UInt8 :=
  bif !decide ((hdB s).1 = 0) then ((hdB s).1, default, []) else
  bif !decide (adm (hdB s).2.1 n d key = 0) then (adm (hdB s).2.1 n d key, default, []) else
  accB key before (bodB (hdB s).2.1 (hdB s).2.2.1 (hdB s).2.2.2)
theorem len_nat {l : List UInt8} (h : l.length ≤ 1024) : (BitVec.ofInt 64 (l.length : Int)).toNat = l.length := by
  rw [BitVec.ofInt_natCast, BitVec.toNat_ofNat, Nat.mod_eq_of_lt (by omega)]
theorem mach_cases {σ : Type} (get : Nat → Nat → Bool → List UInt8 → σ → Int × ApiItem × σ) (f : Nat) (S : List CborFrame) (n : Nat) (s : σ) : (decide (0 < n) && S.isEmpty) = true ∧ mach get (f + 1) S n s = (0, [], s) ∨ (decide (0 < n) && S.isEmpty) = false ∧ (get n S.length (atK S) (lst S) s).1 ≠ 0 ∧ mach get (f + 1) S n s = ((get n S.length (atK S) (lst S) s).1, [], s) ∨ (decide (0 < n) && S.isEmpty) = false ∧ ∃ x t, get n S.length (atK S) (lst S) s = (0, x, t) ∧ mach get (f + 1) S n s = ((mach get f (nxt x S) (n + 1) t).1, x :: (mach get f (nxt x S) (n + 1) t).2.1, (mach get f (nxt x S) (n + 1) t).2.2) := by
  cases hS : (decide (0 < n) && S.isEmpty)
  · right
    by_cases hg : (get n S.length (atK S) (lst S) s).1 = 0
    · right
      have e : get n S.length (atK S) (lst S) s = (0, (get n S.length (atK S) (lst S) s).2.1, (get n S.length (atK S) (lst S) s).2.2) := by rw [← hg]
      exact ⟨rfl, _, _, e, mach_step hS e⟩
    · left
      refine ⟨rfl, hg, mach_err hS (x := (get n S.length (atK S) (lst S) s).2.1) (t := (get n S.length (atK S) (lst S) s).2.2) rfl hg⟩
  · left
    refine ⟨rfl, ?_⟩
    unfold mach
    rw [hS]; rfl
theorem getL_zero {n d : Nat} {key : Bool} {b : List UInt8} {l : List ApiItem} {x : ApiItem} {t : List ApiItem} (h : getL n d key b l = (0, x, t)) : l = x :: t ∧ chk x n d key b = 0 := by
  cases l with
  | nil => simp [getL] at h
  | cons y r =>
    simp only [getL, Prod.mk.injEq] at h
    obtain ⟨h1, rfl, rfl⟩ := h
    exact ⟨rfl, h1⟩
theorem encA_cons (x : ApiItem) (l : List ApiItem) : encA (x :: l) = enc x ++ encA l := by unfold encA; rw [List.flatMap_cons]
theorem getI_nat {α : Type} {l : List α} {i : Nat} {x : α} (h : l[i]? = some x) : getI l (i : Int) = some x := by unfold getI; simp [h]
theorem drop_cons {α : Type} {l : List α} {j : Nat} {c : α} {r : List α} (h : l.drop j = c :: r) : l[j]? = some c ∧ l.drop (j + 1) = r ∧ j < l.length ∧ l.length = j + 1 + r.length := by
  refine ⟨?_, ?_, ?_, ?_⟩
  · have := congrArg (·[0]?) h
    simpa using this
  · have := congrArg (List.drop 1) h
    simpa [List.drop_drop] using this
  · have := congrArg List.length h
    simp at this
    omega
  · have := congrArg List.length h
    simp at this
    omega
end Go.Proofs.YtghfcfjnfgmkgaaGreatDoor

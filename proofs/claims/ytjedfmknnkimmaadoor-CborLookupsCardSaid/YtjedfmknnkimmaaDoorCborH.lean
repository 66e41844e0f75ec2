/- cbor: the source of items in bytes: it reads what was encoded, and nothing else. No condition. -/
import Derived.Test.YtjedfmknnkimmaaDoorCborG
set_option linter.unusedVariables false
set_option linter.unusedSimpArgs false
set_option maxRecDepth 100000
namespace Go.Proofs.YtjedfmknnkimmaaDoor
open Go Go.Abs
def bodB (k : Int) (m : BitVec 64) (r : List UInt8) : Int × ApiItem × List UInt8 :=
  bif isN k then (bif decide (512 < m.toNat) then (8, default, []) else (0, ⟨k, m, []⟩, r))
  else bif isD k then (bif decide (1024 < m.toNat) then (8, default, []) else bif decide (r.length < m.toNat) then (1, default, []) else (0, ⟨k, 0#64, r.take m.toNat⟩, r.drop m.toNat))
  else (0, ⟨k, m, []⟩, r)
def accB (key : Bool) (before : List UInt8) (q : Int × ApiItem × List UInt8) : Int × ApiItem × List UInt8 :=
  bif decide (q.1 = 0) then (acc q.2.1 key before, q.2.1, q.2.2) else q
def getB (n d : Nat) (key : Bool) (before : List UInt8) (s : List UInt8) : Int × ApiItem × List UInt8 :=
  bif !decide ((hdB s).1 = 0) then ((hdB s).1, default, []) else
  bif !decide (adm (hdB s).2.1 n d key = 0) then (adm (hdB s).2.1 n d key, default, []) else
  accB key before (bodB (hdB s).2.1 (hdB s).2.2.1 (hdB s).2.2.2)
theorem mach_cases {σ : Type} (get : Nat → Nat → Bool → List UInt8 → σ → Int × ApiItem × σ) (f : Nat) (S : List CborFrame) (n : Nat) (s : σ) : (decide (0 < n) && S.isEmpty) = true ∧ mach get (f + 1) S n s = (0, [], s) ∨ (decide (0 < n) && S.isEmpty) = false ∧ (get n S.length (atK S) (lst S) s).1 ≠ 0 ∧ mach get (f + 1) S n s = ((get n S.length (atK S) (lst S) s).1, [], s) ∨ (decide (0 < n) && S.isEmpty) = false ∧ ∃ x t, get n S.length (atK S) (lst S) s = (0, x, t) ∧ mach get (f + 1) S n s = ((mach get f (nxt x S) (n + 1) t).1, x :: (mach get f (nxt x S) (n + 1) t).2.1, (mach get f (nxt x S) (n + 1) t).2.2) := by
  cases hS : (decide (0 < n) && S.isEmpty)
  · right
    by_cases hg : (get n S.length (atK S) (lst S) s).1 = 0
    · right
      have e : get n S.length (atK S) (lst S) s = (0, (get n S.length (atK S) (lst S) s).2.1, (get n S.length (atK S) (lst S) s).2.2) := by rw [← hg]
      exact ⟨rfl, _, _, e, mach_step hS e⟩
    · left
      refine ⟨rfl, hg, mach_err hS (x := (get n S.length (atK S) (lst S) s).2.1) (t := (get n S.length (atK S) (lst S) s).2.2) rfl hg⟩
  · left
    refine ⟨rfl, ?_⟩
    unfold mach
    rw [hS]; rfl
theorem getL_zero {n d : Nat} {key : Bool} {b : List UInt8} {l : List ApiItem} {x : ApiItem} {t : List ApiItem} (h : getL n d key b l = (0, x, t)) : l = x :: t ∧ chk x n d key b = 0 := by
  cases l with
  | nil => simp [getL] at h
  | cons y r =>
    simp only [getL, Prod.mk.injEq] at h
    obtain ⟨h1, rfl, rfl⟩ := h
    exact ⟨rfl, h1⟩
end Go.Proofs.YtjedfmknnkimmaaDoor

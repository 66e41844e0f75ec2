/- Out of the texts about items of the chapter on items (cbor): what this chapter needs. Written by a program. -/
import Derived.Test.YtghfcfjnfgmkgaaGreatDoorCrC
import Derived.Test.YtghfcfjnfgmkgaaGreatDoorLib8
namespace Go.Proofs.YtghfcfjnfgmkgaaGreatDoor
set_option linter.unusedVariables false
set_option linter.unusedSimpArgs false
set_option maxRecDepth 100000
open Go Go.Abs
abbrev Rr := List UInt8 × Int × List ApiItem × Unit
def RI (bs : List UInt8) (out : List ApiItem) (w : Res (List UInt8)) (z : Option ((Rr × Unit) × (Int × Unit))) : Prop :=
  (w.1 = 0 → ∃ at1 : Nat, at1 ≤ bs.length ∧ z = some (((bs, (at1 : Int), out ++ w.2.1, ()), ()), (0, ())) ∧ bs.drop at1 = w.2.2 ∧ out.length + w.2.1.length ≤ 512) ∧ (w.1 ≠ 0 → ∃ st, z = some (st, (w.1, ())))
abbrev RK := Rr → Int → Bool → List UInt8 → Option ((Rr × Unit) × (Int × Unit))
section
variable (bs : List UInt8) (k_rec : RK) (f : Nat) (d : Nat)
    (ih : ∀ (at0 : Nat) (out : List ApiItem) (key : Bool) (b : List UInt8), at0 ≤ bs.length → out.length ≤ 512 → RI bs out (W getB f (bs.drop at0) out.length (d + 1) key b) (k_rec (bs, (at0 : Int), out, ()) ((d + 1 : Nat) : Int) key b))
    (ed : IntKind.wrap .i64 ((d : Int) + 1) = ((d + 1 : Nat) : Int))
include ih ed
end
end Go.Proofs.YtghfcfjnfgmkgaaGreatDoor

/- Out of the texts about items of the chapter on items (cbor): what this chapter needs. Written by a program. -/
import Derived.Test.YthoblablopmhfaaGreatDoorCrC
import Derived.Test.YthoblablopmhfaaGreatDoorLib8
namespace Go.Proofs.YthoblablopmhfaaGreatDoor
set_option linter.unusedVariables false
set_option linter.unusedSimpArgs false
set_option maxRecDepth 100000
open Go Go.Abs
abbrev Rr:=List UInt8×Int×List ApiItem×Unit
def RI (bs:List UInt8) (out:List ApiItem) (w:Res (List UInt8)) (z:Option ((Rr×Unit)×(Int×Unit))):Prop:=
 (w.1=0→∃ at1:Nat,at1≤bs.length∧z=some (((bs,(at1:Int),out++w.2.1,()),()),(0,()))∧bs.drop at1=w.2.2∧out.length+w.2.1.length≤512)∧(w.1≠0→∃ st,z=some (st,(w.1,())))
abbrev RK:=Rr→Int→Bool→List UInt8→Option ((Rr×Unit)×(Int×Unit))
theorem bvn (i:Nat) (hi:i≤2000):(BitVec.ofNat 64 i).toNat=i:=by rw [BitVec.toNat_ofNat,Nat.mod_eq_of_lt (by omega)]
theorem bvs (i:Nat) (hi:i≤1000):BitVec.ofNat 64 i+1#64=BitVec.ofNat 64 (i+1):=by
 apply BitVec.eq_of_toNat_eq
 rw [BitVec.toNat_add,bvn i (by omega),bvn (i+1) (by omega)]
 rw [show (1#64).toNat=1 from rfl,Nat.mod_eq_of_lt (by omega)]
section
variable (bs:List UInt8) (k_rec:RK) (f:Nat) (d:Nat)
  (ih:∀ (at0:Nat) (out:List ApiItem) (key:Bool) (b:List UInt8),at0≤bs.length→out.length≤512→RI bs out (W getB f (bs.drop at0) out.length (d+1) key b) (k_rec (bs,(at0:Int),out,()) ((d+1:Nat):Int) key b))
  (ed:IntKind.wrap .i64 ((d:Int)+1)=((d+1:Nat):Int))
include ih ed
end
end Go.Proofs.YthoblablopmhfaaGreatDoor

import Derived.Test.YthoblablopmhfaaGreatDoorFns
import Derived.Test.YthoblablopmhfaaGreatDoorMsR
namespace Go.Proofs.YthoblablopmhfaaGreatDoor
set_option linter.unusedVariables false
set_option linter.unusedSimpArgs false
set_option maxRecDepth 100000
open Go Go.Abs
theorem Vxj:∀ k:Fin 8,(Zbo ((BitVec.ofInt 64 (k.val:Int))+1#64) (5#64) (176:Int)).isSome=true:=by decide +kernel
theorem Vxk (n:Int):∃ l,Zcv n=some ((),l,()):=by
 obtain ⟨k,hk,e⟩:=mask n 7 (by decide)
 unfold Zcv
 rw [show (7:Int)=((7:Nat):Int) from rfl,e]
 have h:=Vxj ⟨k,by omega⟩
 obtain ⟨l,hl⟩:=Option.isSome_iff_exists.1 h
 dsimp only at hl ⊢
 rw [hl]
 exact ⟨_,rfl⟩
end Go.Proofs.YthoblablopmhfaaGreatDoor

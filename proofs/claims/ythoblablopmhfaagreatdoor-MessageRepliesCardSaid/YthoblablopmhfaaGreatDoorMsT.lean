import Derived.Test.YthoblablopmhfaaGreatDoorFns
import Derived.Test.YthoblablopmhfaaGreatDoorMsS
namespace Go.Proofs.YthoblablopmhfaaGreatDoor
set_option linter.unusedVariables false
set_option linter.unusedSimpArgs false
set_option maxRecDepth 100000
open Go Go.Abs
theorem Vxl (k:Nat):∃ j:Nat,j < 3∧Int.tmod (k:Int) 3=(j:Int):=⟨k % 3,Nat.mod_lt _ (by omega),by rw [Int.tmod_eq_emod_of_nonneg (by omega)]; omega⟩
theorem Va4a {j:Nat} (h:j < 3):j=0∨j=1∨j=2:=by omega
theorem RPr (n:Int):∃ l,Zcw n=some ((),l,())∧l.length < 1000000:=by
 obtain ⟨k,hk,e⟩:=mask n 65535 (by omega)
 obtain ⟨j,hj,ej⟩:=Vxl k
 unfold Zcw
 dsimp only
 rw [show ((65535:Nat):Int)=(65535:Int) from rfl] at e
 rw [e,ej]
 rcases Va4a hj with rfl | rfl | rfl<;>exact ⟨_,rfl,by decide⟩
theorem Userr (n:Int):∃ l,Zcg n=some ((),l,()):=by
 obtain ⟨k,hk,e⟩:=mask n 65535 (by omega)
 obtain ⟨j,hj,ej⟩:=Vxl k
 unfold Zcg
 dsimp only
 rw [show ((65535:Nat):Int)=(65535:Int) from rfl] at e
 rw [e,ej]
 rcases Va4a hj with rfl | rfl | rfl<;>exact ⟨_,rfl⟩
theorem Textr (n:Int):∃ l,Zcf n=some ((),l,())∧l.length < 1000000:=by
 obtain ⟨a,b,e⟩:=Va8a n
 refine ⟨_,e,?_⟩
 have:∀ a b:Fin 8,(words.getD a.val []++words.getD b.val []).length < 1000000:=by decide
 exact this a b
abbrev TUP:=Int×(List (UInt8))×(List (UInt8))×(List (List UInt8))×Int×(List (UInt8))×(List UInt8)×(List UInt8)×Int×(BitVec 64)×(List (UInt8))×(BitVec 64)×Int×Int×Int×Bool×Bool×(List (ApiEntry))×Unit
structure St (t:TUP) (k:Nat):Prop where
 c:t.2.2.2.1.length≤k
 e:t.2.2.2.2.2.2.2.2.2.2.2.2.2.2.2.2.2.1.length≤k
 n:t.2.2.2.2.2.2.2.1.length < 1000000
 x:∀ x∈t.2.2.2.2.2.2.2.2.2.2.2.2.2.2.2.2.2.1,x.rP.length < 1000000∧x.name.length < 1000000
theorem St.mono {t:TUP} {k l:Nat} (h:St t k) (hk:k≤l):St t l:=⟨Nat.le_trans h.c hk,Nat.le_trans h.e hk,h.n,h.x⟩
theorem mk_ok {k:Nat} {w:Int} (h:(k:Int) * w≤281474976710656) (h2:k≤9223372036854775807):(decide ((0:Int)≤(k:Int))&&(decide ((k:Int)≤(k:Int))&&decide (w * (k:Int)≤281474976710656∧(k:Int)≤9223372036854775807)))=true:=by
 rw [Int.mul_comm] at h
 simp only [Bool.and_eq_true,decide_eq_true_eq]
 exact ⟨by omega,by omega,h,by omega⟩
theorem rpL0 (m:Int) (r0:ApiReply) (t0:TUP) (h0:St t0 0):Ok (Zbl_L0 (m,(r0,()),t0,0,())) fun z=>z.1=m∧St z.2.2.1 3:=by
 unfold Zbl_L0
 obtain ⟨c,hc,ec⟩:=mask (Int.fdiv m (2 ^ (min 5 (IntKind.bits .i64)))) 3 (by omega)
 rw [show ((3:Nat):Int)=(3:Int) from rfl] at ec
 refine Ok.iter (fun q=>q.1=m∧∃ i:Nat,i≤3∧q.2.2.2.1=(i:Int)∧St q.2.2.1 i) (fun q=>(4 - q.2.2.2.1).toNat) ⟨rfl,0,by omega,rfl,h0⟩ (by rw [Vam]; dsimp only; omega) ?_
 rintro ⟨q0,⟨q1,u1⟩,q2,q3,u⟩ ⟨e1,i,hi,e2,hS⟩
 dsimp only at *
 subst e1; subst e2
 unfold Zbl_L0b
 dsimp only
 rw [ec]
 by_cases hlt:(i:Int) < (c:Int)
 ·rw [decide_eq_true hlt]
  simp only [cond_true]
  obtain ⟨b,hb,eb⟩:=mask (Int.fdiv q0 (2 ^ (min (BitVec.ofInt 64 (IntKind.wrap .i64 ((3:Int)+(i:Int)))).toNat (IntKind.bits .i64)))) 31 (by omega)
  rw [show ((31:Nat):Int)=(31:Int) from rfl] at eb
  rw [eb,mk_ok (k:=b) (w:=1) (by omega) (by omega)]
  simp only [cond_true]
  have hc1:=hS.c
  have he1:=hS.e
  rw [Vgx (by rw [List.length_singleton]; omega)]
  simp only [cond_true]
  obtain ⟨l1,hl1,hl1b⟩:=RPr (Int.fdiv q0 (2 ^ (min 3 (IntKind.bits .i64))))
  obtain ⟨l2,hl2⟩:=Userr (i:Int)
  obtain ⟨l3,hl3,hl3b⟩:=Textr (Int.fdiv q0 (2 ^ (min (BitVec.ofInt 64 (i:Int)).toNat (IntKind.bits .i64))))
  obtain ⟨l4,hl4⟩:=Vxk (i:Int)
  rw [hl1]
  simp only [bindS]
  rw [hl2]
  simp only [bindS]
  rw [hl3]
  simp only [bindS]
  rw [hl4]
  simp only [bindS]
  rw [Voj (by rw [List.length_singleton]; omega)]
  simp only [cond_true]
  rw [Var (i:=i) (by omega)]
  refine Ok.some ?_
  dsimp only
  refine ⟨⟨rfl,i+1,by omega,rfl,⟨?_,?_,hS.n,?_⟩⟩,by omega⟩
  ·dsimp only; rw [List.length_append,List.length_singleton]; omega
  ·dsimp only; rw [List.length_append,List.length_singleton]; omega
  ·intro x hx
   dsimp only at hx
   rcases List.mem_append.1 hx with hx | hx
   ·exact hS.x x hx
   ·rw [List.mem_singleton] at hx
    subst hx
    exact ⟨hl1b,hl3b⟩
 ·rw [decide_eq_false hlt]
  refine Ok.some ?_
  dsimp only
  exact ⟨rfl,hS.mono hi⟩
end Go.Proofs.YthoblablopmhfaaGreatDoor

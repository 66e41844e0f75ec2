/- A light request is sane; the law MessageValidates, but for the drawn request. -/
import Derived.Test.YtancibcbaajjkaaGreatDoorMqI
set_option linter.unusedVariables false
set_option linter.unusedSimpArgs false
set_option maxRecDepth 100000
namespace Go.Proofs.YtancibcbaajjkaaGreatDoor
open Go Go.Abs
theorem Vjv {n:Int} (h:(Lit.int .i64 n).wf=true):in64 n:=by
 simp [Lit.wf,IntKind.min,IntKind.max,IntKind.signed,IntKind.bits] at h
 unfold in64; omega
theorem Ve8a (a0:Jb) (hl:a0.list.length < 9223372036854775808):Ok (Zdo_L0 ((a0,()),(0:Int),(0:Int),())) λz=>z.1=(a0,()):=by
 unfold Zdo_L0
 refine Ok.iter (λs=>∃ (k:Nat) (t:Int),k<=a0.list.length/\s=((a0,()),t,(k:Int),())) (λs=>(a0.list.length - s.2.2.1).toNat) ⟨0,0,Nat.zero_le _,rfl⟩ (by rw [Vab]; dsimp only; omega) ?_
 rintro s ⟨k,t,hk,rfl⟩
 dsimp only
 unfold Zdo_L0b
 refine Ok.cond (λhc=>?_) (λhc=>?_)
 ·have hc:=of_decide_eq_true hc
  dsimp only at hc
  have hk2:k < a0.list.length:=by omega
  dsimp only
  rw [gIn (List.getElem?_eq_getElem hk2),bindU,Vaa (n:=(k:Int)+1) (by omega) (by omega)]
  refine Ok.some ⟨⟨k+1,_,hk2,rfl⟩,?_⟩
  dsimp only
  omega
 ·exact Ok.some rfl
theorem Vy4 (a0:Jb) (hl:a0.list.length < 9223372036854775808) (h1:in64 a0.jc) (h2:in64 a0.jf) (h3:in64 a0.jj) (h4:in64 a0.jb) (h5:in64 a0.count) (h6:in64 a0.kind):Ok (Zdo a0) λr=>r.2.1=true->SaneQ a0:=by
 unfold Zdo
 refine Ok.bind (Ok.mono (Ve8a a0 hl) ?_)
 rintro ⟨⟨b,_⟩,t,_⟩ hz
 have hz:b=a0:=congrArg Prod.fst hz
 subst hz
 have no:Ok (some ((),(false,())):Option (Unit×(Bool×Unit))) λr=>r.2.1=true->SaneQ b:=Ok.some λh=>by cases h
 refine Ok.cond (λ_=>?_) (λ_=>no)
 refine Ok.cond (λc1=>?_) (λ_=>no)
 refine Ok.cond (λc2=>?_) (λ_=>no)
 refine Ok.cond (λc3=>?_) (λ_=>no)
 refine Ok.cond (λc4=>?_) (λ_=>no)
 refine Ok.cond (λc5=>?_) (λ_=>no)
 refine Ok.cond (λc6=>?_) (λ_=>no)
 refine Ok.some λc7=>?_
 dsimp only at *
 have c1:=of_decide_eq_true c1
 have c2:=of_decide_eq_true c2
 have c3:=of_decide_eq_true c3
 have c4:=of_decide_eq_true c4
 have c5:=of_decide_eq_true c5
 have c6:=of_decide_eq_true c6
 have c7:=of_decide_eq_true c7
 exact ⟨by omega,by omega,by omega,by omega,by omega,by omega,by omega,h1,h2,h3,h4,h5,h6⟩
theorem Ve9a (a0:Jb) (h:DOk (den cd (encV cd (.agg 3) a0))):Ok (Zdo a0) λr=>r.2.1=true->SaneQ a0:=by
 change DOkL (eD3 a0) at h
 simp only [eD3,DOkL,DOk,List.length_map,maxLen] at h
 obtain ⟨k1,k2,k3,k4,k5,k6,k7,k8,k9,k10,k11,k12,k13,k14,k15,k16,k17,k18,k19,k20,k21,_⟩:=h
 exact Vy4 a0 (by have:=k8.1; omega) (Vjv k6) (Vjv k7) (Vjv k13) (Vjv k19) (Vjv k21) (Vjv k1)
theorem Va6a:Zdn=some ((),true,()):=by kernel_rfl
theorem Ve2 (hreq:∀ a b:Int,in64 a->in64 b->Ok (Zcb a b) λr=>SaneQ r.2.1) (a0:Jb) (a1 a2:Int) (hd:MessageValidates_dom a0 a1 a2):Ok (Zac a0 a1 a2) λr=>r.2.1=true:=by
 unfold Zac
 refine Ok.bind (Ok.mono (Ve9a a0 hd.1) ?_)
 rintro ⟨_,l,_⟩ hs
 dsimp only at *
 cases l
 ·rw [Va6a]
  exact Ok.some rfl
 ·rw [Bool.not_true,cond_false,Vij a0 (hs rfl),bindU]
  dsimp only
  rw [cond_true]
  refine Ok.bind (Ok.mono (hreq a1 a2 (Vvn hd.2.1) (Vvn hd.2.2.1)) ?_)
  rintro ⟨_,r,_⟩ hr
  dsimp only at *
  rw [Vij r hr,bindU]
  dsimp only
  rw [cond_true,Va6a]
  exact Ok.some rfl
end Go.Proofs.YtancibcbaajjkaaGreatDoor

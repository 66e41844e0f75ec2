/- The beginning of a ceremony: both sides do the same. No condition. -/
import Derived.Test.YtaddhgkhilmniaaGreatDoorCbB
set_option linter.unusedVariables false
set_option linter.unusedSimpArgs false
set_option maxRecDepth 100000
namespace Go.Proofs.YtaddhgkhilmniaaGreatDoor
open Go Go.Abs Sip
open _root_.Bool renaming not_true → Qa, not_false → Qb
open _root_.List renaming getElem?_eq_getElem → Qc, getElem?_eq_none → Qd, replicate → Qh
open _root_.Int renaming toNat_natCast → Qf
open Go.IntKind renaming wrap → Qg
theorem Vxp (l:List UInt8) (h:l.length<=140737488355328):Zlf l=some ((),l,()):=by
 unfold Zlf;rw [show decide (l.length<=140737488355328)=true by simp; omega];rfl
theorem Vbaa (a1:Int) (c:Jb) (op:Int×List UInt8×List UInt8×List UInt8×List UInt8×List (List UInt8)×Int×Int×Bool×Int×Bool×Int×Unit) (z1:Jb) (z2:Jp) (d:List UInt8) (L:List (List UInt8)) (hL:L.length<=1000) (hx:∀ b∈L,b.length<=140737488355328) :
  Zks_L0 (a1,(c,()),op,(z1,()),(z2,()),d,Qh L.length [],L,(L.length:Int),0,())=some (a1,(c,()),op,(z1,()),(z2,()),d,L,()):=by
 have:Ok (Zks_L0 (a1,(c,()),op,(z1,()),(z2,()),d,Qh L.length [],L,(L.length:Int),0,())) λz=>z=(a1,(c,()),op,(z1,()),(z2,()),d,L,()):=by
  unfold Zks_L0 Yi10;refine Ok.iter (λq=>∃ (j:Nat) (A:List (List UInt8)),q=(a1,(c,()),op,(z1,()),(z2,()),d,A,L,(L.length:Int),(j:Int),())/\j<=L.length/\A.length=L.length/\∀ i < j,A[i]? = L[i]?) (λq=>2000 - q.2.2.2.2.2.2.2.2.2.1.toNat) ⟨0,_,rfl,by omega,by simp,by simp⟩ (by rw [Vab]; dsimp only; omega) ?_;rintro q ⟨j,A,rfl,h1,h2,h3⟩;dsimp only;unfold Zks_L0b;refine Ok.cond (λhc=>?_) (λhc=>?_)
  ·have hj:j < L.length:=by
    have:=of_decide_eq_true hc;omega
   rw [Viy,Qc hj];simp only [bindS];rw [Vxp _ (hx _ (List.getElem_mem hj))];simp only [bindS];rw [show (decide ((0:Int)<=(j:Int))&&decide ((j:Int) < (A.length:Int)))=true by simp; omega,wI ((j:Int)+1) (by omega)];simp only [cond_true,Qf];rw [Qc (by omega)];simp only [bindS];refine Ok.some ⟨⟨j+1,_,rfl,by omega,by rw [List.length_set]; omega,?_⟩,by dsimp only; omega⟩;intro i hi;rw [List.getElem?_set];by_cases hij:j=i
   ·subst hij;simp [h2,hj]
   ·simp only [hij,if_false];exact h3 i (by omega)
  ·have hj:¬ j < L.length:=by
    have:=of_decide_eq_false hc;omega
   have:A=L:=by
    apply List.ext_getElem?;intro i;by_cases hi:i < j
    ·exact h3 i hi
    ·rw [Qd (by omega),Qd (by omega)]
   subst this;exact Ok.some rfl
 obtain ⟨z,h1,rfl⟩:=this;exact h1
abbrev zr:Jah:=⟨(0:Int),([]:List UInt8),[],[],[],(0:Int),[],([]:List UInt8)⟩
theorem Vof (c:Jb) (now:Int) (o:Jf) (cr:Bool) (t:List UInt8) (x:Jr) (hs:∀ s∈c.jah,s.jd.length<=500) (hd:0<=c.jaa/\c.jaa<=1000) (ho:o.ju.length<=300) (ht:t.length<=300) (hc:x.jt.length<=2000) (hl:x.list.length<=1000) (hx:∀ b∈x.list,b.length<=140737488355328) :
  ∃ c' l r,Zks c now o cr t x=some ((),c',l,r,())/\Zfo c now o cr t x=some ((),c',l,r,())/\c'.jah=c.jah/\0<=c'.jaa/\c'.jaa<=c.jaa+1/\l.length<=1/\r.jad.jh=[]/\(c'=c\/c'.js=x):=by
 unfold Zks Zgc Zfo;by_cases hp:c.jy=0;rotate_left
 ·exact ⟨c,[],⟨true,32,zr⟩,by simp only [hp,decide_false,Qb,cond_true],by simp only [hp,decide_false,Qb,cond_true],rfl,hd.1,by omega,by simp,rfl,.inl rfl⟩
 by_cases h1:now < 0
 ·exact ⟨c,[],⟨true,9,zr⟩,by simp only [hp,h1,decide_true,Qa,cond_false,cond_true,bindS]; rfl,by simp only [hp,h1,decide_true,Qa,cond_false,cond_true],rfl,hd.1,by omega,by simp,rfl,.inl rfl⟩
 by_cases h2:1099511627776 < now
 ·exact ⟨c,[],⟨true,9,zr⟩,by simp only [hp,h1,h2,decide_true,decide_false,Qa,cond_false,cond_true,bindS]; rfl,by simp only [hp,h1,h2,decide_true,decide_false,Qa,cond_false,cond_true],rfl,hd.1,by omega,by simp,rfl,.inl rfl⟩
 simp only [hp,h1,h2,decide_true,decide_false,Qa,cond_false,Vp4,Voo,bindS];have hfl:=Vwc o ho;generalize (fmtO o).1=ot at hfl;generalize (fmtO o).2=oe;by_cases hf:oe=0;rotate_left
 ·exact ⟨c,[],⟨true,oe,zr⟩,by simp only [hf,decide_false,Qb,cond_true,bindS],by simp only [hf,decide_false,Qb,cond_true],rfl,hd.1,by omega,by simp,rfl,.inl rfl⟩
 subst hf;obtain ⟨dt,de,e1,e2⟩:=Vpi x.kind x.jt ot cr t hfl (by omega);simp only [decide_true,Qa,cond_false,e1,e2,bindS];by_cases he:de=0;rotate_left
 ·exact ⟨c,[],⟨true,de,zr⟩,by simp only [he,decide_false,Qb,cond_true,bindS],by simp only [he,decide_false,Qb,cond_true],rfl,hd.1,by omega,by simp,rfl,.inl rfl⟩
 subst he;simp only [decide_true,Qa,cond_false,Vop,Vl5 c.jah o x.rP (λs h=>by have:=hs s h; omega),bindS];generalize permV c.jah o x.rP=pe;by_cases hpe:pe=0;rotate_left
 ·exact ⟨c,[],⟨true,pe,zr⟩,by simp only [hpe,decide_false,Qb,cond_true,bindS],by simp only [hpe,decide_false,Qb,cond_true],rfl,hd.1,by omega,by simp,rfl,.inl rfl⟩
 subst hpe;by_cases h3:x.jo < 0
 ·exact ⟨c,[],⟨true,9,zr⟩,by simp only [h3,decide_true,Qa,cond_false,cond_true,bindS]; rfl,by simp only [h3,decide_true,Qa,cond_false,cond_true],rfl,hd.1,by omega,by simp,rfl,.inl rfl⟩
 by_cases h4:2 < x.jo
 ·exact ⟨c,[],⟨true,9,zr⟩,by simp only [h3,h4,decide_true,decide_false,Qa,cond_false,cond_true,bindS]; rfl,by simp only [h3,h4,decide_true,decide_false,Qa,cond_false,cond_true],rfl,hd.1,by omega,by simp,rfl,.inl rfl⟩
 simp only [h3,h4,decide_true,decide_false,Qa,cond_false,bindS,Vxp x.jt (by omega)];rw [show (decide ((0:Int)<=(x.list.length:Int))&&(decide ((x.list.length:Int)<=(x.list.length:Int))&&decide ((24:Int) * (x.list.length:Int)<=281474976710656/\(x.list.length:Int)<=9223372036854775807)))=true by simp; omega];simp only [cond_true,Qf];rw [Vbaa _ _ _ _ _ _ x.list hl hx];have w1:Qg .i64 (c.jaa+1)=c.jaa+1:=Vbl (by omega) (by omega);have w2:Qg .i64 (c.jaa+1 - 1)=c.jaa:=by rw [show c.jaa+1 - 1=c.jaa by omega]; exact Vbl (by omega) (by omega)
 unfold Zlm Zby Zmd Zfh Zbz;simp only [bindS,w1,w2,Vzb c.jak [99,108,105,101,110,116] c.jaa (by simp),Vzc c.jak [99,108,105,101,110,116] c.jaa (by simp),dW1,rW1,Vzd _ _ (Vfz _),Vze _ _ (Vfz _)];exact ⟨_,_,_,rfl,rfl,rfl,by dsimp only; omega,by dsimp only; omega,by simp,rfl,.inr rfl⟩
end Go.Proofs.YtaddhgkhilmniaaGreatDoor

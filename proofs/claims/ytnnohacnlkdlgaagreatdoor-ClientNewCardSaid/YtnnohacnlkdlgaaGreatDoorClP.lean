/- The law ClientNew, plainly. No condition. -/
import Derived.Test.YtnnohacnlkdlgaaGreatDoorClA
import Derived.Test.YtnnohacnlkdlgaaGreatDoorClH
set_option linter.unusedVariables false
set_option linter.unusedSimpArgs false
set_option maxRecDepth 100000
namespace Go.Proofs.YtnnohacnlkdlgaaGreatDoor
open Go Go.Abs
abbrev zc:Jc:=⟨[],0#64,(0:Int),(0:Int),⟨0#32,(0:Int),(0:Int),[],(0:Int)⟩,⟨(0:Int),([]:List UInt8),[],([]:List UInt8),([]:List UInt8),[],(0:Int),(0:Int),false,(0:Int),false,(0:Int)⟩,([]:List UInt8),false,0#64,0#64,([]:List UInt8),0#64,false,(0:Int)⟩
abbrev oneC (a0:BitVec 64) (l:List Jb):Jc:=⟨l,a0,(0:Int),(0:Int),⟨0#32,(0:Int),(0:Int),[],(0:Int)⟩,⟨(0:Int),([]:List UInt8),[],([]:List UInt8),([]:List UInt8),[],(0:Int),(0:Int),false,(0:Int),false,(0:Int)⟩,([]:List UInt8),false,0#64,0#64,([]:List UInt8),0#64,false,(0:Int)⟩
def newC (a0:BitVec 64) (l:List Jb):Jc×Int:=bif decide (64 < l.length) then (zc,8) else bif l.all fok then (oneC a0 l,0) else (zc,4)
theorem fmt2 (s:Jb):(fmt s).2=bif fok s then 0 else 4:=by
 unfold fmt
 cases fok s<;>rfl
theorem Vfj {γ β:Type} (p:γ->Bool) (b:β) (fin:List γ->β):∀ (r:List γ) (i:Nat) (A:List γ),scan (λ_ x A=>bif p x then Sum.inl (A++[x]) else .inr b) fin i r A=bif r.all p then fin (A++r) else b
 | [],i,A=>by simp [scan]
 | x::r,i,A=>by
  unfold scan
  cases hp:p x
  ·simp [hp]
  ·simp only [cond_true]
   rw [Vfj p b fin r]
   simp [hp]
theorem Vyp (a0:BitVec 64) (l:List Jb) (h:∀ s∈l,s.jb.length<=500):Zkt a0 l=some ((),(newC a0 l).1,(newC a0 l).2,()):=by
 unfold Zkt newC
 by_cases hl:64 < l.length
 ·rw [show decide ((64:Int) < (l.length:Int))=true by simp; omega,show decide (64 < l.length)=true by simp; omega]
  rfl
 ·rw [show decide ((64:Int) < (l.length:Int))=false by simp; omega,show decide (64 < l.length)=false by simp; omega]
  simp only [cond_false]
  rw [show (decide ((0:Int)<=(0:Int))&&(decide ((0:Int)<=(l.length:Int))&&decide ((32:Int) * (l.length:Int)<=281474976710656/\(l.length:Int)<=9223372036854775807)))=true by simp; omega]
  simp only [cond_true,List.replicate_zero]
  unfold Zkt_L0 Yi6
  rw [Va7 (λi (A:List Jb)=>(a0,(zc,()),A,l,(l.length:Int),i,())) l (λ_ x A=>bif fok x then .inl (A++[x]) else .inr (.inl ((zc,()),4,()))) (λA=>.inr (a0,(zc,()),A,())) (λi A=>A.length<=i) ?_ ?_ [] (by simp) rounds (by rw [Vah]; omega)]
  ·rw [Vfj]
   cases l.all fok<;>rfl
  ·intro i x A hx hA
   obtain ⟨hi,hx'⟩:=List.getElem?_eq_some_iff.1 hx
   have hxl:=h x (List.mem_of_getElem? hx)
   constructor
   ·simp only [Zkt_L0b]
    have hg:getI l (i:Int)=some x:=by simp [getI,hx]
    rw [hg,show decide ((i:Int) < (l.length:Int))=true by simp; omega,wI ((i:Int)+1) (by omega)]
    simp only [cond_true,bindS,Vh1,fmt2]
    cases hf:fok x
    ·rfl
    ·have:Zjh x.jb=some ((),x.jb,()):=by
      unfold Zjh
      rw [show decide (x.jb.length<=1000000)=true by simp; omega]
      rfl
     simp only [cond_true,decide_true,Bool.not_true,cond_false,this,bindS]
     rw [Vh2 (by simp; omega)]
     rfl
   ·intro A' e
    cases hf:fok x
    ·rw [hf] at e; cases e
    ·rw [hf] at e
     cases e
     simp
     omega
  ·intro A _
   simp only [Zkt_L0b]
   simp
theorem Vw6 (a0:BitVec 64) (l:List Jb) (h:∀ s∈l,s.jb.length<=500):Zhe a0 l=some ((),(newC a0 l).1,(newC a0 l).2,()):=by
 unfold Zhe newC
 by_cases hl:64 < l.length
 ·rw [show decide ((64:Int) < (l.length:Int))=true by simp; omega,show decide (64 < l.length)=true by simp; omega]
  rfl
 ·rw [show decide ((64:Int) < (l.length:Int))=false by simp; omega,show decide (64 < l.length)=false by simp; omega]
  simp only [cond_false]
  unfold Zhe_L0 Yi4
  rw [Va7 (λi (A:List Jb)=>(a0,l,(zc,()),i,())) l (λ_ x A=>bif fok x then .inl (A++[x]) else .inr (.inl ((zc,()),4,()))) (λA=>.inr (a0,l,(zc,()),())) (λ_ _=>True) ?_ ?_ [] trivial rounds (by rw [Vah]; omega)]
  ·rw [Vfj]
   cases l.all fok
   ·rfl
   ·simp only [cond_true,bindS,Sum.elim_inr]
    rw [Vh2 (by omega)]
    rfl
  ·intro i x A hx hA
   obtain ⟨hi,hx'⟩:=List.getElem?_eq_some_iff.1 hx
   have hxl:=h x (List.mem_of_getElem? hx)
   refine ⟨?_,λ_ _=>trivial⟩
   simp only [Zhe_L0b]
   have hg:getI l (i:Int)=some x:=by simp [getI,hx]
   rw [hg,show decide ((i:Int) < (l.length:Int))=true by simp; omega,wI ((i:Int)+1) (by omega)]
   simp only [cond_true,bindS,Vg8 x (by omega),fmt2]
   cases hf:fok x<;>rfl
  ·intro A _
   simp only [Zhe_L0b]
   simp
theorem Vjd (l:List Jb) (hl:l.length<=100) (h:∀ s∈l,s.jb.length<=500):Zbm l l=some ((),true,()):=by
 unfold Zbm
 rw [show decide ((l.length:Int)=(l.length:Int))=true by simp]
 simp only [Bool.not_true,cond_false]
 unfold Zbm_L0 Yi3
 rw [Va7 (λi (A:List Jb)=>(l,l,i,())) l (λ_ x A=>bif true then .inl (A++[x]) else .inr (.inl (false,()))) (λA=>.inr ()) (λ_ _=>True) ?_ ?_ [] trivial rounds (by rw [Vah]; omega)]
 ·rw [Vfj (λ_=>true),show l.all (λ_=>true)=true by simp]
  rfl
 ·intro i x A hx hA
  obtain ⟨hi,hx'⟩:=List.getElem?_eq_some_iff.1 hx
  have hxl:=h x (List.mem_of_getElem? hx)
  refine ⟨?_,λ_ _=>trivial⟩
  simp only [Zbm_L0b]
  have hg:getI l (i:Int)=some x:=by simp [getI,hx]
  rw [hg,show decide ((i:Int) < (l.length:Int))=true by simp; omega,wI ((i:Int)+1) (by omega)]
  simp only [cond_true,bindS,Vkz x x (by omega),decide_true]
  rfl
 ·intro A _
  simp only [Zbm_L0b]
  simp
theorem Vh3 (a0:BitVec 64) (l:List Jb) (h:∀ s∈l,s.jb.length<=500):Zbc (newC a0 l).1 (newC a0 l).1=some ((),true,()):=by
 have key:∀ (s:BitVec 64) (r:List Jb),r.length<=100->(∀ x∈r,x.jb.length<=500)->Zbc (oneC s r) (oneC s r)=some ((),true,()):=by
  intro s r hr hx
  unfold Zbc
  rw [Vjd r hr hx]
  simp only [bindS,cond_true,decide_true]
  rfl
 unfold newC
 by_cases hl:64 < l.length
 ·rw [show decide (64 < l.length)=true by simp; omega]
  exact key 0#64 [] (by simp) (by simp)
 ·rw [show decide (64 < l.length)=false by simp; omega]
  simp only [cond_false]
  cases l.all fok
  ·exact key 0#64 [] (by simp) (by simp)
  ·exact key a0 l (by omega) h
theorem Vk0 {β:Type} (K:Unit×Bool×Unit->Option β) (Q:β->Prop) (h:Ok (K ((),true,())) Q):Ok (Zdy.bind K) Q:=by
 rw [Vtp]; exact h
theorem L2_ok (a0:BitVec 64) (l:List Jb) (a2 a3:Int) (j:Nat) (x:Jb) (hx:l[j]? = some x) (hj:j < 100):Ok (Zbh_L2 (a0,l,a2,a3,(j:Int),0,0,())) λr=>r = .inl (true,())\/(x.jb.length<=500/\r = .inr (a0,l,a2,a3,(j:Int),())):=by
 unfold Zbh_L2 Yi7
 refine Ok.iter (λq=>q.1=a0/\q.2.1=l/\q.2.2.1=a2/\q.2.2.2.1=a3/\q.2.2.2.2.1=(j:Int)/\0<=q.2.2.2.2.2.2.1/\q.2.2.2.2.2.2.1<=q.2.2.2.2.2.1/\q.2.2.2.2.2.1<=500/\q.2.2.2.2.2.2.1<=(x.jb.length:Int)) (λq=>501 - q.2.2.2.2.2.2.1.toNat) ⟨rfl,rfl,rfl,rfl,rfl,by simp,by simp,by simp,by simp⟩ (by rw [Vah]; dsimp only; omega) ?_
 rintro ⟨y0,y1,y2,y3,y4,t,i,u⟩ ⟨h1,h2,h3,h4,h5,h6,h7,h8,h9⟩
 dsimp only at *
 subst h1; subst h2; subst h3; subst h4; subst h5
 have hg:getI y1 (j:Int)=some x:=by simp [getI,hx]
 simp only [Zbh_L2b]
 rw [hg]
 simp only [bindS]
 refine Ok.cond (λhc=>?_) (λhc=>?_)
 ·have hi:i < (x.jb.length:Int):=by simpa using hc
  have hgi:∃ y,getI x.jb i=some y:=by
   refine ⟨x.jb[i.toNat]'(by omega),?_⟩
   unfold getI
   rw [show decide ((0:Int)<=i)=true by simp; omega]
   simp
  obtain ⟨y,hy⟩:=hgi
  simp only [hy,bindS]
  generalize hv:(bif decide ((500:Int) < (y.length:Int)) then (500:Int) else (y.length:Int))=v
  have hv0:0<=v/\v<=500:=by
   subst hv
   by_cases h:(500:Int) < (y.length:Int)
   ·simp [h]
   ·simp only [h,decide_false,cond_false]; omega
  rw [wI (v+1) (by omega),wI (t+(v+1)) (by omega)]
  refine Ok.cond (λhc=>?_) (λhc=>?_)
  ·exact Vk0 _ _ (Ok.some (.inl rfl))
  ·have ht:t+(v+1)<=500:=by simpa using hc
   rw [wI (i+1) (by omega)]
   refine Ok.some ⟨⟨rfl,rfl,rfl,rfl,rfl,by dsimp only; omega,by dsimp only; omega,by dsimp only; omega,by dsimp only; omega⟩,by dsimp only; omega⟩
 ·have hi:¬ i < (x.jb.length:Int):=by simpa using hc
  exact Ok.some (.inr ⟨by omega,rfl⟩)
theorem L0_ok (a0:BitVec 64) (l:List Jb) (a2 a3:Int) (hl:l.length<=70):Ok (Zbh_L0 (a0,l,a2,a3,0,())) λr=>r = .inl (true,())\/((∀ s∈l,s.jb.length<=500)/\r = .inr (a0,l,a2,a3,())):=by
 unfold Zbh_L0 Yi5
 refine Ok.iter (λq=>q.1=a0/\q.2.1=l/\q.2.2.1=a2/\q.2.2.2.1=a3/\∃ j:Nat,q.2.2.2.2.1=(j:Int)/\j<=l.length/\∀ k < j,∀ s,l[k]? = some s->s.jb.length<=500) (λq=>100 - q.2.2.2.2.1.toNat) ⟨rfl,rfl,rfl,rfl,0,rfl,by simp,by simp⟩ (by rw [Vah]; dsimp only; omega) ?_
 rintro ⟨y0,y1,y2,y3,y4,u⟩ ⟨h1,h2,h3,h4,j,h5,h6,h7⟩
 dsimp only at *
 subst h1; subst h2; subst h3; subst h4; subst h5
 simp only [Zbh_L0b]
 refine Ok.cond (λhc=>?_) (λhc=>?_)
 ·have hj:j < y1.length:=by
   have:=of_decide_eq_true hc
   omega
  obtain ⟨r,e,hr⟩:=L2_ok y0 y1 y2 y3 j y1[j] (by simp) (by omega)
  rw [e]
  simp only [bindS]
  rcases hr with rfl | ⟨hx,rfl⟩
  ·exact Ok.some (.inl rfl)
  ·simp only [Sum.elim_inr]
   rw [wI ((j:Int)+1) (by omega)]
   refine Ok.some ⟨⟨rfl,rfl,rfl,rfl,j+1,rfl,by omega,?_⟩,by dsimp only; omega⟩
   intro k hk s hs
   by_cases hkj:k=j
   ·subst hkj
    rw [List.getElem?_eq_getElem hj,Option.some.injEq] at hs
    rw [<- hs]; exact hx
   ·exact h7 k (by omega) s hs
 ·have hj:¬ j < y1.length:=by
   have:=of_decide_eq_false hc
   omega
  refine Ok.some (.inr ⟨?_,rfl⟩)
  intro s hs
  obtain ⟨k,hk,rfl⟩:=List.getElem_of_mem hs
  exact h7 k (by omega) _ (by simp)
theorem L4_ok (a0:BitVec 64) (l:List Jb) (a3:Int) (r:List Jb) (hr:r.length<=8) (hrs:∀ s∈r,s.jb.length<=500):Ok (Zbh_L4 (a0,l,a3,r,0,())) λz=>z.1=a0/\z.2.1=l/\∀ s∈z.2.2.1,s.jb.length<=500:=by
 obtain ⟨k,hk,e⟩:=Vyo a3 70 (by omega) (by omega)
 rw [show ((70:Nat):Int)=70 from rfl] at e
 unfold Zbh_L4 Yi5
 refine Ok.iter (λq=>q.1=a0/\q.2.1=l/\q.2.2.1=a3/\(∀ s∈q.2.2.2.1,s.jb.length<=500)/\0<=q.2.2.2.2.1/\(q.2.2.2.1.length:Int)<=8+q.2.2.2.2.1/\q.2.2.2.2.1<=k) (λq=>100 - q.2.2.2.2.1.toNat) ⟨rfl,rfl,rfl,hrs,by simp,by dsimp only; omega,by simp⟩ (by rw [Vah]; dsimp only; omega) ?_
 rintro ⟨y0,y1,y2,y3,i,u⟩ ⟨h1,h2,h3,h4,h5,h6,h7⟩
 dsimp only at *
 subst h1; subst h2; subst h3
 simp only [Zbh_L4b]
 rw [e]
 simp only [bindS]
 refine Ok.cond (λhc=>?_) (λhc=>?_)
 ·have hi:i < (k:Int):=of_decide_eq_true hc
  rw [Vh2 (by simp; omega),wI (i+1) (by omega)]
  simp only [cond_true]
  refine Ok.some ⟨⟨rfl,rfl,rfl,?_,by dsimp only; omega,by simp; omega,by dsimp only; omega⟩,by dsimp only; omega⟩
  intro s hs
  rcases List.mem_append.1 hs with hs | hs
  ·exact h4 s hs
  ·rw [List.mem_singleton.1 hs]; simp
 ·exact Ok.some ⟨rfl,rfl,h4⟩
theorem L6_ok (a0:BitVec 64) (l m:List Jb) (hl:∀ s∈l,s.jb.length<=500) (hm:∀ s∈m,s.jb.length<=500):Zbh_L6 (a0,[l,m],2,0,())=some (.inr ()):=by
 have step:∀ (j:Int) (r:List Jb),0<=j->j < 2->[l,m][j.toNat]? = some r->(∀ s∈r,s.jb.length<=500)->Zbh_L6b a0 [l,m] 2 j=some (.inl (a0,[l,m],2,j+1,())):=by
  intro j r h0 h1 hr hs
  unfold Zbh_L6b
  rw [hr,show decide (j < 2)=true by simp; omega,show (decide ((0:Int)<=j)&&decide (j < (([l,m]:List (List Jb)).length:Int)))=true by simp; omega,wI (j+1) (by omega)]
  simp only [cond_true,bindS,Vyp a0 r hs,Vw6 a0 r hs,Vh3 a0 r hs,decide_true,Bool.not_true,cond_false]
 unfold Zbh_L6 Yi4
 rw [Vah,Vam]
 dsimp only
 rw [step 0 l (by omega) (by omega) rfl hl,bindS,Sum.elim_inl,Vam]
 dsimp only
 rw [show ((0:Int)+1)=1 from rfl,step 1 m (by omega) (by omega) rfl hm,bindS,Sum.elim_inl,Vam]
 rfl
theorem Vfz (a0:BitVec 64) (a1:List Jb) (a2 a3:Int) (hd:ClientNew_dom a0 a1 a2 a3):Ok (Zbh a0 a1 a2 a3) λr=>r.2.1=true:=by
 unfold Zbh
 refine Ok.cond (λhc=>Vk0 _ _ (Ok.some rfl)) (λhc=>?_)
 have hl:a1.length<=70:=by
  have:=of_decide_eq_false hc
  omega
 obtain ⟨r,e,hr⟩:=L0_ok a0 a1 a2 a3 hl
 rw [e]
 simp only [bindS]
 rcases hr with rfl | ⟨hs,rfl⟩
 ·exact Ok.some rfl
 ·simp only [Sum.elim_inr]
  obtain ⟨R,eR,hR,hRs⟩:=Vtz a2
  rw [eR]
  simp only [bindS]
  obtain ⟨z,ez,z1,z2,z3⟩:=L4_ok a0 a1 a3 R hR (λs h=>by
   obtain ⟨j,hj,_⟩:=hRs s h
   have:=Vt0 hj
   omega)
  rw [ez]
  obtain ⟨w0,w1,w2,u⟩:=z
  dsimp only at z1 z2 z3
  subst z1; subst z2
  simp only [bindS]
  rw [L6_ok w0 w1 w2 hs z3]
  simp only [bindS,Sum.elim_inr]
  exact Vk0 _ _ (Ok.some rfl)
end Go.Proofs.YtnnohacnlkdlgaaGreatDoor

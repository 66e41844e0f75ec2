/- The law ClientBegins, plainly. Ids of the list must be such as can be copied. -/
import Derived.Test.YtaddhgkhilmniaaGreatDoorCbD
set_option linter.unusedVariables false
set_option linter.unusedSimpArgs false
set_option maxRecDepth 100000
namespace Go.Proofs.YtaddhgkhilmniaaGreatDoor
open Go Go.Abs Sip
open _root_.Bool renaming not_true → Qa
open _root_.List renaming mem_of_getElem? → Qb, length_cons → Qc, length_nil → Qd
abbrev zc:Jb:=⟨[],0#64,(0:Int),(0:Int),⟨0#32,(0:Int),(0:Int),[],(0:Int)⟩,⟨(0:Int),([]:List UInt8),[],([]:List UInt8),([]:List UInt8),[],(0:Int),(0:Int),false,(0:Int),false,(0:Int)⟩,([]:List UInt8),false,0#64,0#64,([]:List UInt8),0#64,false,(0:Int)⟩
abbrev oneC (a0:BitVec 64) (l:List Jc):Jb:=⟨l,a0,(0:Int),(0:Int),⟨0#32,(0:Int),(0:Int),[],(0:Int)⟩,⟨(0:Int),([]:List UInt8),[],([]:List UInt8),([]:List UInt8),[],(0:Int),(0:Int),false,(0:Int),false,(0:Int)⟩,([]:List UInt8),false,0#64,0#64,([]:List UInt8),0#64,false,(0:Int)⟩
def newC (a0:BitVec 64) (l:List Jc):Jb×Int:=bif decide (64 < l.length) then (zc,8) else bif l.all fok then (oneC a0 l,0) else (zc,4)
theorem fmt2 (s:Jc):(fmt s).2=bif fok s then 0 else 4:=by
 unfold fmt;cases fok s<;>rfl
theorem Vd6 {γ β:Type} (p:γ->Bool) (b:β) (fin:List γ->β):∀ (r:List γ) (i:Nat) (A:List γ),scan (λ_ x A=>bif p x then Sum.inl (A++[x]) else .inr b) fin i r A=bif r.all p then fin (A++r) else b
 | [],i,A=>by simp [scan]
 | x::r,i,A=>by
  unfold scan;cases hp:p x
  ·simp [hp]
  ·simp only [cond_true];rw [Vd6 p b fin r];simp [hp]
theorem Vbfa (a0:BitVec 64) (l:List Jc) (h:∀ s∈l,s.jd.length<=500):Zlz a0 l=some ((),(newC a0 l).1,(newC a0 l).2,()):=by
 unfold Zlz newC;by_cases hl:64 < l.length
 ·rw [show decide ((64:Int) < (l.length:Int))=true by simp; omega,show decide (64 < l.length)=true by simp; omega];rfl
 ·rw [show decide ((64:Int) < (l.length:Int))=false by simp; omega,show decide (64 < l.length)=false by simp; omega];simp only [cond_false];rw [show (decide ((0:Int)<=(0:Int))&&(decide ((0:Int)<=(l.length:Int))&&decide ((32:Int) * (l.length:Int)<=281474976710656/\(l.length:Int)<=9223372036854775807)))=true by simp; omega];simp only [cond_true,List.replicate_zero];unfold Zlz_L0 Yi6;rw [Vam (λi (A:List Jc)=>(a0,(zc,()),A,l,(l.length:Int),i,())) l (λ_ x A=>bif fok x then .inl (A++[x]) else .inr (.inl ((zc,()),4,()))) (λA=>.inr (a0,(zc,()),A,())) (λi A=>A.length<=i) ?_ ?_ [] (by simp) rounds (by rw [Vab]; omega)]
  ·rw [Vd6];cases l.all fok<;>rfl
  ·intro i x A hx hA;obtain ⟨hi,hx'⟩:=List.getElem?_eq_some_iff.1 hx;have hxl:=h x (Qb hx);constructor
   ·simp only [Zlz_L0b];have hg:getI l (i:Int)=some x:=by simp [getI,hx]
    rw [hg,show decide ((i:Int) < (l.length:Int))=true by simp; omega,wI ((i:Int)+1) (by omega)];simp only [cond_true,bindS,Vez,fmt2];cases hf:fok x
    ·rfl
    ·have:Zkm x.jd=some ((),x.jd,()):=by
      unfold Zkm;rw [show decide (x.jd.length<=1000000)=true by simp; omega];rfl
     simp only [cond_true,decide_true,Qa,cond_false,this,bindS];rw [Vl4 (by simp; omega)];rfl
   ·intro A' e;cases hf:fok x
    ·rw [hf] at e; cases e
    ·rw [hf] at e;cases e;simp;omega
  ·intro A _;simp only [Zlz_L0b];simp
theorem Vzi (a0:BitVec 64) (l:List Jc) (h:∀ s∈l,s.jd.length<=500):Zii a0 l=some ((),(newC a0 l).1,(newC a0 l).2,()):=by
 unfold Zii newC;by_cases hl:64 < l.length
 ·rw [show decide ((64:Int) < (l.length:Int))=true by simp; omega,show decide (64 < l.length)=true by simp; omega];rfl
 ·rw [show decide ((64:Int) < (l.length:Int))=false by simp; omega,show decide (64 < l.length)=false by simp; omega];simp only [cond_false];unfold Zii_L0 Yi4;rw [Vam (λi (A:List Jc)=>(a0,l,(zc,()),i,())) l (λ_ x A=>bif fok x then .inl (A++[x]) else .inr (.inl ((zc,()),4,()))) (λA=>.inr (a0,l,(zc,()),())) (λ_ _=>True) ?_ ?_ [] trivial rounds (by rw [Vab]; omega)]
  ·rw [Vd6];cases l.all fok
   ·rfl
   ·simp only [cond_true,bindS,Sum.elim_inr];rw [Vl4 (by omega)];rfl
  ·intro i x A hx hA;obtain ⟨hi,hx'⟩:=List.getElem?_eq_some_iff.1 hx;have hxl:=h x (Qb hx);refine ⟨?_,λ_ _=>trivial⟩;simp only [Zii_L0b];have hg:getI l (i:Int)=some x:=by simp [getI,hx]
   rw [hg,show decide ((i:Int) < (l.length:Int))=true by simp; omega,wI ((i:Int)+1) (by omega)];simp only [cond_true,bindS,Vej x (by omega),fmt2];cases hf:fok x<;>rfl
  ·intro A _;simp only [Zii_L0b];simp
theorem Vka (l:List Jc) (hl:l.length<=100) (h:∀ s∈l,s.jd.length<=500):Zbx l l=some ((),true,()):=by
 unfold Zbx;rw [show decide ((l.length:Int)=(l.length:Int))=true by simp];simp only [Qa,cond_false];unfold Zbx_L0 Yi3;rw [Vam (λi (A:List Jc)=>(l,l,i,())) l (λ_ x A=>bif true then .inl (A++[x]) else .inr (.inl (false,()))) (λA=>.inr ()) (λ_ _=>True) ?_ ?_ [] trivial rounds (by rw [Vab]; omega)]
 ·rw [Vd6 (λ_=>true),show l.all (λ_=>true)=true by simp];rfl
 ·intro i x A hx hA;obtain ⟨hi,hx'⟩:=List.getElem?_eq_some_iff.1 hx;have hxl:=h x (Qb hx);refine ⟨?_,λ_ _=>trivial⟩;simp only [Zbx_L0b];have hg:getI l (i:Int)=some x:=by simp [getI,hx]
  rw [hg,show decide ((i:Int) < (l.length:Int))=true by simp; omega,wI ((i:Int)+1) (by omega)];simp only [cond_true,bindS,Vl6 x x (by omega),decide_true];rfl
 ·intro A _;simp only [Zbx_L0b];simp
theorem Vgn (l:List (List UInt8)) (hl:l.length<=1000):Zco l l=some ((),true,()):=by
 unfold Zco;rw [show decide ((l.length:Int)=(l.length:Int))=true by simp];simp only [Qa,cond_false];unfold Zco_L0 Yi3;rw [Vam (λi (A:List (List UInt8))=>(l,l,i,())) l (λ_ x A=>bif true then .inl (A++[x]) else .inr (.inl (false,()))) (λA=>.inr ()) (λ_ _=>True) ?_ ?_ [] trivial rounds (by rw [Vab]; omega)]
 ·rw [Vd6 (λ_=>true),show l.all (λ_=>true)=true by simp];rfl
 ·intro i x A hx hA;obtain ⟨hi,hx'⟩:=List.getElem?_eq_some_iff.1 hx;refine ⟨?_,λ_ _=>trivial⟩;simp only [Zco_L0b];have hg:getI l (i:Int)=some x:=by simp [getI,hx]
  rw [hg,show decide ((i:Int) < (l.length:Int))=true by simp; omega,wI ((i:Int)+1) (by omega)];simp only [cond_true,bindS,decide_true];rfl
 ·intro A _;simp only [Zco_L0b];simp
theorem Vlt (p:Jaj):Zcl p p=some ((),true,()):=by
 unfold Zcl;simp
theorem Vh6 (x:Jr) (h:x.list.length<=1000):Zay x x=some ((),true,()):=by
 unfold Zay;rw [Vgn _ h];simp
theorem Viz (c:Jb) (h0:c.jah.length<=100) (h:∀ s∈c.jah,s.jd.length<=500) (hl:c.js.list.length<=1000):Zbm c c=some ((),true,()):=by
 unfold Zbm;rw [Vka _ h0 h,Vlt,Vh6 _ hl];simp
theorem Vi0 (p:Je):Zbi p p=some ((),true,()):=by
 unfold Zbi;simp
theorem Vh7 (l:List Je) (hl:l.length<=1000):Zav l l=some ((),true,()):=by
 unfold Zav;rw [show decide ((l.length:Int)=(l.length:Int))=true by simp];simp only [Qa,cond_false];unfold Zav_L0 Yi3;rw [Vam (λi (A:List Je)=>(l,l,i,())) l (λ_ x A=>bif true then .inl (A++[x]) else .inr (.inl (false,()))) (λA=>.inr ()) (λ_ _=>True) ?_ ?_ [] trivial rounds (by rw [Vab]; omega)]
 ·rw [Vd6 (λ_=>true),show l.all (λ_=>true)=true by simp];rfl
 ·intro i x A hx hA;obtain ⟨hi,hx'⟩:=List.getElem?_eq_some_iff.1 hx;refine ⟨?_,λ_ _=>trivial⟩;simp only [Zav_L0b];have hg:getI l (i:Int)=some x:=by simp [getI,hx]
  rw [hg,show decide ((i:Int) < (l.length:Int))=true by simp; omega,wI ((i:Int)+1) (by omega)];simp only [cond_true,bindS,Vi0];rfl
 ·intro A _;simp only [Zav_L0b];simp
theorem Vi1 (r:Jp) (h:r.jad.jh=[]):Zbn r r=some ((),true,()):=by
 unfold Zbn Zam;rw [Vgn _ (by rw [h]; simp)];simp
theorem Vfg {β:Type} (K:Unit×Bool×Unit->Option β) (Q:β->Prop) (h:Ok (K ((),true,())) Q):Ok (Zeu.bind K) Q:=by
 rw [Vvz]; exact h
def GoodX (x:Jr):Prop:=x.rP.length<=200/\x.jt.length<=1024/\x.list.length<=100/\∀ b∈x.list,b.length<=140737488355328
theorem Vvx {x:Jr} (h:GoodL x.rP x.jt x.list 100):GoodX x:=⟨by have:=h.1; omega,h.2.1,h.2.2.1,λb hb=>by have:=h.2.2.2 b hb; omega⟩
def GoodC (c:Jb) (i:Int):Prop:=(c.jah.length<=100/\∀ s∈c.jah,s.jd.length<=500)/\(0<=c.jaa/\c.jaa<=i)/\c.js.list.length<=1000
theorem Vvy {β:Type} (n:Int) (h0:0<=n) (h1:n < 8192) {K:Unit×(Jf×Unit)->Option β} {Q:β->Prop} (h:∀ o,o.ju.length<=30->Ok (K ((),o,())) Q):Ok ((Zet n).bind K) Q:=by
 obtain ⟨o,e,ho⟩:=Vp5 n h0 h1;rw [e];exact h o ho
theorem Vpk {β:Type} (d:Jl) (hd:Dk d) {K:((Jl×Unit)×Unit)×(Jr×Unit)->Option β} {Q:β->Prop} (h:∀ d' x,Dk d'->GoodX x->Ok (K (((d',()),()),(x,()))) Q):Ok ((Zap (d,())).bind K) Q:=by
 obtain ⟨⟨⟨⟨d',u1⟩,u2⟩,x,u3⟩,e,h1,h2⟩:=Voh d hd;rw [e];exact h d' x h1 (Vvx h2)
theorem CB_L0 (now:Int) (cr:Bool) (t:List UInt8) (o:Jf) (x:Jr) (d:Jl) (c:Jb) (hd:Dk d) (hc:GoodC c 0) (ho:o.ju.length<=200) (ht:t.length<=200) (hx:GoodX x) :
  Ok (Zaj_L0 (now,cr,t,(o,()),(x,()),(d,()),(c,()),(c,()),0,())) λr=>r = .inr ():=by
 unfold Zaj_L0 Yi9;refine Ok.iter (λq=>∃ (d':Jl) (c':Jb) (i:Int),q=(now,cr,t,(o,()),(x,()),(d',()),(c',()),(c',()),i,())/\Dk d'/\0<=i/\i<=4/\GoodC c' i) (λq=>10 - q.2.2.2.2.2.2.2.2.1.toNat) ⟨d,c,0,rfl,hd,by omega,by omega,hc⟩ (by rw [Vab]; dsimp only; omega) ?_;rintro q ⟨d',c',i,rfl,hd',hi0,hi4,hc'⟩;dsimp only;unfold Zaj_L0b;refine Ok.cond (λhlt=>?_) (λ_=>Ok.some rfl);have hi:i < 4:=of_decide_eq_true hlt;refine Ok.bm (Q:=λ(j:(Int×Bool×(List UInt8)×(Jf×Unit)×(Jr×Unit)×(Jl×Unit)×(Jb×Unit)×(Jb×Unit)×Int×(Jf×Unit)×(Jr×Unit)×Bool×(List UInt8)×Int×Unit))=>∃ (e:Jl) (p:Jf) (y:Jr) (z:Bool) (s:List UInt8) (at':Int),j=(now,cr,t,(o,()),(x,()),(e,()),(c',()),(c',()),i,(p,()),(y,()),z,s,at',())/\Dk e/\p.ju.length<=300/\GoodX y/\s.length<=300) ?_ ?_
 ·refine Ok.cond (λ_=>?_) (λ_=>?_)
  ·refine Vau d' hd' 8192 (by omega) (by omega) λd1 k1 hd1 b0 b1=>?_;dsimp only;refine Vvy k1 b0 b1 λp hp=>?_;dsimp only;refine Vpk d1 hd1 λd2 y hd2 hy=>?_;dsimp only;refine Vau d2 hd2 50 (by omega) (by omega) λd3 k3 hd3 _ _=>?_;dsimp only;refine Vau d3 hd3 4 (by omega) (by omega) λd4 k4 hd4 _ _=>?_;dsimp only;refine Ok.cond (λ_=>?_) (λ_=>?_)
   ·refine Vau d4 hd4 6 (by omega) (by omega) λd5 k5 hd5 _ _=>?_;dsimp only;refine Vbea k5 λs hs=>?_;exact Ok.some ⟨d5,p,y,_,s,k3,rfl,hd5,by omega,hy,by omega⟩
   ·exact Ok.some ⟨d4,p,y,_,[],k3,rfl,hd4,by omega,hy,by simp⟩
  ·exact Ok.some ⟨d',o,x,cr,t,now,rfl,hd',by omega,hx,by omega⟩
 rintro j ⟨e,p,y,z,s,at',rfl,he,hp,hy,hs⟩;dsimp only;refine Ok.bm (Q:=λ(j:(Int×Bool×(List UInt8)×(Jf×Unit)×(Jr×Unit)×(Jl×Unit)×(Jb×Unit)×(Jb×Unit)×Int×(Jf×Unit)×(Jr×Unit)×Bool×(List UInt8)×Int×Unit))=>∃ (p:Jf),j=(now,cr,t,(o,()),(x,()),(e,()),(c',()),(c',()),i,(p,()),(y,()),z,s,at',())/\p.ju.length<=300) ?_ ?_
 ·refine Ok.cond (λ_=>?_) (λ_=>Ok.some ⟨p,rfl,hp⟩);have hyr:=hy.1;rw [bleS (by simp only [Qc,Qd]; omega)];exact Ok.some ⟨_,rfl,by dsimp only; rw [List.length_append]; simp only [Qc,Qd]; omega⟩
 rintro j ⟨p,rfl,hp⟩;dsimp only;obtain ⟨⟨s0,s1⟩,⟨w0,w1⟩,w2⟩:=hc';obtain ⟨c2,l,r,e1,e2,f1,f2,f3,f4,f5,f6⟩:=Vof c' at' p z s y s1 ⟨w0,by omega⟩ hp hs (by have:=hy.2.1; omega) (by have:=hy.2.2.1; omega) hy.2.2.2;have hol:c2.js.list.length<=1000:=by
  rcases f6 with rfl | f6
  ·exact w2
  ·rw [f6]; have:=hy.2.2.1; omega
 rw [e1];simp only [bindS];rw [e2];simp only [bindS];rw [Viz c2 (by rw [f1]; exact s0) (by rw [f1]; exact s1) hol];simp only [bindS,Qa,cond_false];rw [Vh7 l (by omega)];simp only [bindS,Qa,cond_false];rw [Vi1 r f5];simp only [bindS,Qa,cond_false];rw [wI (i+1) (by omega)];exact Ok.some ⟨⟨e,c2,i+1,rfl,he,by omega,by omega,⟨by rw [f1]; exact s0,by rw [f1]; exact s1⟩,⟨f2,by omega⟩,hol⟩,by dsimp only; omega⟩
theorem ClientBegins_plain' (a0:BitVec 64) (a1:Int) (a2:Jf) (a3:Bool) (a4:List UInt8) (a5:Jr) (a6:List Int) (h6:a6.length < 9223372036854775808) (hb:∀ b∈a5.list,b.length<=140737488355328):Ok (Zaj a0 a1 a2 a3 a4 a5 a6) λr=>r.2.1=true:=by
 unfold Zaj;refine Ok.cond (λhc=>Vfg _ _ (Ok.some rfl)) (λhc1=>?_);refine Ok.cond (λhc=>Vfg _ _ (Ok.some rfl)) (λhc2=>?_);refine Ok.cond (λhc=>Vfg _ _ (Ok.some rfl)) (λhc3=>?_);refine Ok.cond (λhc=>Vfg _ _ (Ok.some rfl)) (λhc4=>?_);refine Ok.cond (λhc=>Vfg _ _ (Ok.some rfl)) (λhc5=>?_);have b1:=of_decide_eq_false hc1;have b2:=of_decide_eq_false hc2;have b3:=of_decide_eq_false hc3;have b4:=of_decide_eq_false hc4;have b5:=of_decide_eq_false hc5;unfold Zji;simp only [bindS];refine Vau _ ⟨h6,by simp,by simp⟩ 256 (by omega) (by omega) λd1 k1 hd1 _ _=>?_;dsimp only;obtain ⟨R,eR,hR,hRs⟩:=Vv7 k1;have hRl:∀ s∈R,s.jd.length<=500:=λs h=>by
  obtain ⟨j,hj,_⟩:=hRs s h;have:=Vv8 hj;omega
 rw [eR];simp only [bindS,Vbfa a0 R hRl,Vzi a0 R hRl,decide_true,Qa,cond_false];have hC:GoodC (newC a0 R).1 0:=by
  unfold newC;rw [show decide (64 < R.length)=false by simp; omega];simp only [cond_false];cases R.all fok
  ·exact ⟨⟨by simp,by simp⟩,⟨by simp,by simp⟩,by simp⟩
  ·exact ⟨⟨by simp only [cond_true]; omega,by simpa using hRl⟩,⟨by simp,by simp⟩,by simp⟩
 obtain ⟨r,e,rfl⟩:=CB_L0 a1 a3 a4 a2 a5 d1 (newC a0 R).1 hd1 hC (by omega) (by omega) ⟨by omega,by omega,by omega,hb⟩;rw [e];simp only [bindS,Sum.elim_inr];exact Vfg _ _ (Ok.some rfl)
end Go.Proofs.YtaddhgkhilmniaaGreatDoor

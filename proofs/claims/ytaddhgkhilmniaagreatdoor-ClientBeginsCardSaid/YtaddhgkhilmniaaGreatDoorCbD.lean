/- What is drawn for ClientBegins: bounds and totality. No condition. -/
import Derived.Test.YtaddhgkhilmniaaGreatDoorCbC
set_option linter.unusedVariables false
set_option linter.unusedSimpArgs false
set_option maxRecDepth 100000
namespace Go.Proofs.YtaddhgkhilmniaaGreatDoor
open Go Go.Abs Sip
def Dk (d:Jl):Prop:=d.l.length < 9223372036854775808/\0<=d.at_/\d.at_<=(d.l.length:Int)
theorem Vau {β:Type} (d:Jl) (hd:Dk d) (m:Int) (h0:0 < m) (h1:m < 1000000) {K:((Jl×Unit)×Unit)×(Int×Unit)->Option β} {Q:β->Prop} (h:∀ d' k,Dk d'->0<=k->k < m->Ok (K (((d',()),()),(k,()))) Q):Ok ((Zcg (d,()) m).bind K) Q:=by
 obtain ⟨a1,a2,a3⟩:=hd;unfold Zcg;refine Ok.bind ?_;refine Ok.cond (λ_=>Ok.some (h _ _ ⟨a1,a2,a3⟩ (by omega) h0)) (λhc=>?_);have hlt:d.at_ < (d.l.length:Int):=by
  have:=of_decide_eq_false hc;dsimp only at this;omega
 dsimp only;rw [wI (d.at_+1) (by omega),wI (d.at_+1 - 1) (by omega),show d.at_+1 - 1=d.at_ by omega];have hg:getI d.l d.at_=some (d.l[d.at_.toNat]'(by omega)):=by
  unfold getI;rw [show decide ((0:Int)<=d.at_)=true by simp; omega];simp
 rw [hg];simp only [bindS];obtain ⟨k,hk,e⟩:=Vm6 (d.l[d.at_.toNat]'(by omega)) m.toNat (by omega) (by omega);rw [show ((m.toNat:Nat):Int)=m by omega] at e;rw [e];simp only [bindS];exact Ok.some (h _ _ ⟨a1,by dsimp only; omega,by dsimp only; omega⟩ (by omega) (by omega))
theorem Vbba (a b:BitVec 64):passkeyref1_WordsF [a,b]=some ((),wordsF [a,b],()):=Veo [a,b] (by simp)
theorem Vbca (a b:BitVec 64):(wordsF [a,b]).length=16:=by
 rw [Vgt,List.length_append,Vl0,Vfz]
theorem Vog (k no:BitVec 64) (n:Int):∃ l,Zfr k no n=some ((),l,())/\l.length<=1024:=by
 unfold Zfr;generalize hv:(bif decide ((1024:Int) < (bif decide (n < (0:Int)) then (0:Int) else n)) then (1024:Int) else (bif decide (n < (0:Int)) then (0:Int) else n))=v;have hv0:0<=v/\v<=1024:=by
  subst hv;by_cases h1:n < 0
  ·simp [h1]
  ·by_cases h2:1024 < n
   ·simp [h1,h2]
   ·simp only [h1,h2,decide_false,cond_false]; omega
 have:Ok (Zfr_L0 (k,no,v,[],0,())) λz=>z.1=v/\v<=(z.2.1.length:Int):=by
  unfold Zfr_L0 Yi5;refine Ok.iter (λq=>q.1=k/\q.2.1=no/\q.2.2.1=v/\(q.2.2.2.1.length:Int)=8 * q.2.2.2.2.1/\0<=q.2.2.2.2.1/\q.2.2.2.2.1<=128) (λq=>1000 - q.2.2.2.2.1.toNat) ⟨rfl,rfl,rfl,by simp,by simp,by simp⟩ (by rw [Vab]; dsimp only; omega) ?_;rintro ⟨y0,y1,y2,out,i,u⟩ ⟨h1,h2,h3,h4,h5,h6⟩;dsimp only at *;subst h1; subst h2; subst h3;unfold Zfr_L0b;refine Ok.cond (λhc=>?_) (λhc=>?_)
  ·have hlt:(out.length:Int) < y2:=of_decide_eq_true hc;rw [Vbba];simp only [bindS];unfold Zjl;rw [Vgs _ _ _ (by rw [Vbca]; omega)];simp only [bindS];rw [rW1];simp only [bindS];rw [show small _ 1=true from Vj9 (by rw [Vfz]; omega),wI (i+1) (by omega)];exact Ok.some ⟨⟨rfl,rfl,rfl,by dsimp only; rw [List.length_append,Vfz]; omega,by dsimp only; omega,by dsimp only; omega⟩,by dsimp only; omega⟩
  ·have hlt:¬ (out.length:Int) < y2:=of_decide_eq_false hc;exact Ok.some ⟨rfl,by dsimp only; omega⟩
 obtain ⟨z,e,z1,z2⟩:=this;dsimp only;rw [e];simp only [bindS];rw [z1,show (decide ((0:Int)<=v)&&decide (v<=(z.2.1.length:Int)))=true by simp; omega,show decide (v.toNat<=z.2.1.length)=true by simp; omega];exact ⟨_,rfl,by rw [List.length_take]; omega⟩
theorem Vff {β:Type} (n s:Int) {K:Unit×(List UInt8×Unit)->Option β} {Q:β->Prop} (h:∀ l,l.length<=1024->Ok (K ((),l,())) Q):Ok ((Zgf n s).bind K) Q:=by
 unfold Zgf;obtain ⟨l,e,hl⟩:=Vog ((BitVec.ofInt 64 n)+1#64) (7#64) (bif decide ((bif decide ((1024:Int) < s) then (1024:Int) else s) < (0:Int)) then (0:Int) else (bif decide ((1024:Int) < s) then (1024:Int) else s));refine Ok.bind ?_;dsimp only;rw [e];exact Ok.some (h l hl)
theorem Ok.getM {α β:Type} {l:List α} {i:Nat} {f:α->Option β} {Q:β->Prop} (h:i < l.length) (h2:∀ x∈l,Ok (f x) Q):Ok ((l[i]?).bind f) Q:=by
 rw [List.getElem?_eq_getElem h];exact h2 _ (List.getElem_mem h)
theorem Vbda {β:Type} (n:Int) {K:Unit×(List UInt8×Unit)->Option β} {Q:β->Prop} (h:∀ l,Ok (K ((),l,())) Q):Ok ((Zht n).bind K) Q:=by
 unfold Zht;obtain ⟨k,hk,e⟩:=Vm6 n 5 (by omega) (by omega);rw [show ((5:Nat):Int)=5 from rfl] at e;refine Ok.bind ?_;dsimp only;rw [e];simp only [bindS];rw [show (decide ((0:Int)<=(k:Int))&&decide ((k:Int) < 5))=true by simp; omega];simp only [cond_true,Int.toNat_natCast];exact Ok.get (by simp; omega) λx=>Ok.some (h x)
theorem Vbea {β:Type} (n:Int) {K:Unit×(List UInt8×Unit)->Option β} {Q:β->Prop} (h:∀ l,l.length<=30->Ok (K ((),l,())) Q):Ok ((Zbs n).bind K) Q:=by
 unfold Zbs;obtain ⟨k,hk,e⟩:=Vm6 n 6 (by omega) (by omega);rw [show ((6:Nat):Int)=6 from rfl] at e;refine Ok.bind ?_;dsimp only;rw [e];simp only [bindS];rw [show (decide ((0:Int)<=(k:Int))&&decide ((k:Int) < 6))=true by simp; omega];simp only [cond_true,Int.toNat_natCast];refine Ok.getM (by simp; omega) λx hx=>Ok.some (h x ?_);have:∀ y∈([([104,116,116,112,115,58,47,47,101,120,97,109,112,108,101,46,99,111,109]:List UInt8),([104,116,116,112,115,58,47,47,108,111,103,105,110,46,101,120,97,109,112,108,101,46,99,111,109]:List UInt8),([104,116,116,112,115,58,47,47,101,118,105,108,46,116,101,115,116]:List UInt8),([104,116,116,112,58,47,47,108,111,99,97,108,104,111,115,116,58,56,48,56,48]:List UInt8),([104,116,116,112,115,58,47,47,98,46,99,111,46,117,107]:List UInt8),([104,116,116,112,58,47,47,101,120,97,109,112,108,101,46,99,111,109]:List UInt8)]:List (List UInt8)),y.length<=30:=by decide
 exact this x hx
def GoodL (rp ch:List UInt8) (l:List (List UInt8)) (n:Nat):Prop:=rp.length<=30/\ch.length<=1024/\l.length<=n/\∀ b∈l,b.length<=1024
theorem Vpj (d:Jl) (oz:Jr) (y:Int×(List UInt8)×(List (UInt8))×(List UInt8)×(List UInt8)×(List (List UInt8))×Int×Int×Bool×Int×Bool×Int×Unit) (n:Int) (hd:Dk d) (h0:0<=n) (h1:n < 100) (hg:GoodL y.2.1 y.2.2.1 y.2.2.2.2.2.1 0) :
  Ok (Zap_L0 ((d,()),(oz,()),y,n,())) λz=>Dk z.1.1/\GoodL z.2.2.1.2.1 z.2.2.1.2.2.1 z.2.2.1.2.2.2.2.2.1 100:=by
 unfold Zap_L0 Yi4;refine Ok.iter (λq=>Dk q.1.1/\0<=q.2.2.2.1/\q.2.2.2.1<=n/\GoodL q.2.2.1.2.1 q.2.2.1.2.2.1 q.2.2.1.2.2.2.2.2.1 (n - q.2.2.2.1).toNat) (λq=>q.2.2.2.1.toNat) ⟨hd,h0,by dsimp only; omega,by dsimp only; rw [show (n - n).toNat=0 by omega]; exact hg⟩ (by rw [Vab]; dsimp only; omega) ?_;rintro ⟨⟨d,u1⟩,⟨oz,u2⟩,⟨t1,t2,t3,t4,t5,t6,t7⟩,i,u3⟩ ⟨hdz,i0,i1,g1,g2,g3,g4⟩;dsimp only at hdz i0 i1 g1 g2 g3 g4 |-;unfold Zap_L0b;refine Ok.cond (λhc=>?_) (λhc=>?_)
 ·have hi:0 < i:=of_decide_eq_true hc;refine Vau d hdz 9 (by omega) (by omega) λe1 j1 he1 _ _=>?_;dsimp only;refine Vff _ _ λl hl=>?_;dsimp only;rw [show small (t6.length+([l]:List (List UInt8)).length) 24=true by unfold small; simp; omega,wI (i - 1) (by omega)];refine Ok.some ⟨⟨he1,by dsimp only; omega,by dsimp only; omega,g1,g2,by dsimp only; rw [List.length_append,List.length_singleton]; omega,?_⟩,by dsimp only; omega⟩;intro b hb;rcases List.mem_append.1 hb with hb | hb
  ·exact g4 b hb
  ·rw [List.mem_singleton.1 hb]; exact hl
 ·exact Ok.some ⟨hdz,g1,g2,by dsimp only; omega,g4⟩
theorem Voh (d:Jl) (hd:Dk d):Ok (Zap (d,())) λr=>Dk r.1.1.1/\GoodL r.2.1.rP r.2.1.jt r.2.1.list 100:=by
 unfold Zap;refine Vau d hd 2 (by omega) (by omega) λd1 k1 hd1 _ _=>?_;dsimp only;refine Vau d1 hd1 8 (by omega) (by omega) λd2 k2 hd2 b0 b1=>?_;dsimp only;rw [show (decide ((0:Int)<=k2)&&decide (k2 < 8))=true by simp; omega];simp only [cond_true];refine Ok.getM (by simp; omega) λx4 hx4=>?_;have hr:x4.length<=30:=by
  have:∀ y∈([([101,120,97,109,112,108,101,46,99,111,109]:List UInt8),([108,111,103,105,110,46,101,120,97,109,112,108,101,46,99,111,109]:List UInt8),([99,111,109]:List UInt8),([98,46,99,111,46,117,107]:List UInt8),([108,111,99,97,108,104,111,115,116]:List UInt8),([97,46,101,120,97,109,112,108,101]:List UInt8),([]:List UInt8),([101,118,105,108,46,116,101,115,116]:List UInt8)]:List (List UInt8)),y.length<=30:=by decide
  exact this x4 hx4
 clear hx4;refine Vau d2 hd2 5 (by omega) (by omega) λd3 k3 hd3 _ _=>?_;dsimp only;refine Vff _ _ λl6 hb=>?_;dsimp only;refine Vau d3 hd3 3 (by omega) (by omega) λd4 k4 hd4 _ _=>?_;dsimp only;refine Vbda _ λl8=>?_;dsimp only;refine Vau d4 hd4 2 (by omega) (by omega) λd5 k5 hd5 _ _=>?_;dsimp only;refine Vau d5 hd5 3 (by omega) (by omega) λd6 k6 hd6 _ _=>?_;dsimp only;refine Vau d6 hd6 2 (by omega) (by omega) λd7 k7 hd7 _ _=>?_;dsimp only;refine Vau d7 hd7 3 (by omega) (by omega) λd8 k8 hd8 _ _=>?_;dsimp only;refine Vau d8 hd8 3 (by omega) (by omega) λd9 k9 hd9 _ _=>?_;dsimp only;refine Ok.cond (λ_=>?_) (λ_=>?_)
 ·refine Vau d9 hd9 2 (by omega) (by omega) λd10 k10 hd10 _ _=>?_;dsimp only;refine Vau d10 hd10 3 (by omega) (by omega) λd11 k11 hd11 c0 c1=>?_;dsimp only;refine Ok.bind ((Vpj _ _ _ k11 hd11 (by omega) (by omega) ⟨hr,hb,by simp,by simp⟩).mono ?_);rintro ⟨⟨d,u1⟩,⟨oz,u2⟩,⟨t1,t2,t3,t4,t5,t6,t7⟩,u3⟩ ⟨hdz,g1,g2,g3,g4⟩;dsimp only at hdz g1 g2 g3 g4 |-;refine Vau d hdz 16 (by omega) (by omega) λe1 j1 he1 _ _=>?_;dsimp only;refine Ok.cond (λ_=>?_) (λ_=>?_)
  ·refine Vau e1 he1 5 (by omega) (by omega) λe2 j2 he2 _ _=>?_;exact Ok.some ⟨he2,g1,g2,g3,g4⟩
  refine Ok.cond (λ_=>?_) (λ_=>?_)
  ·refine Vau e1 he1 4 (by omega) (by omega) λe2 j2 he2 ja jb=>?_;dsimp only;rw [show (decide ((0:Int)<=j2)&&decide (j2 < 4))=true by simp; omega];simp only [cond_true];refine Ok.get (by simp; omega) λx=>?_;refine Vff _ _ λl hl=>?_;exact Ok.some ⟨he2,g1,hl,g3,g4⟩
  refine Ok.cond (λ_=>?_) (λ_=>?_)
  ·refine Vau e1 he1 6 (by omega) (by omega) λe2 j2 he2 _ _=>?_;exact Ok.some ⟨he2,g1,g2,g3,g4⟩
  refine Ok.cond (λ_=>?_) (λ_=>?_)
  ·refine Vau e1 he1 300 (by omega) (by omega) λe2 j2 he2 _ _=>?_;dsimp only;refine Vau e2 he2 40 (by omega) (by omega) λe3 j3 he3 _ _=>?_;dsimp only;refine Vff _ _ λl hl=>?_;exact Ok.some ⟨he3,g1,g2,g3,g4⟩
  ·exact Ok.some ⟨he1,g1,g2,g3,g4⟩
 ·refine Vau d9 hd9 3 (by omega) (by omega) λd11 k11 hd11 c0 c1=>?_;dsimp only;refine Ok.bind ((Vpj _ _ _ k11 hd11 (by omega) (by omega) ⟨hr,hb,by simp,by simp⟩).mono ?_);rintro ⟨⟨d,u1⟩,⟨oz,u2⟩,⟨t1,t2,t3,t4,t5,t6,t7⟩,u3⟩ ⟨hdz,g1,g2,g3,g4⟩;dsimp only at hdz g1 g2 g3 g4 |-;refine Vau d hdz 16 (by omega) (by omega) λe1 j1 he1 _ _=>?_;dsimp only;refine Ok.cond (λ_=>?_) (λ_=>?_)
  ·refine Vau e1 he1 5 (by omega) (by omega) λe2 j2 he2 _ _=>?_;exact Ok.some ⟨he2,g1,g2,g3,g4⟩
  refine Ok.cond (λ_=>?_) (λ_=>?_)
  ·refine Vau e1 he1 4 (by omega) (by omega) λe2 j2 he2 ja jb=>?_;dsimp only;rw [show (decide ((0:Int)<=j2)&&decide (j2 < 4))=true by simp; omega];simp only [cond_true];refine Ok.get (by simp; omega) λx=>?_;refine Vff _ _ λl hl=>?_;exact Ok.some ⟨he2,g1,hl,g3,g4⟩
  refine Ok.cond (λ_=>?_) (λ_=>?_)
  ·refine Vau e1 he1 6 (by omega) (by omega) λe2 j2 he2 _ _=>?_;exact Ok.some ⟨he2,g1,g2,g3,g4⟩
  refine Ok.cond (λ_=>?_) (λ_=>?_)
  ·refine Vau e1 he1 300 (by omega) (by omega) λe2 j2 he2 _ _=>?_;dsimp only;refine Vau e2 he2 40 (by omega) (by omega) λe3 j3 he3 _ _=>?_;dsimp only;refine Vff _ _ λl hl=>?_;exact Ok.some ⟨he3,g1,g2,g3,g4⟩
  ·exact Ok.some ⟨he1,g1,g2,g3,g4⟩
end Go.Proofs.YtaddhgkhilmniaaGreatDoor

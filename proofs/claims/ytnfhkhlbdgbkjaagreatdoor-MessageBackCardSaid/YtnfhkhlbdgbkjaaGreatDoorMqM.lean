/- The device's vault, second part: Size, Room, Rewrite, Append, Put, Get, Open are total. -/
import Derived.Test.YtnfhkhlbdgbkjaaGreatDoorMqL
set_option linter.unusedVariables false
set_option linter.unusedSimpArgs false
set_option maxRecDepth 100000
namespace Go.Proofs.YtnfhkhlbdgbkjaaGreatDoor
open Go Go.Abs
open _root_.List renaming getElem?_eq_getElem → Qa, getElem_mem → Qb, take_succ_eq_append_getElem → Qc, take_of_length_le → Qd, take_append_drop → Qe, length_cons → Qf
theorem Veh(f:Jk)(e:Int)(he:e≠16):Zes f e=some ((),⟨⟨0,[]⟩,0,0,0,false⟩,0,e,()):=by
 unfold Zes;rw[Un he];rfl
theorem Vlb(j:Jh)(e:Int)(he:e≠16):Zhd j e=some ((),⟨⟨⟨0,[]⟩,0,0,0,false⟩,[]⟩,0,e,()):=by
 unfold Zhd;rw[Un he];rfl
def szP(l:List Jf):Nat:=(l.map λp=>3+p.value.length).sum
theorem Vgta(n:Nat)(l:List Jf)(h:Vals n l):szP l<=(n+3)*l.length:=by
 induction l with
 |nil=>simp[szP]
 |cons p l ih=>
  have h1:=ih λq hq=>h q (List.mem_cons_of_mem _ hq);have h2:=h p (List.mem_cons_self ..);have e:(n+3)*(l.length+1)=(n+3)*l.length+(n+3):=Nat.mul_succ _ _;show 3+p.value.length+szP l<=_;rw[Qf,e];omega
theorem Veja(l:List Jf)(p:Jf)(h:p∈l):p.value.length+3<=szP l:=by
 induction l with
 |nil=>cases h
 |cons q l ih=>
  show _<=3+q.value.length+szP l;rcases List.mem_cons.1 h with rfl|h
  ·omega
  ·have:=ih h;omega
theorem Veka(l:List Jf):3*l.length<=szP l:=by
 induction l with
 |nil=>simp
 |cons q l ih=>show _<=3+q.value.length+szP l;rw[Qf];omega
theorem Vw5(l m:List Jf):szP (l++m)=szP l+szP m:=by simp[szP]
theorem Vqb(n:Nat)(l:List Jf)(h:Vals n l)(hn:n<=1000000)(hl:l.length<=200000):Zha l=some ((),(szP l:Int),()):=by
 have hb:szP l<=1000003*200000:=Nat.le_trans (Vgta n l h) (Nat.mul_le_mul (by omega) hl);have key:Ok (Zha l) λr=>r=((),(szP l:Int),()):=by
  unfold Zha Zha_L0 i3;refine Ok.bm (Ok.iter (Q:=λz=>z=((szP l:Int),())) (λs=>∃k:Nat,k<=l.length/\s=(l,(szP (l.take k):Int),(k:Int),())) (λs=>((l.length:Int)-s.2.2.1).toNat) ⟨0,by omega,rfl⟩ (by rw[Vaa];dsimp only;omega) ?_) ?_
  ·rintro s ⟨k,hk,rfl⟩;dsimp only;unfold Zha_L0b;refine Ok.cond (λhc=>?_) (λhc=>Ok.some (by
    have:=Up hc;rw[Qd (by omega)]))
   have hc:=Uo hc;have hkl:k<l.length:=by omega
   have e:szP (l.take (k+1))=szP (l.take k)+(3+l[k].value.length):=by
    rw[Qc hkl,Vw5];simp[szP]
   have hv:=h _ (Qb hkl);have e2:szP l=szP (l.take k)+szP (l.drop k):=by rw[<-Vw5,Qe]
   rw[gIn (Qa hkl),bindU];dsimp only;rw[wI ((3:Int)+(l[k].value.length:Int)) (by omega),wI ((szP (l.take k):Int)+((3:Int)+(l[k].value.length:Int))) (by omega),wI ((k:Int)+1) (by omega)];refine Ok.some ⟨⟨k+1,hkl,?_⟩,by dsimp only;omega⟩;rw[e];simp
  ·rintro z rfl;exact Ok.some rfl
 obtain⟨r,h1,rfl⟩:=key;exact h1
def szR(l:List Ua):Nat:=(l.map λx=>10+x.length).sum
theorem Vw6(l m:List Ua):szR (l++m)=szR l+szR m:=by simp[szR]
theorem Vqc(l:List Ua)(k:Nat)(h:k<l.length):szR (l.take (k+1))=szR (l.take k)+(10+l[k].length):=by
 rw[Qc h,Vw6];simp[szR]
theorem Vb5a(l:List Ua)(k:Nat):szR (l.take k)<=szR l:=by
 have:szR l=szR (l.take k)+szR (l.drop k):=by rw[<-Vw6,Qe]
 omega
abbrev NoE(e:Int):Prop:=e≠0/\e≠16
theorem Vw7(l:List Ua)(b:Int)(j z:Jh)(hl:l.length<=200000):Ok (Zdo_L0 (l,b,(j,()),(z,()),16,0,())) λq=>(∃x c e,q=Sum.inl (x,c,e,())/\NoE e)\/q=Sum.inr (l,b,(j,()),(z,()),16,())/\Recs l:=by
 unfold Zdo_L0 i6;refine Ok.iter (λs=>∃k:Nat,k<=l.length/\(∀i,(h:i<l.length)->i<k->1<=l[i].length/\l[i].length<=256)/\s=(l,b,(j,()),(z,()),16,(k:Int),())) (λs=>((l.length:Int)-s.2.2.2.2.2.1).toNat) ⟨0,by omega,by intro i _ h;omega,rfl⟩ (by rw[Vaa];dsimp only;omega) ?_;rintro s ⟨k,hk,hr,rfl⟩;dsimp only;unfold Zdo_L0b;refine Ok.cond (λhc=>?_) (λhc=>Ok.some (.inr ⟨rfl,λx hx=>by
  have:=Up hc;obtain⟨i,hi,rfl⟩:=List.getElem_of_mem hx;exact hr i hi (by omega)⟩))
 have hc:=Uo hc;have hkl:k<l.length:=by omega
 rw[gIn (Qa hkl),bindU,Veh _ _ (by decide),bindU,bindU];refine Ok.cond (λ_=>Ok.some (.inl ⟨_,_,_,rfl,by decide,by decide⟩)) (λh1=>Ok.cond (λ_=>Ok.some (.inl ⟨_,_,_,rfl,by decide,by decide⟩)) (λh2=>?_));have h1:=Up h1;have h2:=Up h2;rw[wI ((k:Int)+1) (by omega)];refine Ok.some ⟨⟨k+1,hkl,λi hi hik=>?_,rfl⟩,by dsimp only;omega⟩;by_cases e:i=k
 ·subst e;omega
 ·exact hr i hi (by omega)
theorem Vw8(l:List Ua)(b:Int)(j z:Jh)(hl:l.length<=200000)(hr:Recs l)(h1:512<=j.jf.ja)(h2:j.jf.ja<=8192):Ok (Zdo_L2 (l,b,(j,()),(z,()),16,0,())) λq=>∃t:Int,q=(l,b,(j,()),(z,()),t,())/\(j.jf.ja<t\/t=16+(szR l:Int)):=by
 unfold Zdo_L2 i6;refine Ok.iter (λs=>∃k:Nat,k<=l.length/\(szR (l.take k):Int)<=10000/\s=(l,b,(j,()),(z,()),16+(szR (l.take k):Int),(k:Int),())) (λs=>((l.length:Int)-s.2.2.2.2.2.1).toNat) ⟨0,by omega,by simp[szR],rfl⟩ (by rw[Vaa];dsimp only;omega) ?_;rintro s ⟨k,hk,hs,rfl⟩;dsimp only;unfold Zdo_L2b;dsimp only;refine Ok.cond (λhc=>?_) (λhc=>Ok.some ⟨_,rfl,.inr (by
  have:=Up hc;rw[Qd (by omega)])⟩)
 have hc:=Uo hc;have hkl:k<l.length:=by omega
 have hx:=hr _ (Qb hkl);refine Ok.cond (λhd=>?_) (λhd=>Ok.some ⟨_,rfl,.inl (by have:=Up hd;omega)⟩);have hd:=Uo hd;rw[gIn (Qa hkl),bindU];have e:=Vqc l k hkl;rw[wI ((10:Int)+(l[k].length:Int)) (by omega),wI (16+(szR (l.take k):Int)+((10:Int)+(l[k].length:Int))) (by omega),wI ((k:Int)+1) (by omega)];refine Ok.some ⟨⟨k+1,hkl,by omega,?_⟩,by dsimp only;omega⟩;rw[show (16:Int)+(szR (l.take (k+1)):Int)=16+(szR (l.take k):Int)+((10:Int)+(l[k].length:Int)) by omega];rfl
theorem Vw9(l:List Ua)(b:Int)(hb:b<0)(hb2:-9223372036854775808<=b)(z:Jh)(p g:Int)(f:Jk)(hf:FOk f)(h0:0<=p)(h1:p<=1)(hr:Recs l)(hl:l.length<=200000)(hs:16+(szR l:Int)<=f.ja):Ok (Zdo_L4 (l,b,(z,()),p,g,16,(f,()),0,0,())) λq=>∃(t:Int) (f2:Jk),q=(b,(z,()),p,g,t,(f2,()),0,())/\FOk f2/\f2.ja=f.ja/\16<=t/\t<=f.ja:=by
 have a1:=hf.lo;have a2:=hf.hi;unfold Zdo_L4 i9;refine Ok.iter (λs=>∃(k:Nat) (f2:Jk),k<=l.length/\FOk f2/\f2.ja=f.ja/\s=(l,b,(z,()),p,g,16+(szR (l.take k):Int),(f2,()),0,(k:Int),())) (λs=>((l.length:Int)-s.2.2.2.2.2.2.2.2.1).toNat) ⟨0,f,by omega,hf,rfl,rfl⟩ (by rw[Vaa];dsimp only;omega) ?_;rintro s ⟨k,f2,hk,hf2,hp,rfl⟩;dsimp only;have hle:=Vb5a l k;have fin:∃(t:Int) (f3:Jk),(b,(z,()),p,g,16+(szR (l.take k):Int),(f2,()),0,())=((b,(z,()),p,g,t,(f3,()),0,()):Z_Zdo_L4)/\FOk f3/\f3.ja=f.ja/\16<=t/\t<=f.ja:=⟨_,f2,rfl,hf2,hp,by omega,by omega⟩;unfold Zdo_L4b;dsimp only;rw[show decide ((0:Int)=0)=true from rfl];simp only[Ui];refine Ok.cond (λhc=>?_) (λhc=>Ok.some fin);have hc:=Uo hc;have hkl:k<l.length:=by omega
 have hx:=hr _ (Qb hkl);have e:=Vqc l k hkl;have hle2:=Vb5a l (k+1);rw[gIn (Qa hkl),bindU];refine Ok.bm (frame_ok g l[k] (by omega)) ?_;rintro⟨_,fr,_⟩ hfr;dsimp only at *;refine Ok.bm (Veq f2 hf2 p _ fr b hb hb2 h0 h1 (by omega) (by omega)) ?_;rintro⟨_,f3,c,e3,_⟩ ⟨k1,k2,k3,k4⟩;dsimp only at *;subst k3;subst k4;rw[bindU];rw[wI ((10:Int)+(l[k].length:Int)) (by omega),wI (16+(szR (l.take k):Int)+((10:Int)+(l[k].length:Int))) (by omega),wI ((k:Int)+1) (by omega)];refine Ok.some ⟨⟨k+1,f3,hkl,k1,by omega,?_⟩,by dsimp only;omega⟩;rw[show (16:Int)+(szR (l.take (k+1)):Int)=16+(szR (l.take k):Int)+((10:Int)+(l[k].length:Int)) by omega];rfl
def JChg(j:Jh)(b:Int)(r:Unit×(Jh×Int×Int×Unit)):Prop:=NoE r.2.2.2.1\/(FOk r.2.1.jf/\r.2.1.jf.ja=j.jf.ja/\r.2.2.1=b/\r.2.2.2.1=0)
theorem Vrj(j:Jh)(h:FOk j.jf)(l:List Ua)(hl:l.length<=200000)(b:Int)(hb:b<0)(hb2:-9223372036854775808<=b):Ok (Zdo j l b) (JChg j b):=by
 have a1:=h.lo;have a2:=h.hi;unfold Zdo;refine Ok.bm (Vdc j h) ?_;rintro⟨_,g,_⟩ hg;dsimp only at *;refine Ok.cond (λ_=>?_) λhc=>?_
 ·rw[Veh _ _ (by decide),bindU];exact Ok.some (.inl ⟨by decide,by decide⟩)
 have hj:=hg (by revert hc;cases g<;>simp);refine Ok.bm (Vw7 l b j _ hl) ?_;rintro q (⟨x,c,e,rfl,he⟩|⟨rfl,hr⟩)
 ·exact Ok.some (.inl he)
 simp only[Sum.elim_inr];refine Ok.bm (Vw8 l b j _ hl hr a1 a2) ?_;rintro q ⟨t,rfl,ht⟩;dsimp only;refine Ok.cond (λ_=>?_) λhc=>?_
 ·rw[Veh _ _ (by decide),bindU];exact Ok.some (.inl ⟨by decide,by decide⟩)
 have hc:=Up hc;refine Ok.cond (λ_=>?_) λhd=>?_
 ·rw[Veh _ _ (by decide),bindU];exact Ok.some (.inl ⟨by decide,by decide⟩)
 have hd:=Up hd;have p0:=hj.p0;have p1:=hj.p1;have g0:=hj.g0;rw[wI ((1:Int)-j.jal) (by omega),wI (j.jr+1) (by omega)];refine Ok.bm (Vzv j.jf h _ b hb hb2 (by omega) (by omega)) ?_;rintro⟨_,f,c,e,_⟩ ⟨k1,k2,k3,k4⟩;dsimp only at *;subst k3;subst k4;refine Ok.bm (Vw9 l _ hb hb2 _ _ _ f k1 (by omega) (by omega) hr hl (by omega)) ?_;rintro q ⟨t2,f2,rfl,m1,m2,m3,m4⟩;dsimp only;rw[show decide ((0:Int)=0)=true from rfl,Ui];refine Ok.bind ?_;rw[Vij,bindU];refine Ok.bm (Veq f2 m1 _ 0 _ _ hb hb2 (by omega) (by omega) (by omega) (by rw[Vav];have:=m1.lo;omega)) ?_;rintro⟨_,f3,c3,e3,_⟩ ⟨n1,n2,n3,n4⟩;dsimp only at *;subst n3;subst n4;refine Ok.some ?_;dsimp only;rw[show (!decide ((0:Int)=0))=false from rfl,Uj];exact Ok.some (.inr ⟨n1,by dsimp only;omega,rfl,rfl⟩)
theorem Vxa(j:Jh)(h:FOk j.jf):Ok (Zgz j) λr=>0<=r.2.1/\r.2.1<=256/\(0<r.2.1->r.2.1<=j.jf.ja-j.tail-10):=by
 have a1:=h.lo;have a2:=h.hi;unfold Zgz;refine Ok.bm (Vdc j h) ?_;rintro⟨_,g,_⟩ hg;dsimp only at *;have z:Ok (some ((),((0:Int),())):Option (Unit×(Int×Unit))) λr=>0<=r.2.1/\r.2.1<=256/\(0<r.2.1->r.2.1<=j.jf.ja-j.tail-10):=Ok.some ⟨by dsimp only;omega,by dsimp only;omega,λh=>by dsimp only at h;omega⟩;refine Ok.cond (λ_=>z) λhc=>Ok.cond (λ_=>z) λ_=>?_;have hj:=hg (by revert hc;cases g<;>simp);have t0:=hj.t0;have t1:=hj.t1;rw[wI (j.jf.ja-j.tail) (by omega),wI (j.jf.ja-j.tail-10) (by omega)];refine Ok.some ?_;dsimp only;generalize j.jf.ja-j.tail-10=x;by_cases h1:x<256
 ·rw[Um h1,Ui];by_cases h2:x<0
  ·rw[Um h2,Ui];omega
  ·rw[Un h2,Uj];omega
 ·rw[Un h1,Uj];rw[show decide ((256:Int)<0)=false from rfl,Uj];omega
theorem Vxb(j:Jh)(h:FOk j.jf)(l:Ua)(hl:l.length<=100000)(b:Int)(hb:b<0)(hb2:-9223372036854775808<=b):Ok (Zep j l b) (JChg j b):=by
 have a1:=h.lo;have a2:=h.hi;unfold Zep;refine Ok.bm (Vdc j h) ?_;rintro⟨_,g,_⟩ hg;dsimp only at *;have bad:∀e:Int,NoE e->Ok ((Zes j.jf e).bind λr2=>(some ((),(r2.2.1,r2.2.2.1,r2.2.2.2.1,())):Option (Unit×(Jh×Int×Int×Unit)))) (JChg j b):=by
  intro e he;rw[Veh _ _ he.2,bindU];exact Ok.some (.inl he)
 refine Ok.cond (λ_=>bad _ ⟨by decide,by decide⟩) λhc=>Ok.cond (λ_=>bad _ ⟨by decide,by decide⟩) λc1=>Ok.cond (λ_=>bad _ ⟨by decide,by decide⟩) λc2=>Ok.cond (λ_=>bad _ ⟨by decide,by decide⟩) λc3=>?_;have hj:=hg (by revert hc;cases g<;>simp);have c1:=Up c1;refine Ok.bm (Vxa j h) ?_;rintro⟨_,r,_⟩ ⟨r0,r1,r2⟩;dsimp only at *;refine Ok.cond (λ_=>bad _ ⟨by decide,by decide⟩) λc4=>?_;have c4:=Up c4;have r2:=r2 (by omega);have t0:=hj.t0;have t1:=hj.t1;refine Ok.bm (frame_ok j.jr l hl) ?_;rintro⟨_,fr,_⟩ hfr;dsimp only at *;refine Ok.bm (Veq j.jf h j.jal j.tail fr b hb hb2 hj.p0 hj.p1 (by omega) (by omega)) ?_;rintro⟨_,f3,c3,e3,_⟩ ⟨n1,n2,n3,n4⟩;dsimp only at *;subst n3;subst n4;rw[show (!decide ((0:Int)=0))=false from rfl,Uj];exact Ok.some (.inr ⟨n1,n2,rfl,rfl⟩)
theorem Vju(n:Nat)(hn:n<=1000000)(v:Jm)(h:Vals n v.jw)(hl:v.jw.length<=200000)(k:Int):Ok (Zhx v k) λr=>r.2.1.length<=n:=by
 unfold Zhx Zhx_L0 i3;refine Ok.bm (Ok.iter (Q:=λz=>(∃l:Ua,z=Sum.inl (l,())/\l.length<=n)\/z=Sum.inr ()) (λs=>∃i:Nat,i<=v.jw.length/\s=(k,(v,()),(i:Int),())) (λs=>((v.jw.length:Int)-s.2.2.1).toNat) ⟨0,by omega,rfl⟩ (by rw[Vaa];dsimp only;omega) ?_) ?_
 ·rintro s ⟨i,hi,rfl⟩;dsimp only;unfold Zhx_L0b;dsimp only;refine Ok.cond (λhc=>?_) (λ_=>Ok.some (.inr rfl));have hc:=Uo hc;have hil:i<v.jw.length:=by omega
  have hv:=h _ (Qb hil);rw[gIn (Qa hil),bindU,bindU,Vab (by omega) (by omega),Ui,wI ((i:Int)+1) (by omega)];exact Ok.cond (λ_=>Ok.some (.inl ⟨_,rfl,hv⟩)) (λ_=>Ok.some ⟨⟨i+1,hil,rfl⟩,by dsimp only;omega⟩)
 ·rintro z (⟨l,rfl,h1⟩|rfl)
  ·exact Ok.some h1
  ·exact Ok.some (Nat.zero_le _)
structure VOk(v:Jm):Prop where
 fl:FOk v.ji.jf
 vl:Vals 256 v.jw
 ln:v.jw.length<=69000
def VChg(v:Jk)(b:Int)(r:Unit×(Jm×Int×Int×Unit)):Prop:=NoE r.2.2.2.1\/(VOk r.2.1/\r.2.1.ji.jf.ja=v.ja/\r.2.2.1=b/\r.2.2.2.1=0)
end Go.Proofs.YtnfhkhlbdgbkjaaGreatDoor

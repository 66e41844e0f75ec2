/- The device's vault, second part: Size, Room, Rewrite, Append, Put, Get, Open are total. -/
import Derived.Test.YtancibcbaajjkaaGreatDoorMqL
set_option linter.unusedVariables false
set_option linter.unusedSimpArgs false
set_option maxRecDepth 100000
namespace Go.Proofs.YtancibcbaajjkaaGreatDoor
open Go Go.Abs
open _root_.List renaming getElem?_eq_getElem → Qa, getElem_mem → Qb, take_succ_eq_append_getElem → Qc, take_of_length_le → Qd, take_append_drop → Qe, length_cons → Qf
theorem Vea (f:Jk) (e:Int) (he:e≠16):Zel f e=some ((),⟨⟨0,[]⟩,0,0,0,false⟩,0,e,()):=by
 unfold Zel
 rw [decide_eq_false he]; rfl
theorem Vld (j:Jh) (e:Int) (he:e≠16):Zgt j e=some ((),⟨⟨⟨0,[]⟩,0,0,0,false⟩,[]⟩,0,e,()):=by
 unfold Zgt
 rw [decide_eq_false he]; rfl
def szP (l:List Jf):Nat:=(l.map λp=>3+p.value.length).sum
theorem Vfda (n:Nat) (l:List Jf) (h:Vals n l):szP l<=(n+3) * l.length:=by
 induction l with
 | nil=>simp [szP]
 | cons p l ih=>
  have h1:=ih λq hq=>h q (List.mem_cons_of_mem _ hq)
  have h2:=h p (List.mem_cons_self ..)
  have e:(n+3) * (l.length+1)=(n+3) * l.length+(n+3):=Nat.mul_succ _ _
  show 3+p.value.length+szP l<=_
  rw [Qf,e]; omega
theorem Vdea (l:List Jf) (p:Jf) (h:p∈l):p.value.length+3<=szP l:=by
 induction l with
 | nil=>cases h
 | cons q l ih=>
  show _<=3+q.value.length+szP l
  rcases List.mem_cons.1 h with rfl | h
  ·omega
  ·have:=ih h; omega
theorem Vdfa (l:List Jf):3 * l.length<=szP l:=by
 induction l with
 | nil=>simp
 | cons q l ih=>show _<=3+q.value.length+szP l; rw [Qf]; omega
theorem Vwk (l m:List Jf):szP (l++m)=szP l+szP m:=by simp [szP]
theorem Vp2 (n:Nat) (l:List Jf) (h:Vals n l) (hn:n<=1000000) (hl:l.length<=200000):Zgq l=some ((),(szP l:Int),()):=by
 have hb:szP l<=1000003 * 200000:=Nat.le_trans (Vfda n l h) (Nat.mul_le_mul (by omega) hl)
 have key:Ok (Zgq l) λr=>r=((),(szP l:Int),()):=by
  unfold Zgq Zgq_L0
  refine Ok.bind (Ok.mono (Ok.iter (Q:=λz=>z=((szP l:Int),())) (λs=>∃ k:Nat,k<=l.length/\s=(l,(szP (l.take k):Int),(k:Int),())) (λs=>((l.length:Int) - s.2.2.1).toNat) ⟨0,by omega,rfl⟩ (by rw [Vab]; dsimp only; omega) ?_) ?_)
  ·rintro s ⟨k,hk,rfl⟩
   dsimp only
   unfold Zgq_L0b
   refine Ok.cond (λhc=>?_) (λhc=>Ok.some (by
    have:=of_decide_eq_false hc
    rw [Qd (by omega)]))
   have hc:=of_decide_eq_true hc
   have hkl:k < l.length:=by omega
   have e:szP (l.take (k+1))=szP (l.take k)+(3+l[k].value.length):=by
    rw [Qc hkl,Vwk]; simp [szP]
   have hv:=h _ (Qb hkl)
   have e2:szP l=szP (l.take k)+szP (l.drop k):=by rw [<- Vwk,Qe]
   rw [gIn (Qa hkl),bindU]
   dsimp only
   rw [Vaa (n:=(3:Int)+(l[k].value.length:Int)) (by omega) (by omega),Vaa (n:=(szP (l.take k):Int)+((3:Int)+(l[k].value.length:Int))) (by omega) (by omega),Vaa (n:=(k:Int)+1) (by omega) (by omega)]
   refine Ok.some ⟨⟨k+1,hkl,?_⟩,by dsimp only; omega⟩
   rw [e]; simp
  ·rintro z rfl
   exact Ok.some rfl
 obtain ⟨r,h1,rfl⟩:=key
 exact h1
def szR (l:List (List UInt8)):Nat:=(l.map λx=>10+x.length).sum
theorem Vwl (l m:List (List UInt8)):szR (l++m)=szR l+szR m:=by simp [szR]
theorem Vp3 (l:List (List UInt8)) (k:Nat) (h:k < l.length):szR (l.take (k+1))=szR (l.take k)+(10+l[k].length):=by
 rw [Qc h,Vwl]; simp [szR]
theorem Va8a (l:List (List UInt8)) (k:Nat):szR (l.take k)<=szR l:=by
 have:szR l=szR (l.take k)+szR (l.drop k):=by rw [<- Vwl,Qe]
 omega
abbrev NoE (e:Int):Prop:=e≠0/\e≠16
theorem Vwm (l:List (List UInt8)) (b:Int) (j z:Jh) (hl:l.length<=200000):Ok (Zdi_L0 (l,b,(j,()),(z,()),16,0,())) λq=>(∃ x c e,q=Sum.inl (x,c,e,())/\NoE e)\/q=Sum.inr (l,b,(j,()),(z,()),16,())/\Recs l:=by
 unfold Zdi_L0
 refine Ok.iter (λs=>∃ k:Nat,k<=l.length/\(∀ i,(h:i < l.length)->i < k->1<=l[i].length/\l[i].length<=256)/\s=(l,b,(j,()),(z,()),16,(k:Int),())) (λs=>((l.length:Int) - s.2.2.2.2.2.1).toNat) ⟨0,by omega,by intro i _ h; omega,rfl⟩ (by rw [Vab]; dsimp only; omega) ?_
 rintro s ⟨k,hk,hr,rfl⟩
 dsimp only
 unfold Zdi_L0b
 refine Ok.cond (λhc=>?_) (λhc=>Ok.some (.inr ⟨rfl,λx hx=>by
  have:=of_decide_eq_false hc
  obtain ⟨i,hi,rfl⟩:=List.getElem_of_mem hx
  exact hr i hi (by omega)⟩))
 have hc:=of_decide_eq_true hc
 have hkl:k < l.length:=by omega
 rw [gIn (Qa hkl),bindU,Vea _ _ (by decide),bindU,bindU]
 refine Ok.cond (λ_=>Ok.some (.inl ⟨_,_,_,rfl,by decide,by decide⟩)) (λh1=>Ok.cond (λ_=>Ok.some (.inl ⟨_,_,_,rfl,by decide,by decide⟩)) (λh2=>?_))
 have h1:=of_decide_eq_false h1
 have h2:=of_decide_eq_false h2
 rw [Vaa (n:=(k:Int)+1) (by omega) (by omega)]
 refine Ok.some ⟨⟨k+1,hkl,λi hi hik=>?_,rfl⟩,by dsimp only; omega⟩
 by_cases e:i=k
 ·subst e; omega
 ·exact hr i hi (by omega)
theorem Vwn (l:List (List UInt8)) (b:Int) (j z:Jh) (hl:l.length<=200000) (hr:Recs l) (h1:512<=j.jd.ja) (h2:j.jd.ja<=8192):Ok (Zdi_L2 (l,b,(j,()),(z,()),16,0,())) λq=>∃ t:Int,q=(l,b,(j,()),(z,()),t,())/\(j.jd.ja < t\/t=16+(szR l:Int)):=by
 unfold Zdi_L2
 refine Ok.iter (λs=>∃ k:Nat,k<=l.length/\(szR (l.take k):Int)<=10000/\s=(l,b,(j,()),(z,()),16+(szR (l.take k):Int),(k:Int),())) (λs=>((l.length:Int) - s.2.2.2.2.2.1).toNat) ⟨0,by omega,by simp [szR],rfl⟩ (by rw [Vab]; dsimp only; omega) ?_
 rintro s ⟨k,hk,hs,rfl⟩
 dsimp only
 unfold Zdi_L2b
 dsimp only
 refine Ok.cond (λhc=>?_) (λhc=>Ok.some ⟨_,rfl,.inr (by
  have:=of_decide_eq_false hc
  rw [Qd (by omega)])⟩)
 have hc:=of_decide_eq_true hc
 have hkl:k < l.length:=by omega
 have hx:=hr _ (Qb hkl)
 refine Ok.cond (λhd=>?_) (λhd=>Ok.some ⟨_,rfl,.inl (by have:=of_decide_eq_false hd; omega)⟩)
 have hd:=of_decide_eq_true hd
 rw [gIn (Qa hkl),bindU]
 have e:=Vp3 l k hkl
 rw [Vaa (n:=(10:Int)+(l[k].length:Int)) (by omega) (by omega),Vaa (n:=16+(szR (l.take k):Int)+((10:Int)+(l[k].length:Int))) (by omega) (by omega),Vaa (n:=(k:Int)+1) (by omega) (by omega)]
 refine Ok.some ⟨⟨k+1,hkl,by omega,?_⟩,by dsimp only; omega⟩
 rw [show (16:Int)+(szR (l.take (k+1)):Int)=16+(szR (l.take k):Int)+((10:Int)+(l[k].length:Int)) by omega]
 rfl
theorem Vwo (l:List (List UInt8)) (b:Int) (hb:b < 0) (hb2:-9223372036854775808<=b) (z:Jh) (p g:Int) (f:Jk) (hf:FOk f) (h0:0<=p) (h1:p<=1) (hr:Recs l) (hl:l.length<=200000) (hs:16+(szR l:Int)<=f.ja):Ok (Zdi_L4 (l,b,(z,()),p,g,16,(f,()),0,0,())) λq=>∃ (t:Int) (f2:Jk),q=(b,(z,()),p,g,t,(f2,()),0,())/\FOk f2/\f2.ja=f.ja/\16<=t/\t<=f.ja:=by
 have a1:=hf.lo; have a2:=hf.hi
 unfold Zdi_L4
 refine Ok.iter (λs=>∃ (k:Nat) (f2:Jk),k<=l.length/\FOk f2/\f2.ja=f.ja/\s=(l,b,(z,()),p,g,16+(szR (l.take k):Int),(f2,()),0,(k:Int),())) (λs=>((l.length:Int) - s.2.2.2.2.2.2.2.2.1).toNat) ⟨0,f,by omega,hf,rfl,rfl⟩ (by rw [Vab]; dsimp only; omega) ?_
 rintro s ⟨k,f2,hk,hf2,hp,rfl⟩
 dsimp only
 have hle:=Va8a l k
 have fin:∃ (t:Int) (f3:Jk),(b,(z,()),p,g,16+(szR (l.take k):Int),(f2,()),0,())=((b,(z,()),p,g,t,(f3,()),0,()):Z_Zdi_L4)/\FOk f3/\f3.ja=f.ja/\16<=t/\t<=f.ja:=⟨_,f2,rfl,hf2,hp,by omega,by omega⟩
 unfold Zdi_L4b
 dsimp only
 rw [show decide ((0:Int)=0)=true from rfl]
 simp only [cond_true]
 refine Ok.cond (λhc=>?_) (λhc=>Ok.some fin)
 have hc:=of_decide_eq_true hc
 have hkl:k < l.length:=by omega
 have hx:=hr _ (Qb hkl)
 have e:=Vp3 l k hkl
 have hle2:=Va8a l (k+1)
 rw [gIn (Qa hkl),bindU]
 refine Ok.bind (Ok.mono (frame_ok g l[k] (by omega)) ?_)
 rintro ⟨_,fr,_⟩ hfr
 dsimp only at *
 refine Ok.bind (Ok.mono (Vel f2 hf2 p _ fr b hb hb2 h0 h1 (by omega) (by omega)) ?_)
 rintro ⟨_,f3,c,e3,_⟩ ⟨k1,k2,k3,k4⟩
 dsimp only at *
 subst k3; subst k4
 rw [bindU]
 rw [Vaa (n:=(10:Int)+(l[k].length:Int)) (by omega) (by omega),Vaa (n:=16+(szR (l.take k):Int)+((10:Int)+(l[k].length:Int))) (by omega) (by omega),Vaa (n:=(k:Int)+1) (by omega) (by omega)]
 refine Ok.some ⟨⟨k+1,f3,hkl,k1,by omega,?_⟩,by dsimp only; omega⟩
 rw [show (16:Int)+(szR (l.take (k+1)):Int)=16+(szR (l.take k):Int)+((10:Int)+(l[k].length:Int)) by omega]
 rfl
def JChg (j:Jh) (b:Int) (r:Unit×(Jh×Int×Int×Unit)):Prop:=NoE r.2.2.2.1\/(FOk r.2.1.jd/\r.2.1.jd.ja=j.jd.ja/\r.2.2.1=b/\r.2.2.2.1=0)
theorem Vra (j:Jh) (h:FOk j.jd) (l:List (List UInt8)) (hl:l.length<=200000) (b:Int) (hb:b < 0) (hb2:-9223372036854775808<=b):Ok (Zdi j l b) (JChg j b):=by
 have a1:=h.lo; have a2:=h.hi
 unfold Zdi
 refine Ok.bind (Ok.mono (Vc4 j h) ?_)
 rintro ⟨_,g,_⟩ hg
 dsimp only at *
 refine Ok.cond (λ_=>?_) λhc=>?_
 ·rw [Vea _ _ (by decide),bindU]
  exact Ok.some (.inl ⟨by decide,by decide⟩)
 have hj:=hg (by revert hc; cases g<;>simp)
 refine Ok.bind (Ok.mono (Vwm l b j _ hl) ?_)
 rintro q (⟨x,c,e,rfl,he⟩ | ⟨rfl,hr⟩)
 ·exact Ok.some (.inl he)
 simp only [Sum.elim_inr]
 refine Ok.bind (Ok.mono (Vwn l b j _ hl hr a1 a2) ?_)
 rintro q ⟨t,rfl,ht⟩
 dsimp only
 refine Ok.cond (λ_=>?_) λhc=>?_
 ·rw [Vea _ _ (by decide),bindU]
  exact Ok.some (.inl ⟨by decide,by decide⟩)
 have hc:=of_decide_eq_false hc
 refine Ok.cond (λ_=>?_) λhd=>?_
 ·rw [Vea _ _ (by decide),bindU]
  exact Ok.some (.inl ⟨by decide,by decide⟩)
 have hd:=of_decide_eq_false hd
 have p0:=hj.p0; have p1:=hj.p1; have g0:=hj.g0
 rw [Vaa (n:=(1:Int) - j.jaj) (by omega) (by omega),Vaa (n:=j.jr+1) (by omega) (by omega)]
 refine Ok.bind (Ok.mono (Vy5 j.jd h _ b hb hb2 (by omega) (by omega)) ?_)
 rintro ⟨_,f,c,e,_⟩ ⟨k1,k2,k3,k4⟩
 dsimp only at *
 subst k3; subst k4
 refine Ok.bind (Ok.mono (Vwo l _ hb hb2 _ _ _ f k1 (by omega) (by omega) hr hl (by omega)) ?_)
 rintro q ⟨t2,f2,rfl,m1,m2,m3,m4⟩
 dsimp only
 rw [show decide ((0:Int)=0)=true from rfl,cond_true]
 refine Ok.bind ?_
 rw [Vik,bindU]
 refine Ok.bind (Ok.mono (Vel f2 m1 _ 0 _ _ hb hb2 (by omega) (by omega) (by omega) (by rw [Vaw]; have:=m1.lo; omega)) ?_)
 rintro ⟨_,f3,c3,e3,_⟩ ⟨n1,n2,n3,n4⟩
 dsimp only at *
 subst n3; subst n4
 refine Ok.some ?_
 dsimp only
 rw [show (!decide ((0:Int)=0))=false from rfl,cond_false]
 exact Ok.some (.inr ⟨n1,by dsimp only; omega,rfl,rfl⟩)
theorem Vwp (j:Jh) (h:FOk j.jd):Ok (Zgp j) λr=>0<=r.2.1/\r.2.1<=256/\(0 < r.2.1->r.2.1<=j.jd.ja - j.tail - 10):=by
 have a1:=h.lo; have a2:=h.hi
 unfold Zgp
 refine Ok.bind (Ok.mono (Vc4 j h) ?_)
 rintro ⟨_,g,_⟩ hg
 dsimp only at *
 have z:Ok (some ((),((0:Int),())):Option (Unit×(Int×Unit))) λr=>0<=r.2.1/\r.2.1<=256/\(0 < r.2.1->r.2.1<=j.jd.ja - j.tail - 10):=Ok.some ⟨by dsimp only; omega,by dsimp only; omega,λh=>by dsimp only at h; omega⟩
 refine Ok.cond (λ_=>z) λhc=>Ok.cond (λ_=>z) λ_=>?_
 have hj:=hg (by revert hc; cases g<;>simp)
 have t0:=hj.t0; have t1:=hj.t1
 rw [Vaa (n:=j.jd.ja - j.tail) (by omega) (by omega),Vaa (n:=j.jd.ja - j.tail - 10) (by omega) (by omega)]
 refine Ok.some ?_
 dsimp only
 generalize j.jd.ja - j.tail - 10=x
 by_cases h1:x < 256
 ·rw [decide_eq_true h1,cond_true]
  by_cases h2:x < 0
  ·rw [decide_eq_true h2,cond_true]; omega
  ·rw [decide_eq_false h2,cond_false]; omega
 ·rw [decide_eq_false h1,cond_false]
  rw [show decide ((256:Int) < 0)=false from rfl,cond_false]; omega
theorem Vwq (j:Jh) (h:FOk j.jd) (l:List UInt8) (hl:l.length<=100000) (b:Int) (hb:b < 0) (hb2:-9223372036854775808<=b):Ok (Zei j l b) (JChg j b):=by
 have a1:=h.lo; have a2:=h.hi
 unfold Zei
 refine Ok.bind (Ok.mono (Vc4 j h) ?_)
 rintro ⟨_,g,_⟩ hg
 dsimp only at *
 have bad:∀ e:Int,NoE e->Ok ((Zel j.jd e).bind λr2=>(some ((),(r2.2.1,r2.2.2.1,r2.2.2.2.1,())):Option (Unit×(Jh×Int×Int×Unit)))) (JChg j b):=by
  intro e he
  rw [Vea _ _ he.2,bindU]
  exact Ok.some (.inl he)
 refine Ok.cond (λ_=>bad _ ⟨by decide,by decide⟩) λhc=>Ok.cond (λ_=>bad _ ⟨by decide,by decide⟩) λc1=>Ok.cond (λ_=>bad _ ⟨by decide,by decide⟩) λc2=>Ok.cond (λ_=>bad _ ⟨by decide,by decide⟩) λc3=>?_
 have hj:=hg (by revert hc; cases g<;>simp)
 have c1:=of_decide_eq_false c1
 refine Ok.bind (Ok.mono (Vwp j h) ?_)
 rintro ⟨_,r,_⟩ ⟨r0,r1,r2⟩
 dsimp only at *
 refine Ok.cond (λ_=>bad _ ⟨by decide,by decide⟩) λc4=>?_
 have c4:=of_decide_eq_false c4
 have r2:=r2 (by omega)
 have t0:=hj.t0; have t1:=hj.t1
 refine Ok.bind (Ok.mono (frame_ok j.jr l hl) ?_)
 rintro ⟨_,fr,_⟩ hfr
 dsimp only at *
 refine Ok.bind (Ok.mono (Vel j.jd h j.jaj j.tail fr b hb hb2 hj.p0 hj.p1 (by omega) (by omega)) ?_)
 rintro ⟨_,f3,c3,e3,_⟩ ⟨n1,n2,n3,n4⟩
 dsimp only at *
 subst n3; subst n4
 rw [show (!decide ((0:Int)=0))=false from rfl,cond_false]
 exact Ok.some (.inr ⟨n1,n2,rfl,rfl⟩)
theorem Vjx (n:Nat) (hn:n<=1000000) (v:Jm) (h:Vals n v.jw) (hl:v.jw.length<=200000) (k:Int):Ok (Zhm v k) λr=>r.2.1.length<=n:=by
 unfold Zhm Zhm_L0
 refine Ok.bind (Ok.mono (Ok.iter (Q:=λz=>(∃ l:List UInt8,z=Sum.inl (l,())/\l.length<=n)\/z=Sum.inr ()) (λs=>∃ i:Nat,i<=v.jw.length/\s=(k,(v,()),(i:Int),())) (λs=>((v.jw.length:Int) - s.2.2.1).toNat) ⟨0,by omega,rfl⟩ (by rw [Vab]; dsimp only; omega) ?_) ?_)
 ·rintro s ⟨i,hi,rfl⟩
  dsimp only
  unfold Zhm_L0b
  dsimp only
  refine Ok.cond (λhc=>?_) (λ_=>Ok.some (.inr rfl))
  have hc:=of_decide_eq_true hc
  have hil:i < v.jw.length:=by omega
  have hv:=h _ (Qb hil)
  rw [gIn (Qa hil),bindU,bindU,Vac (by omega) (by omega),cond_true,Vaa (n:=(i:Int)+1) (by omega) (by omega)]
  exact Ok.cond (λ_=>Ok.some (.inl ⟨_,rfl,hv⟩)) (λ_=>Ok.some ⟨⟨i+1,hil,rfl⟩,by dsimp only; omega⟩)
 ·rintro z (⟨l,rfl,h1⟩ | rfl)
  ·exact Ok.some h1
  ·exact Ok.some (Nat.zero_le _)
structure VOk (v:Jm):Prop where
 fl:FOk v.jg.jd
 vl:Vals 256 v.jw
 ln:v.jw.length<=69000
def VChg (v:Jk) (b:Int) (r:Unit×(Jm×Int×Int×Unit)):Prop:=NoE r.2.2.2.1\/(VOk r.2.1/\r.2.1.jg.jd.ja=v.ja/\r.2.2.1=b/\r.2.2.2.1=0)
end Go.Proofs.YtancibcbaajjkaaGreatDoor

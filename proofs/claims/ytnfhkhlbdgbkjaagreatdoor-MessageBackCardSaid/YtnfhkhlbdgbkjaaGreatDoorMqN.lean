/- The device's keystore, first part: Put, Boot, Draw, Store are total. -/
import Derived.Test.YtnfhkhlbdgbkjaaGreatDoorMqM
set_option linter.unusedVariables false
set_option linter.unusedSimpArgs false
set_option maxRecDepth 100000
namespace Go.Proofs.YtnfhkhlbdgbkjaaGreatDoor
open Go Go.Abs
open _root_.List renaming getElem?_eq_getElem → Qa
open _root_.Sum renaming inr → Qb, inl → Qc
open _root_.Bool renaming not_false → Qd
theorem Vm6(a b:List Jf)(ha:a.length<=1000000):Ok (Zcb a b) λ_=>True:=by
 unfold Zcb;refine Ok.cond (λ_=>Ok.some trivial) λhl=>?_;have hl:a.length=b.length:=by
  have:decide ((a.length:Int)=(b.length:Int))=true:=by revert hl;cases decide ((a.length:Int)=(b.length:Int))<;>simp
  have:=Uo this;omega
 unfold Zcb_L0 i3;refine Ok.bm (Ok.iter (Q:=λz=>(∃c,z=Qc (c,()))\/z=Qb ()) (λs=>∃i:Nat,i<=a.length/\s=(a,b,(i:Int),())) (λs=>((a.length:Int)-s.2.2.1).toNat) ⟨0,by omega,rfl⟩ (by rw[Vaa];dsimp only;omega) ?_) ?_
 ·rintro s ⟨i,hi,rfl⟩;dsimp only;unfold Zcb_L0b;refine Ok.cond (λhc=>?_) (λ_=>Ok.some (.inr rfl));have hc:=Uo hc;have hia:i<a.length:=by omega
  have hib:i<b.length:=by omega
  simp only[gIn (Qa hia),gIn (Qa hib),bindU];rw[wI ((i:Int)+1) (by omega)];exact Ok.cond (λ_=>Ok.some (.inl ⟨_,rfl⟩)) λ_=>Ok.cond (λ_=>Ok.some (.inl ⟨_,rfl⟩)) λ_=>Ok.some ⟨⟨i+1,hia,rfl⟩,by dsimp only;omega⟩
 ·rintro z (⟨c,rfl⟩|rfl)
  ·exact Ok.some trivial
  ·exact Ok.some trivial
theorem Vil(v:Jm)(h:VOk v):Ok (Zar v) λ_=>True:=by
 have hl:=h.ln;unfold Zar;refine Ok.bm (Vdc _ h.fl) ?_;rintro⟨_,g,_⟩ _;refine Ok.cond (λ_=>?_) λ_=>Ok.some trivial;refine Ok.bm (Vik _ h.fl) ?_;rintro⟨_,s,_⟩ _;refine Ok.bm (Vm6 _ _ (by omega)) ?_;rintro⟨_,c,_⟩ _;exact Ok.some trivial
theorem putL2(l:List Jf)(b:Int)(v z:Jm)(hl:l.length<=200000)(k:Nat)(hk:k<l.length):Ok (Zhy_L2 (l,b,(v,()),(z,()),(k:Int),0,())) λq=>(∃x c e,q=Qc (x,c,e,())/\NoE e)\/q=Qb (l,b,(v,()),(z,()),(k:Int),()):=by
 unfold Zhy_L2 i6;refine Ok.iter (λs=>∃i:Nat,i<=k/\s=(l,b,(v,()),(z,()),(k:Int),(i:Int),())) (λs=>((k:Int)-s.2.2.2.2.2.1).toNat) ⟨0,by omega,rfl⟩ (by rw[Vaa];dsimp only;omega) ?_;rintro s ⟨i,hi,rfl⟩;dsimp only;unfold Zhy_L2b;refine Ok.cond (λhc=>?_) (λ_=>Ok.some (.inr rfl));have hc:=Uo hc;have hil:i<l.length:=by omega
 simp only[gIn (Qa hil),gIn (Qa hk),bindU];rw[Vlb _ _ (by decide),bindU,wI ((i:Int)+1) (by omega)];exact Ok.cond (λ_=>Ok.some (.inl ⟨_,_,_,rfl,by decide,by decide⟩)) λ_=>Ok.some ⟨⟨i+1,by omega,rfl⟩,by dsimp only;omega⟩
theorem putL0(l:List Jf)(b:Int)(v z:Jm)(hl:l.length<=200000):Ok (Zhy_L0 (l,b,(v,()),(z,()),0,())) λq=>(∃x c e,q=Qc (x,c,e,())/\NoE e)\/q=Qb (l,b,(v,()),(z,()),()):=by
 unfold Zhy_L0 i5;refine Ok.iter (λs=>∃i:Nat,i<=l.length/\s=(l,b,(v,()),(z,()),(i:Int),())) (λs=>((l.length:Int)-s.2.2.2.2.1).toNat) ⟨0,by omega,rfl⟩ (by rw[Vaa];dsimp only;omega) ?_;rintro s ⟨i,hi,rfl⟩;dsimp only;unfold Zhy_L0b;refine Ok.cond (λhc=>?_) (λ_=>Ok.some (.inr rfl));have hc:=Uo hc;have hil:i<l.length:=by omega
 simp only[gIn (Qa hil),bindU];rw[Vlb _ _ (by decide),bindU];refine Ok.cond (λ_=>Ok.some (.inl ⟨_,_,_,rfl,by decide,by decide⟩)) λ_=>Ok.cond (λ_=>Ok.some (.inl ⟨_,_,_,rfl,by decide,by decide⟩)) λ_=>?_;refine Ok.bm (putL2 l b v z hl i hil) ?_;rintro q (⟨x,c,e,rfl,he⟩|rfl)
 ·exact Ok.some (.inl ⟨_,_,_,rfl,he⟩)
 ·simp only[Sum.elim_inr];rw[wI ((i:Int)+1) (by omega)];exact Ok.some ⟨⟨i+1,hil,rfl⟩,by dsimp only;omega⟩
theorem Vgua(v:Jm)(h:VOk v)(n:Nat)(hn:n<=1000000)(l:List Jf)(hv:Vals n l)(hl:l.length<=100000)(b:Int)(hb:b<0)(hb2:-9223372036854775808<=b):Ok (Zhy v l b) (VChg v.ji.jf b):=by
  have a1:=h.fl.lo;have a2:=h.fl.hi;have hpl:=h.ln;have bad:∀e:Int,NoE e->Ok ((Zhd v.ji e).bind λr2=>(some ((),(r2.2.1,r2.2.2.1,r2.2.2.2.1,())):Option (Unit×(Jm×Int×Int×Unit)))) (VChg v.ji.jf b):=by
    intro e he;rw[Vlb _ _ he.2,bindU];exact Ok.some (.inl he)
  have fin:∀(z:Jm) (j:Jh) (c e:Int),JChg v.ji b ((),j,c,e,())->Ok ((λ(j24:(Int×(Jm×Unit)×(Jh×Unit)×Int×Unit))=>(bif (!decide (j24.2.2.2.1=(0:Int))) then ((Zhd j24.2.2.1.1 j24.2.2.2.1).bind λr25=>(some ((),(r25.2.1,r25.2.2.1,r25.2.2.2.1,()))))
 else ((Zer j24.2.2.1.1).bind λr26=>(some ((),((⟨j24.2.2.1.1,r26.2.1⟩:Jm),j24.1,(0:Int),())):Option (Unit×(Jm×Int×Int×Unit)))))) (c,(z,()),(j,()),e,())) (VChg v.ji.jf b):=by
    intro z j c e hj;dsimp only;rcases hj with hj|⟨k1,k2,k3,k4⟩
    · dsimp only at hj
      rw[Un hj.1,Qd,Ui,Vlb _ _ hj.2,bindU];exact Ok.some (.inl hj)
    · dsimp only at *
      subst k3;subst k4;rw[show (!decide ((0:Int)=0))=false from rfl,Uj];refine Ok.bm (Vik j k1) ?_;rintro⟨_,s,_⟩ ⟨s1,s2⟩;exact Ok.some (.inr ⟨⟨k1,s1,s2⟩,k2,rfl,rfl⟩)
  unfold Zhy;refine Ok.bm (Vil v h) ?_;rintro⟨_,g,_⟩ _;refine Ok.cond (λ_=>bad _ ⟨by decide,by decide⟩) λ_=>Ok.cond (λ_=>bad _ ⟨by decide,by decide⟩) λ_=>?_;refine Ok.bm (putL0 l b v _ (by omega)) ?_;rintro q (⟨x,c,e,rfl,he⟩|rfl)
  · exact Ok.some (.inl he)
  simp only[Sum.elim_inr];have hs:=Vqb n l hv hn (by omega);rw[hs,bindU];refine Ok.cond (λ_=>bad _ ⟨by decide,by decide⟩) λc1=>?_;have c1:=Up c1;dsimp only at c1;have hlen:=Veka l;have hv2:Vals 256 l:=λp hp=>by have:=Veja l p hp;omega
  refine Ok.bm (Vw4 256 v.jw l h.vl hv2 (by omega)) ?_;rintro⟨_,w,_⟩ ⟨w1,w2⟩;dsimp only at *;rw[Vqb 256 w w1 (by omega) (by omega),bindU];refine Ok.cond (λ_=>bad _ ⟨by decide,by decide⟩) λ_=>?_;refine Ok.bind ?_;rw[bindU];refine Ok.bm (Vxa v.ji h.fl) ?_;rintro⟨_,r,_⟩ _;refine Ok.cond (λ_=>?_) λ_=>?_
  · refine Ok.bm (Vm5 256 (by omega) l hv2 (by omega)) ?_
    rintro⟨_,rc,_⟩ hrc;dsimp only at *;refine Ok.bm (Vxb v.ji h.fl rc (by have:(256+3)*l.length<=259*100:=Nat.mul_le_mul (by omega) (by omega);omega) b hb hb2) ?_;rintro⟨_,j,c,e,_⟩ hj;exact Ok.some (fin _ j c e hj)
  · refine Ok.bm (Voi 256 (by omega) w w1 (by omega)) ?_
    rintro⟨_,sn,_⟩ ⟨n1,n2⟩;dsimp only at *;refine Ok.bm (Vrj v.ji h.fl sn (by omega) b hb hb2) ?_;rintro⟨_,j,c,e,_⟩ hj;exact Ok.some (fin _ j c e hj)
theorem Vzz(v:Jm)(h:VOk v):Ok (Zed v) λ_=>True:=by
 unfold Zed;refine Ok.bm (Vju 256 (by omega) v h.vl (by have:=h.ln;omega) 2) ?_;rintro⟨_,l,_⟩ hl;dsimp only at *;unfold Zed_L0 i3;refine Ok.bm (Ok.iter (Q:=λ_=>True) (λs=>∃(x:Int) (i:Nat),i<=l.length/\s=(x,l,(i:Int),())) (λs=>((l.length:Int)-s.2.2.1).toNat) ⟨0,0,by omega,rfl⟩ (by rw[Vaa];dsimp only;omega) ?_) λ_ _=>Ok.some trivial;rintro s ⟨x,i,hi,rfl⟩;dsimp only;unfold Zed_L0b;refine Ok.cond (λhc=>?_) (λ_=>Ok.some trivial);have hc2:=Uo hc;have hil:i<l.length:=by omega
 rw[hc,Um (by omega:0<=(i:Int)),show (true&&true)=true from rfl,Ui,Int.toNat_natCast,Qa hil,bindU,wI ((i:Int)+1) (by omega)];exact Ok.some ⟨⟨_,i+1,hil,rfl⟩,by dsimp only;omega⟩
theorem Vfu(a:Ub)(l:Ua)(n:Int)(hl:l.length<=1000):Ok (Zeg a l n) λ_=>True:=by
 unfold Zeg;rw[Vab (by simp only[List.length_cons,List.length_nil];omega) (by omega),Ui,rW1,bindU,Vab (by simp[w8];omega) (by omega),Ui];dsimp only;rw[rMac _ _ _ (by simp[w8];omega),bindU];exact Ok.some trivial
theorem Vfv(d:Jd)(h:VOk d.jp):Ok (Zdg d) λ_=>True:=by
 unfold Zdg;refine Ok.bm (Vju 256 (by omega) _ h.vl (by have:=h.ln;omega) 1) ?_;rintro⟨_,l,_⟩ _;refine Ok.bm (Vc4 _) ?_;rintro⟨_,x,_⟩ _;exact Ok.some trivial
theorem Vxc(d:Jd)(h:VOk d.jp):Ok (Zfh d) λr=>∃n,r.2.1 = { d with jao:=n }:=by
 unfold Zfh;refine Ok.bm (Vfv d h) ?_;rintro⟨_,m,_⟩ _;refine Ok.bm (Vzz _ h) ?_;rintro⟨_,b,_⟩ _;dsimp only;refine Ok.bm (Vfu _ _ _ (by decide)) ?_;rintro⟨_,x,_⟩ _;exact Ok.some ⟨_,rfl⟩
theorem Vxd(d:Jd)(v:Jm)(e:Int)(he:e≠16):Zdj d v e=some ((),d,0,e,()):=by
 unfold Zdj;rw[Un he];rfl
theorem Vqd(d:Jd)(hon:d.on=true)(h:VOk d.jp)(n:Nat)(hn:n<=1000000)(l:List Jf)(hv:Vals n l)(hl:l.length<=100000)(b:Int)(hb:b<0)(hb2:-9223372036854775808<=b):Ok (Zea d l b) λr=>(r.2.1=d/\NoE r.2.2.2.1)\/(∃v,VOk v/\r.2.1 = { d with jp:=v }/\r.2.2.1=b/\r.2.2.2.1=0):=by
 unfold Zea;rw[hon,Bool.not_true,Uj];refine Ok.bm (Vgua d.jp h n hn l hv hl b hb hb2) ?_;rintro⟨_,v,c,e,_⟩ (he|⟨k1,k2,k3,k4⟩)
 ·dsimp only at *;rw[Un he.1,Qd,Ui,Vxd _ _ _ he.2,bindU];exact Ok.some (.inl ⟨rfl,he⟩)
 ·dsimp only at *;subst k3;subst k4;rw[show (!decide ((0:Int)=0))=false from rfl,Uj];exact Ok.some (.inr ⟨v,k1,by rw[<-hon],rfl,rfl⟩)
theorem Vgf(x:Jp):Ok (Zdy x) λr=>r.2.1=true->0<=x.jav/\x.jav<=x.next/\x.next<=x.to_/\x.to_<=16:=by
 unfold Zdy;refine Ok.cond (λh1=>Ok.cond (λh2=>Ok.cond (λh3=>Ok.some λh4=>⟨Uo h1,Uo h2,Uo h3,Uo h4⟩) (λ_=>?_)) (λ_=>?_)) (λ_=>?_);all_goals exact Ok.some λh=>by cases h
theorem Vi0(x:Jp):Ok (Zam x) λr=>r.2.1.length<=11:=by
 unfold Zam;refine Ok.bm (Vgf x) ?_;rintro⟨_,b,_⟩ _;refine Ok.cond (λ_=>Ok.some (Nat.zero_le _)) λ_=>?_;rw[rW1,bindU];dsimp only;rw[Vab (by simp[w8]) (by omega),Ui];exact Ok.some (by simp[w8])
theorem Vi1(l:Ua):Ok (Zal l) λr=>r.2.2.1=0->0<=r.2.1.jav/\r.2.1.jav<=r.2.1.next/\r.2.1.next<=r.2.1.to_/\r.2.1.to_<=16:=by
 unfold Zal;refine Ok.cond (λ_=>Ok.some λh=>by cases h) λh=>?_;have h:l.length=11:=by
  have:decide ((l.length:Int)=(11:Int))=true:=by revert h;cases decide ((l.length:Int)=(11:Int))<;>simp
  have:=Uo this;omega
 rw[Um (by omega),Ui];refine Ok.bm (Vc4 _) ?_;rintro⟨_,x,_⟩ _;have g8:getI l 8=some (l[8]'(by omega)):=gIn (i:=8) (Qa (by omega));have g9:getI l 9=some (l[9]'(by omega)):=gIn (i:=9) (Qa (by omega));have g10:getI l 10=some (l[10]'(by omega)):=gIn (i:=10) (Qa (by omega));rw[g8,bindU,g9,bindU,g10,bindU];refine Ok.bm (Vgf _) ?_;rintro⟨_,b,_⟩ hb;refine Ok.cond (λ_=>Ok.some λh=>by cases h) λhc=>Ok.some λ_=>?_;exact hb (by revert hc;cases b<;>simp)
theorem Vqe(d:Jd)(h:VOk d.jp)(k:Int):Ok (Zee d k) λr=>r.2.2.1=true->0<=r.2.1.jav/\r.2.1.jav<=r.2.1.next/\r.2.1.next<=r.2.1.to_/\r.2.1.to_<=16:=by
 unfold Zee;refine Ok.bm (Vju 256 (by omega) _ h.vl (by have:=h.ln;omega) _) ?_;rintro⟨_,l,_⟩ _;refine Ok.bm (Vi1 l) ?_;rintro⟨_,x,e,_⟩ hx;exact Ok.some λh=>hx (Uo h)
theorem Vqf(d:Jd)(h:VOk d.jp):Ok (Zgm d) λr=>0<=r.2.1.jx/\r.2.1.jx<=255:=by
 unfold Zgm;refine Ok.bm (Vju 256 (by omega) _ h.vl (by have:=h.ln;omega) _) ?_;rintro⟨_,l,_⟩ _;refine Ok.cond (λ_=>Ok.some ⟨by dsimp only;omega,by dsimp only;omega⟩) λ_=>?_;refine Ok.bm (Vc4 _) ?_;rintro⟨_,x,_⟩ _;refine Ok.bm (Vju 256 (by omega) _ h.vl (by have:=h.ln;omega) _) ?_;rintro⟨_,m,_⟩ _;refine Ok.cond (λhc=>?_) λ_=>Ok.some ⟨by dsimp only;omega,by dsimp only;omega⟩;have hc:=Uo hc;dsimp only at *;rw[Um (by omega),Ui,Qa (by omega:0<m.length),bindU];have:=(m[0]'(by omega)).toBitVec.isLt;exact Ok.some ⟨by dsimp only;omega,by dsimp only;omega⟩
theorem Vb6a(l:Ua)(hl:l.length<=1000000):Ok (Zgi l) λ_=>True:=by
 unfold Zgi;rw[rHash _ _ (by omega),bindU];exact Ok.some trivial
theorem Vm7(d:Jd)(h:VOk d.jp)(id:Ua)(hl:id.length<=1000000):Ok (Zdh d id) λr=>0<=r.2.1/\r.2.1<=15:=by
 unfold Zdh Zdh_L0 i3;refine Ok.bm (Ok.iter (Q:=λz=>(∃n c,z=Qc (n,c,())/\0<=n/\n<=15)\/z=Qb ()) (λs=>∃i:Nat,i<=16/\s=(id,(d,()),(i:Int),())) (λs=>((16:Int)-s.2.2.1).toNat) ⟨1,by omega,rfl⟩ (by rw[Vaa];dsimp only;omega) ?_) ?_
 ·rintro s ⟨i,hi,rfl⟩;dsimp only;unfold Zdh_L0b;dsimp only;refine Ok.cond (λhc=>?_) (λ_=>Ok.some (.inr rfl));have hc:=Uo hc;rw[wI ((i:Int)+1) (by omega)];have nx:∃i2:Nat,i2<=16/\(id,(d,()),(i:Int)+1,())=(id,(d,()),(i2:Int),()):=⟨i+1,by omega,rfl⟩;refine Ok.bm (Vqe d h _) ?_;rintro⟨_,x,c,_⟩ _;refine Ok.cond (λ_=>?_) λ_=>Ok.some ⟨nx,by dsimp only;omega⟩;refine Ok.bm (Vb6a id hl) ?_;rintro⟨_,t,_⟩ _;refine Ok.cond (λ_=>Ok.some (.inl ⟨_,_,rfl,by omega,by omega⟩)) λ_=>Ok.some ⟨nx,by dsimp only;omega⟩
 ·rintro z (⟨n,c,rfl,h1,h2⟩|rfl)
  ·exact Ok.some ⟨h1,h2⟩
  ·exact Ok.some ⟨by dsimp only;omega,by dsimp only;omega⟩
structure DevOk(d:Jd):Prop where
 on:d.on=true
 v:VOk d.jp
 n0:0<=d.now
 n1:d.now<=1099511627776
end Go.Proofs.YtnfhkhlbdgbkjaaGreatDoor

/- Out of the texts of other seats: what the laws of requests need. Written by a program. -/
import Derived.Test.YtnfhkhlbdgbkjaaGreatDoorMbA
set_option linter.unusedVariables false
set_option linter.unusedSimpArgs false
set_option maxRecDepth 100000
namespace Go.Proofs.YtnfhkhlbdgbkjaaGreatDoor
open Go Go.Abs
open Go.IntKind renaming wrap → Qa
open _root_.Bool renaming not_true → Qb, and_eq_true → Qd, not_false → Qg, false_and → Qj, true_and → Ql, and_false → Qn, and_true → Qw, or_eq_false_iff → Q8, or_eq_true → Qaj, or_self → Qal
open _root_.List renaming length_append → Qc, append_assoc → Qi, cons_append → Qk, length_cons → Qp, drop_drop → Qq, getElem?_eq_getElem → Qr, length_take → Qs, getD_eq_getElem?_getD → Qt, length_drop → Qu, drop → Qv, drop_take → Qy, flatten_cons → Q1, take → Q2, mem_of_getElem? → Q7, nil_append → Qab, drop_eq_getElem_cons → Qad, append_nil → Qai, map_cons → Qak
open _root_.BitVec renaming ofNat → Qe, ofInt → Qx, toNat_ofNat → Q0, eq_of_toNat_eq → Q4, ofInt_natCast → Q6, setWidth → Qaa, getLsbD_shiftLeft → Qac
open _root_.Int renaming toNat_natCast → Qf
open _root_.Prod.mk renaming injEq → Qh
open _root_.UInt8 renaming ofBitVec → Qm, ofNat → Qae, ofNat_toNat → Qag
open _root_.Sum renaming elim_inl → Qo, inl → Qz, inr → Q5, elim → Q9
open _root_.Nat renaming mod_eq_of_lt → Q3, add_comm → Qaf
open _root_.Option renaming bind_some → Qah
theorem Vw1:∀(f:Nat) (S:List Jc) (n:Nat) (l:List Ja) (o r:List Ja) (t:Ua),mach getL f S n l=(0,o,r)->mach getB f S n (encA o++t)=(0,o,t)
 |0,S,n,l,o,r,t,h=>by simp[mach]at h
 |f+1,S,n,l,o,r,t,h=>by
  rcases Vev getL f S n l with⟨h1,h2⟩|⟨h1,h2,h3⟩|⟨h1,x,u,h2,h3⟩
  ·rw[h2]at h;simp only[Qh,true_and]at h;obtain⟨rfl,rfl⟩:=h;unfold mach;rw[h1];rfl
  ·rw[h3]at h;simp only[Qh]at h;exact absurd h.1 h2
  ·rw[h3]at h;simp only[Qh]at h;obtain⟨g1,g2,g3⟩:=h;obtain⟨_,hc⟩:=Vij h2;generalize hm:mach getL f (nxt x S) (n+1) u=m at g1 g2 g3;obtain⟨m1,m2,m3⟩:=m;dsimp only at g1 g2 g3;subst g1;subst g2;subst g3;have ih:=Vw1 f (nxt x S) (n+1) u m2 m3 t hm;rw[Vf0,Qi,Vb8 h1 (Vz7 hc _),ih]
theorem Vw2:∀(f:Nat) (S:List Jc) (n:Nat) (s:Ua) (o:List Ja) (t:Ua),mach getB f S n s=(0,o,t)->s=encA o++t/\∀r,mach getL f S n (o++r)=(0,o,r)
 |0,S,n,s,o,t,h=>by simp[mach]at h
 |f+1,S,n,s,o,t,h=>by
  rcases Vev getB f S n s with⟨h1,h2⟩|⟨h1,h2,h3⟩|⟨h1,x,u,h2,h3⟩
  ·rw[h2]at h;simp only[Qh,true_and]at h;obtain⟨rfl,rfl⟩:=h;refine⟨rfl,λr=>?_⟩;unfold mach;rw[h1];rfl
  ·rw[h3]at h;simp only[Qh]at h;exact absurd h.1 h2
  ·rw[h3]at h;simp only[Qh]at h;obtain⟨g1,g2,g3⟩:=h;obtain⟨he,hc⟩:=Vm9 h2;generalize hm:mach getB f (nxt x S) (n+1) u=m at g1 g2 g3;obtain⟨m1,m2,m3⟩:=m;dsimp only at g1 g2 g3;subst g1;subst g2;subst g3;obtain⟨i1,i2⟩:=Vw2 f (nxt x S) (n+1) u m2 m3 hm;refine⟨by rw[Vf0,Qi,<-i1,he],λr=>?_⟩;rw[Qk,Vb8 h1 (show getL n S.length (atK S) (lst S) (x::(m2++r))=(0,x,m2++r) by simp[getL,hc]),i2 r]
def decO(b:Ua):List Ja×Int×Int:=bif decide ((mach getB 600 [] 0 b).1=0) then ((mach getB 600 [] 0 b).2.1,((b.length-(mach getB 600 [] 0 b).2.2.length:Nat):Int),0) else ([],0,(mach getB 600 [] 0 b).1)
theorem Vz8{o:List Ja}(h:valO o=0)(t:Ua):decO (encA o++t)=(o,((encA o).length:Int),0):=by
 have:=Vw1 600 [] 0 o o [] t (Vdf h).1;unfold decO;rw[this];simp
theorem Vik{b:Ua}(h:(decO b).2.2=0):valO (decO b).1=0/\∃t,b=encA (decO b).1++t/\(decO b).2.1=((encA (decO b).1).length:Int):=by
 unfold decO at h |-;by_cases h1:(mach getB 600 [] 0 b).1=0
 ·rw[dT ((mach getB 600 [] 0 b).1=0) h1]at h |-;simp only[Ui];have e:mach getB 600 [] 0 b=(0,(mach getB 600 [] 0 b).2.1,(mach getB 600 [] 0 b).2.2):=by rw[<-h1]
  obtain⟨i1,i2⟩:=Vw2 _ _ _ _ _ _ e;have i3:=i2 [];rw[Qai]at i3;refine⟨?_,_,i1,?_⟩
  ·unfold valO;rw[i3];rfl
  ·have:=congrArg List.length i1;rw[Qc]at this;omega
 ·rw[dF ((mach getB 600 [] 0 b).1=0) h1]at h;simp only[Uj]at h;exact absurd h h1
theorem Vna{σ τ ρ ρ':Type}{f:σ->Option (σ⊕ρ)}{f':τ->Option (τ⊕ρ')}{e:σ->τ}{g:ρ->ρ'}(h:∀s,f' (e s)=(f s).map (Sum.map e g)):∀n s,iter f' n (e s)=(iter f n s).map g
 |0,s=>rfl
 |n+1,s=>by
  rw[Vac,Vac,h s];cases hs:f s with
  |none=>rfl
  |some z=>
   cases z with
   |inl q=>exact Vna h n q
   |inr r=>rfl
theorem Vei{α β γ δ:Type}{X:Option α}{X':Option β}{e:α->β}{F:α->Option γ}{F':β->Option δ}{g:γ->δ}(h1:X'=X.map e)(h2:∀y,F' (e y)=(F y).map g):X'.bind F'=(X.bind F).map g:=by
 rw[h1];cases X with
 |none=>rfl
 |some y=>exact h2 y
theorem Val{α γ δ:Type}{X:Option α}{F:α->Option γ}{F':α->Option δ}{g:γ->δ}(h2:∀y,F' y=(F y).map g):X.bind F'=(X.bind F).map g:=by
 cases X with
 |none=>rfl
 |some y=>exact h2 y
theorem Vai{γ δ:Type}{c:Bool}{a b:Option γ}{a' b':Option δ}{g:γ->δ}(h1:a'=a.map g)(h2:b'=b.map g):(bif c then a' else b')=(bif c then a else b).map g:=by
 cases c
 ·exact h2
 ·exact h1
abbrev Wk:=List Jc×Int×Unit
abbrev Rd:=List Jc×Int×Ua×Int×Unit
def rdo(bs:Ua)(at0:Int)(w:Wk):Rd:=(w.1,w.2.1,bs,at0,())
theorem Vrs(bs:Ua)(at0:Int)(y:Wk×Int×Unit):Zgc_L0 (rdo bs at0 y.1,y.2.1,())=(Zif_L0 y).map λz=>(rdo bs at0 z.1,()):=by
 unfold Zgc_L0 Zif_L0 Yi2;refine Vna (e:=λy:Wk×Int×Unit=>((rdo bs at0 y.1,y.2.1,()):Rd×Int×Unit)) (g:=λz:Wk×Unit=>((rdo bs at0 z.1,()):Rd×Unit)) (λs=>?_) _ y;dsimp only;unfold Zgc_L0b Zif_L0b rdo;dsimp only;refine Vai (Vai (Val λx=>Vai (Vai (Vai rfl rfl) rfl) rfl) rfl) rfl
theorem Vw3(bs:Ua)(at0:Int)(w:Wk)(x:Ja):Zgc (rdo bs at0 w) x=(Zif w x).map λr=>((rdo bs at0 r.1.1,()),()):=by
 unfold Zgc Zif;refine Vei (e:=λj:Wk×(Ja×Unit)×Unit=>((rdo bs at0 j.1,j.2.1,()):Rd×(Ja×Unit)×Unit)) ?_ λy=>?_
 ·exact Vai (Vai (Val λx=>Vai (Val λy=>rfl) rfl) rfl) rfl
 ·refine Vei (e:=λj:Wk×(Ja×Unit)×Unit=>((rdo bs at0 j.1,j.2.1,()):Rd×(Ja×Unit)×Unit)) ?_ λy=>?_
  ·exact Vai (Vai (Vai rfl rfl) rfl) rfl
  ·refine Vei (e:=λj:Wk×Unit=>((rdo bs at0 j.1,()):Rd×Unit)) ?_ λy=>?_
   ·exact Vai (Vai (Vai rfl rfl) rfl) rfl
   ·refine Vei (e:=λj:Wk×Unit=>((rdo bs at0 j.1,()):Rd×Unit)) (Vrs bs at0 (y.1,(y.1.1.length:Int),())) λz=>rfl
theorem Vor(bs:Ua)(at0:Int)(w:Wk)(x:Ja):Zdr (rdo bs at0 w) x=(Zgb w x).map λr=>((rdo bs at0 r.1.1,()),r.2):=by
 have K:∀w:Wk,(Zgc (rdo bs at0 w) x).bind (λr13=>some (((r13.1.1.1,r13.1.1.2.1,r13.1.1.2.2.1,r13.1.1.2.2.2.1,()),()),((0:Int),())))=((Zif w x).bind (λr25=>some (((r25.1.1.1,r25.1.1.2.1,()),()),((0:Int),())))).map λ(r:(Wk×Unit)×(Int×Unit))=>(((rdo bs at0 r.1.1,()),r.2):(Rd×Unit)×(Int×Unit)):=λw=>
  Vei (Vw3 bs at0 w x) λz=>rfl
 unfold Zdr Zgb;refine Vai (Val λr=>Vai rfl (Val λr2=>Vai (Vai (Val λr3=>Val λx4=>Vai (Val λx5=>Val λr6=>Vai rfl (Val λx7=>Vai rfl (K (_,_,())))) (Val λx10=>Vai rfl (K (_,_,())))) rfl) (K (_,_,())))) (Val λr2=>Vai (Vai (Val λr3=>Val λx4=>Vai (Val λx5=>Val λr6=>Vai rfl (Val λx7=>Vai rfl (K (_,_,())))) (Val λx10=>Vai rfl (K (_,_,())))) rfl) (K (_,_,())))
theorem Vrt(bs:Ua)(at0:Int)(S:List Jc)(n:Nat)(x:Ja)(hk:kin x)(hd:x.data.length<100000)(hl:S.length<100000)(hn:n<1000000)(hw:∀f∈S,-10<=f.left/\f.left<=2000)(hx:isN x.kind=true->x.number.toNat<=512) :
  Zdr (S.reverse,(n:Int),bs,at0,()) x=some (bif decide (acc x (atK S) (lst S)=0) then ((((nxt x S).reverse,((n+1:Nat):Int),bs,at0,()),()),(0,())) else (((S.reverse,(n:Int),bs,at0,()),()),(acc x (atK S) (lst S),()))):=by
 have:=Vor bs at0 (S.reverse,(n:Int),()) x;rw[Vfy S n x hk hd hl hn hw hx]at this;refine Eq.trans this ?_;unfold res;by_cases h:acc x (atK S) (lst S)=0
 ·rw[h];rfl
 ·rw[dF (acc x (atK S) (lst S)=0) h];rfl
theorem Vz9(n:Ub):Zjb n=some ((),(sho n:Int),()):=by
 unfold Zjb sho;rw[show (24#64).toNat=24 from rfl,show (256#64).toNat=256 from rfl,show (65536#64).toNat=65536 from rfl,show (4294967296#64).toNat=4294967296 from rfl];cases decide (n.toNat<24)<;>cases decide (n.toNat<256)<;>cases decide (n.toNat<65536)<;>cases decide (n.toNat<4294967296)<;>rfl
theorem Vby{α:Type}{l:List α}{i:Nat}{x:α}(h:l[i]? = some x):getI l (i:Int)=some x:=by unfold getI;simp[h]
theorem headL(st:Rd)(k:Int)(sz:Int)(l:Ua)(hl:l.length<1000):Zfz_L1 (st,k,0#64,sz,l,(l.length:Int),0,())=some ((st.1,st.2.1,st.2.2.1,st.2.2.2.1,()),k,bev 0#64 l,sz,()):=by
 have key:∀(r:Ua) (j f:Nat) (v:Ub),l.drop j=r->j<=l.length->r.length<f->iter (λ(y:(Rd×Int×Ub×Int×Ua×Int×Int×Unit))=>Zfz_L1b y.1 y.2.1 y.2.2.1 y.2.2.2.1 y.2.2.2.2.1 y.2.2.2.2.2.1 y.2.2.2.2.2.2.1) f (st,k,v,sz,l,(l.length:Int),(j:Int),())=some ((st.1,st.2.1,st.2.2.1,st.2.2.2.1,()),k,bev v r,sz,()):=by
  intro r;induction r with
  |nil=>
   intro j f v hr hj hf;obtain⟨f,rfl⟩:∃g,f=g+1:=⟨f-1,by omega⟩;have hjl:j=l.length:=by
    have:=congrArg List.length hr;simp at this;omega
   rw[Vac];dsimp only;unfold Zfz_L1b;rw[dF ((j:Int)<(l.length:Int)) (by omega)];rfl
  |cons c r ih=>
   intro j f v hr hj hf;obtain⟨f,rfl⟩:∃g,f=g+1:=⟨f-1,by omega⟩;have hjl:j<l.length:=by
    have:=congrArg List.length hr;simp at this;omega
   have hx:l[j]? = some c:=by
    have:=congrArg (·[0]?) hr;simpa using this
   have hr2:l.drop (j+1)=r:=by
    have:=congrArg (Qv 1) hr;simpa[Qq]using this
   rw[Vac];dsimp only;unfold Zfz_L1b;rw[dT ((j:Int)<(l.length:Int)) (by omega),Vby hx,wI ((j:Int)+1) (by omega)];simp only[Ui,bindS,Qo];exact ih (j+1) f _ hr2 (by omega) (by simp at hf;omega)
 unfold Zfz_L1 Yi7;exact key l 0 rounds 0#64 rfl (by omega) (by rw[Vaa];omega)
theorem u8lt(a:UInt8)(n:UInt8):decide (a.toBitVec.toNat<n.toBitVec.toNat)=decide (a.toNat<n.toNat):=rfl
theorem Vepa:∀c:Fin 256,(Qm ((Qae c.val).toBitVec>>>5)).toNat=c.val / 32/\(Qm ((Qae c.val).toBitVec&&&(31:UInt8).toBitVec)).toNat=c.val % 32:=by decide +kernel
theorem Vcra(c:UInt8):(Qm (c.toBitVec>>>5)).toNat=c.toNat / 32/\(Qm (c.toBitVec&&&(31:UInt8).toBitVec)).toNat=c.toNat % 32:=by
 have:=Vepa ⟨c.toNat,c.toNat_lt⟩;dsimp only at this;rwa[Qag]at this
theorem Veqa:∀j:Fin 4,(Qm ((Qae (24+j.val)).toBitVec-(24:UInt8).toBitVec)).toNat=j.val:=by decide +kernel
theorem Vg4a{v:UInt8}(h1:24<=v.toNat)(h2:v.toNat<=27):(Qm (v.toBitVec-(24:UInt8).toBitVec)).toNat=v.toNat-24:=by
 have:=Veqa ⟨v.toNat-24,by omega⟩;dsimp only at this;rw[show 24+(v.toNat-24)=v.toNat by omega,Qag]at this;exact this
theorem setw(v:UInt8):Qaa 64 v.toBitVec=Qe 64 v.toNat:=by
 apply Q4;have:=v.toNat_lt;rw[BitVec.toNat_setWidth,Q0];rfl
theorem Vcsa(a b:UInt8):decide (a.toBitVec=b.toBitVec)=decide (a=b):=by
 rw[decide_eq_decide];exact⟨λh=>UInt8.toBitVec_inj.1 h,λh=>by rw[h]⟩
theorem Vbz{α:Type}{l:List α}{j:Nat}{c:α}{r:List α}(h:l.drop j=c::r):l[j]? = some c/\l.drop (j+1)=r/\j<l.length/\l.length=j+1+r.length:=by
 refine⟨?_,?_,?_,?_⟩
 ·have:=congrArg (·[0]?) h;simpa using this
 ·have:=congrArg (Qv 1) h;simpa[Qq]using this
 ·have:=congrArg List.length h;simp at this;omega
 ·have:=congrArg List.length h;simp at this;omega
theorem Vw4{z:Nat}(h:z<=3):1<=2^z/\2^z<=8:=⟨Nat.one_le_two_pow,Nat.le_trans (Nat.pow_le_pow_right (by omega) h) (by omega)⟩
theorem Vw5{z:Nat}(h:z<=3):Qa .i64 ((1:Int)*2^(min z (IntKind.bits .i64)))=((2^z:Nat):Int):=by
 have hz:z=0\/z=1\/z=2\/z=3:=by omega
 rcases hz with rfl|rfl|rfl|rfl<;>decide
theorem Vera(o:List Jc)(n:Int)(bs:Ua)(at0:Nat)(hat:at0<=bs.length)(hbs:bs.length<1000000) :
  ∃at1:Nat,at1<=bs.length/\Zfz (o,n,bs,(at0:Int),())=some (((o,n,bs,(at1:Int),()),()),((hdB (bs.drop at0)).2.1,(hdB (bs.drop at0)).2.2.1,(hdB (bs.drop at0)).1,()))/\((hdB (bs.drop at0)).1=0->bs.drop at1=(hdB (bs.drop at0)).2.2.2):=by
 unfold Zfz;dsimp only;cases hs:bs.drop at0 with
 |nil=>
  have:=congrArg List.length hs;simp at this;rw[dT ((bs.length:Int)<=(at0:Int)) (by omega)];exact⟨at0,hat,rfl,λh=>by simp[hdB]at h⟩
 |cons c r=>
  obtain⟨d1,d2,d3,d4⟩:=Vbz hs;rw[dF ((bs.length:Int)<=(at0:Int)) (by omega),Vby d1];simp only[Uj,bindS,Vcsa];rw[wI ((at0:Int)+1) (by omega),show (at0:Int)+1=((at0+1:Nat):Int) from rfl];obtain⟨m1,m2⟩:=Vcra c;simp only[hdB];by_cases hB:isB c=true
  ·rw[hB];have hb:=hB;unfold isB at hb;simp only[Qaj,Uq]at hb;rcases hb with rfl|rfl
   ·exact⟨at0+1,by omega,rfl,λ_=>d2⟩
   ·exact⟨at0+1,by omega,rfl,λ_=>d2⟩
  ·have hB':isB c=false:=by cases h:isB c;rfl;exact absurd h hB
   have hb:=hB';unfold isB at hb;simp only[Q8,decide_eq_false_iff_not]at hb;rw[hB',dF (c=244) hb.1,dF (c=245) hb.2];by_cases h6:c=246
   ·rw[dT (c=246) h6];exact⟨at0+1,by omega,rfl,λ_=>d2⟩
   ·rw[dF (c=246) h6];simp only[Uj,bindS,Qo];rw[u8lt,u8lt,u8lt,m1,m2,show (5:UInt8).toNat=5 from rfl,show (27:UInt8).toNat=27 from rfl,show (24:UInt8).toNat=24 from rfl];by_cases q1:5<c.toNat / 32
    ·rw[dT (5<c.toNat / 32) q1];exact⟨at0+1,by omega,rfl,λh=>by simp at h⟩
    ·rw[dF (5<c.toNat / 32) q1];by_cases q2:27<c.toNat % 32
     ·rw[dT (27<c.toNat % 32) q2];exact⟨at0+1,by omega,rfl,λh=>by simp at h⟩
     ·rw[dF (27<c.toNat % 32) q2];simp only[Uj,Qal];have ek:Qa .i64 ((1:Int)+((Qm (c.toBitVec>>>5)).toBitVec.toNat:Int))=((c.toNat / 32:Nat):Int)+1:=by
       rw[show ((Qm (c.toBitVec>>>5)).toBitVec.toNat:Int)=((c.toNat / 32:Nat):Int) by rw[<-m1];rfl,Vaw (by omega) (by omega)];omega
      rw[ek];by_cases q3:c.toNat % 32<24
      ·rw[dT (c.toNat % 32<24) q3,setw,m2];exact⟨at0+1,by omega,rfl,λ_=>d2⟩
      ·rw[dF (c.toNat % 32<24) q3,Vg4a (by omega) (by omega),m2];generalize hz:c.toNat % 32-24=z;have hz3:z<=3:=by omega
       obtain⟨p1,p8⟩:=Vw4 hz3;rw[Vw5 hz3,wI ((bs.length:Int)-((at0+1:Nat):Int)) (by omega)];simp only[Uj];by_cases q4:r.length<2^z
       ·rw[dT ((bs.length:Int)-((at0+1:Nat):Int)<((2^z:Nat):Int)) (by omega),dT (r.length<2^z) q4];exact⟨at0+1,by omega,rfl,λh=>by simp at h⟩
       ·rw[dF ((bs.length:Int)-((at0+1:Nat):Int)<((2^z:Nat):Int)) (by omega),dF (r.length<2^z) q4,wI (((at0+1:Nat):Int)+((2^z:Nat):Int)) (by omega),show (((at0+1:Nat):Int)+((2^z:Nat):Int))=((at0+1+2^z:Nat):Int) from rfl];simp only[Uj,Qf];rw[show (decide ((0:Int)<=((at0+1+2^z:Nat):Int))&&decide (((at0+1+2^z:Nat):Int)<=(bs.length:Int)))=true by (rw[Qd,Uq,Uq];exact⟨by omega,by omega⟩),show (decide ((0:Int)<=((at0+1:Nat):Int))&&decide (((at0+1:Nat):Int)<=((at0+1+2^z:Nat):Int)))=true by (rw[Qd,Uq,Uq];exact⟨by omega,by omega⟩)];simp only[Ui];have hv:Qv (at0+1) (Q2 (at0+1+2^z) bs)=r.take (2^z):=by
         rw[Qy,d2,show at0+1+2^z-(at0+1)=2^z by omega]
        have hvl:(r.take (2^z)).length=2^z:=by rw[Qs];omega
        rw[hv,headL _ _ _ _ (by omega)];simp only[bindS,Vz9];rw[wI (((at0+1:Nat):Int)+((2^z:Nat):Int)) (by omega),show (((at0+1:Nat):Int)+((2^z:Nat):Int))=((at0+1+2^z:Nat):Int) from rfl,show decide ((sho (bev 0#64 (r.take (2^z))):Int)<((2^z:Nat):Int))=decide (sho (bev 0#64 (r.take (2^z)))<2^z) by rw[decide_eq_decide];omega];refine⟨at0+1+2^z,by omega,?_,?_⟩
        ·cases decide (sho (bev 0#64 (r.take (2^z)))<2^z)<;>rfl
        ·cases decide (sho (bev 0#64 (r.take (2^z)))<2^z)
         ·intro _;show bs.drop (at0+1+2^z)=r.drop (2^z);rw[<-d2,Qq]
         ·intro h;simp at h
def RdOut(S:List Jc)(n:Nat)(bs:Ua)(g:Int×Ja×Ua)(z:Option ((Rd×Unit)×(Ja×Int×Unit))):Prop:=
 ∃at1:Nat,at1<=bs.length/\(g.1=0->bs.drop at1=g.2.2/\z=some ((((nxt g.2.1 S).reverse,((n+1:Nat):Int),bs,(at1:Int),()),()),(g.2.1,0,())))/\(g.1≠0->∃st y,z=some (st,(y,g.1,())))
theorem Vcx{S:List Jc}{n:Nat}{bs:Ua}{e:Int}{x:Ja}{t:Ua}{st:Rd×Unit}{y:Ja}(he:e≠0):RdOut S n bs (e,x,t) (some (st,(y,e,()))):=
 ⟨0,by omega,λh=>absurd h he,λ_=>⟨_,_,rfl⟩⟩
def tailR(st:Rd)(x:Ja):Option ((Rd×Unit)×(Ja×Int×Unit)):=
  (Zdr (st.1,st.2.1,st.2.2.1,st.2.2.2.1,()) x).bind λr20=>(bif (!decide (r20.2.1=(0:Int))) then (some (((r20.1.1.1,r20.1.1.2.1,r20.1.1.2.2.1,r20.1.1.2.2.2.1,()),()),((⟨(0:Int),0#64,([]:Ua)⟩:Ja),r20.2.1,())))
 else (some (((r20.1.1.1,r20.1.1.2.1,r20.1.1.2.2.1,r20.1.1.2.2.2.1,()),()),(x,(0:Int),()))))
theorem Vos{S:List Jc}{n:Nat}{bs:Ua}{at1:Nat}{x:Ja}{t:Ua}(hS:WS S)(hn:n<=512)(hat:at1<=bs.length)(ht:bs.drop at1=t)(hk:kin x)(hd:x.data.length<=1024)(hx:isN x.kind=true->x.number.toNat<=512) :
  RdOut S n bs (accB (atK S) (lst S) (0,x,t)) (tailR (S.reverse,(n:Int),bs,(at1:Int),()) x):=by
 unfold tailR;dsimp only;rw[Vrt bs (at1:Int) S n x hk (by omega) (by have:=hS.2.2;omega) (by omega) (λf hf=>by have:=hS.1 f hf;omega) hx];simp only[bindS,accB,Uk,Ui];by_cases h:acc x (atK S) (lst S)=0
 ·rw[h];exact⟨at1,hat,λ_=>⟨ht,rfl⟩,λh=>absurd rfl h⟩
 ·rw[dF (acc x (atK S) (lst S)=0) h];simp only[Uj];rw[dF (acc x (atK S) (lst S)=0) h];exact Vcx h
theorem Vg5a(k:Int):k=5\/k=3\/k=6\/k=4\/(¬ k=5/\¬ k=3/\¬ k=6/\¬ k=4):=by omega
def datR(S:List Jc)(n:Int)(bs:Ua)(at1:Nat)(k:Int)(m:Ub):Option ((Rd×Unit)×(Ja×Int×Unit)):=
  (bif decide ((1024#64).toNat<m.toNat) then some (((S.reverse,n,bs,(at1:Int),()),()),((⟨(0:Int),0#64,([]:Ua)⟩:Ja),(8:Int),()))
  else bif decide (Qa .i64 ((bs.length:Int)-(at1:Int))<Qa .i64 (m.toNat:Int)) then some (((S.reverse,n,bs,(at1:Int),()),()),((⟨(0:Int),0#64,([]:Ua)⟩:Ja),(1:Int),()))
  else bif (decide ((0:Int)<=Qa .i64 ((at1:Int)+Qa .i64 (m.toNat:Int)))&&decide (Qa .i64 ((at1:Int)+Qa .i64 (m.toNat:Int))<=(bs.length:Int))) then
    (bif (decide ((0:Int)<=(at1:Int))&&decide ((at1:Int)<=((Qa .i64 ((at1:Int)+Qa .i64 (m.toNat:Int))).toNat:Int))) then
      tailR (S.reverse,n,bs,Qa .i64 ((at1:Int)+Qa .i64 (m.toNat:Int)),()) ⟨k,0#64,Qv ((at1:Int)).toNat (Q2 (Qa .i64 ((at1:Int)+Qa .i64 (m.toNat:Int))).toNat bs)⟩
     else none)
  else none)
theorem Vcta{S:List Jc}{n:Nat}{bs:Ua}{at1:Nat}{k:Int}{m:Ub}{t:Ua}(hS:WS S)(hn:n<=512)(hbs:bs.length<1000000)(hat:at1<=bs.length)(ht:bs.drop at1=t)(hk:k=3\/k=4) :
  RdOut S n bs (accB (atK S) (lst S) (bodB k m t)) (datR S n bs at1 k m):=by
 have hD:isD k=true:=by rcases hk with rfl|rfl<;>rfl
 have hN:=Voq hD;have htl:=congrArg List.length ht;rw[Qu]at htl;unfold datR bodB;rw[hN,hD,show (1024#64).toNat=1024 from rfl];simp only[Ui,Uj];by_cases h1:1024<m.toNat
 ·rw[dT (1024<m.toNat) h1];exact Vcx (by decide)
 ·rw[dF (1024<m.toNat) h1,wI ((m.toNat:Int)) (by omega),wI ((bs.length:Int)-(at1:Int)) (by omega)];simp only[Uj];by_cases h2:t.length<m.toNat
  ·rw[dT (t.length<m.toNat) h2,dT ((bs.length:Int)-(at1:Int)<(m.toNat:Int)) (by omega)];exact Vcx (by decide)
  ·rw[dF (t.length<m.toNat) h2,dF ((bs.length:Int)-(at1:Int)<(m.toNat:Int)) (by omega),wI ((at1:Int)+(m.toNat:Int)) (by omega),show ((at1:Int)+(m.toNat:Int))=((at1+m.toNat:Nat):Int) from rfl];simp only[Uj,Qf];rw[show (decide ((0:Int)<=((at1+m.toNat:Nat):Int))&&decide (((at1+m.toNat:Nat):Int)<=(bs.length:Int)))=true by (rw[Qd,Uq,Uq];exact⟨by omega,by omega⟩),show (decide ((0:Int)<=(at1:Int))&&decide ((at1:Int)<=((at1+m.toNat:Nat):Int)))=true by (rw[Qd,Uq,Uq];exact⟨by omega,by omega⟩)];simp only[Ui];have hv:Qv at1 (Q2 (at1+m.toNat) bs)=t.take m.toNat:=by
    rw[Qy,ht,show at1+m.toNat-at1=m.toNat by omega]
   rw[hv];refine Vos hS hn (by omega) (by rw[<-ht,Qq]) ?_ ?_ ?_
   ·refine⟨?_,?_,?_⟩
    ·dsimp only;omega
    ·dsimp only;omega
    ·intro h;dsimp only at h;rw[hD]at h;cases h
   ·dsimp only;rw[Qs];omega
   ·intro h;dsimp only at h;rw[hN]at h;cases h
theorem Vaaa(S:List Jc)(n:Nat)(bs:Ua)(at0:Nat)(hS:WS S)(hn:n<=512)(hbs:bs.length<1000000)(hat:at0<=bs.length) :
  RdOut S n bs (getB n S.length (atK S) (lst S) (bs.drop at0)) (Zga (S.reverse,(n:Int),bs,(at0:Int),())):=by
 obtain⟨at1,h1,h2,h3⟩:=Vera S.reverse (n:Int) bs at0 hat hbs;generalize bs.drop at0=s at h2 h3 |-;unfold Zga getB;dsimp only;rw[h2];simp only[bindS];have hB:=λk m t=>Vlj (s:=s) (k:=k) (n:=m) (t:=t);generalize hdB s=q at h3 hB |-;obtain⟨e,k,m,t⟩:=q;dsimp only at h3 hB |-;by_cases he:e=0
 ·subst he;have ht:=h3 rfl;have hbk:=hB k m t rfl;simp only[Uk,Qb,Uj];rw[Vqe S n k (by have:=hS.2.2;omega)];simp only[bindS];by_cases ha:adm k n S.length (atK S)=0
  ·rw[dT (adm k n S.length (atK S)=0) ha];simp only[Qb,Uj];obtain⟨a1,a2,a3,a4,a5⟩:=Vbo ha;have hnum:isN k=true->¬ 512<m.toNat->RdOut S n bs (accB (atK S) (lst S) (bodB k m t)) (tailR (S.reverse,(n:Int),bs,(at1:Int),()) ⟨k,m,[]⟩):=by
    intro hN hm;have:bodB k m t=(0,⟨k,m,[]⟩,t):=by
     unfold bodB;rw[hN,dF (512<m.toNat) hm];rfl
    rw[this];exact Vos hS hn h1 ht ⟨a2,a3,λ_=>rfl⟩ (by simp) (λ_=>by dsimp only;omega)
   have hbig:isN k=true->512<m.toNat->bodB k m t=(8,default,[]):=by
    intro hN hm;unfold bodB;rw[hN,dT (512<m.toNat) hm];rfl
   rcases Vg5a k with rfl|rfl|rfl|rfl|⟨g1,g2,g3,g4⟩
   ·simp only[Uk,Ui,show (512#64).toNat=512 from rfl];by_cases hm:512<m.toNat
    ·rw[dT (512<m.toNat) hm,hbig rfl hm];exact Vcx (by decide)
    ·rw[dF (512<m.toNat) hm];exact hnum rfl hm
   ·have:=Vcta (m:=m) hS hn hbs h1 ht (.inl rfl);refine Eq.mp (congrArg (RdOut S n bs _) ?_) this;unfold datR;simp only[Int.reduceEq,Uk,Ul,Ui,Uj];cases decide ((1024#64).toNat<m.toNat)
    ·simp only[Uj];generalize decide (Qa .i64 ((bs.length:Int)-(at1:Int))<Qa .i64 (m.toNat:Int))=c1;cases c1
     ·simp only[Uj];generalize (decide ((0:Int)<=Qa .i64 ((at1:Int)+Qa .i64 (m.toNat:Int)))&&decide (Qa .i64 ((at1:Int)+Qa .i64 (m.toNat:Int))<=(bs.length:Int)))=c2;cases c2
      ·rfl
      ·simp only[Ui];generalize (decide ((0:Int)<=(at1:Int))&&decide ((at1:Int)<=((Qa .i64 ((at1:Int)+Qa .i64 (m.toNat:Int))).toNat:Int)))=c3;cases c3<;>rfl
     ·rfl
    ·rfl
   ·simp only[Int.reduceEq,Uk,Ul,Ui,Uj,show (512#64).toNat=512 from rfl];by_cases hm:512<m.toNat
    ·rw[dT (512<m.toNat) hm,hbig rfl hm];exact Vcx (by decide)
    ·rw[dF (512<m.toNat) hm];exact hnum rfl hm
   ·have:=Vcta (m:=m) hS hn hbs h1 ht (.inr rfl);refine Eq.mp (congrArg (RdOut S n bs _) ?_) this;unfold datR;simp only[Int.reduceEq,Uk,Ul,Ui,Uj];cases decide ((1024#64).toNat<m.toNat)
    ·simp only[Uj];generalize decide (Qa .i64 ((bs.length:Int)-(at1:Int))<Qa .i64 (m.toNat:Int))=c1;cases c1
     ·simp only[Uj];generalize (decide ((0:Int)<=Qa .i64 ((at1:Int)+Qa .i64 (m.toNat:Int)))&&decide (Qa .i64 ((at1:Int)+Qa .i64 (m.toNat:Int))<=(bs.length:Int)))=c2;cases c2
      ·rfl
      ·simp only[Ui];generalize (decide ((0:Int)<=(at1:Int))&&decide ((at1:Int)<=((Qa .i64 ((at1:Int)+Qa .i64 (m.toNat:Int))).toNat:Int)))=c3;cases c3<;>rfl
     ·rfl
    ·rfl
   ·simp only[g1,g2,g3,g4,Ul,Uj,bindS,Qo];have:bodB k m t=(0,⟨k,m,[]⟩,t):=by
     unfold bodB isN isD;simp[g1,g2,g3,g4]
    rw[this];have hN:isN k=false:=by unfold isN;simp[g1,g3]
    exact Vos hS hn h1 ht ⟨a2,a3,λ_=>rfl⟩ (by simp) (λh=>by dsimp only at h;rw[hN]at h;cases h)
  ·rw[dF (adm k n S.length (atK S)=0) ha];exact Vcx ha
 ·rw[dF (e=0) he];exact Vcx he
theorem Vjy{n d:Nat}{key:Bool}{b s:Ua}{x:Ja}{t:Ua}(h:getB n d key b s=(0,x,t)):chk x n d key b=0:=(Vm9 h).2
theorem Vw6(bs:Ua)(hbs:bs.length<1000000):Zit bs=some ((),(decO bs).1,(decO bs).2.1,(decO bs).2.2,()):=by
 have key:∀(fuel:Nat) (S:List Jc) (n:Nat) (out:List Ja) (at0 f:Nat),WS S->n<=512->out.length=n->at0<=bs.length->600<=fuel+n->fuel<=f ->
   (iter (λ(y:(List (Ja))×Rd×Unit)=>Zit_L0b y.1 y.2.1) f (out,(S.reverse,(n:Int),bs,(at0:Int),()),())).bind (Q9 (λ(z3:((List (Ja))×Int×Int×Unit))=>(some ((),(z3.1,z3.2.1,z3.2.2.1,())):Option (Unit×(List Ja×Int×Int×Unit)))) (λ(z4:((List (Ja))×Rd×Unit))=>(some ((),(z4.1,z4.2.1.2.2.2.1,(0:Int),())))))=some ((),(bif decide ((mach getB fuel S n (bs.drop at0)).1=0) then (out++(mach getB fuel S n (bs.drop at0)).2.1,((bs.length-(mach getB fuel S n (bs.drop at0)).2.2.length:Nat):Int),(0:Int),()) else ([],(0:Int),(mach getB fuel S n (bs.drop at0)).1,()))):=by
  intro fuel;induction fuel with
  |zero=>intro S n out at0 f hS hn ho hat h6;omega
  |succ fuel ih=>
   intro S n out at0 f hS hn ho hat h6 hf;obtain⟨f,rfl⟩:∃g,f=g+1:=⟨f-1,by omega⟩;rw[Vac];have hit:=Vaaa S n bs at0 hS hn hbs hat
   have e1:Zit_L0b out (S.reverse,(n:Int),bs,(at0:Int),())=bif decide (0<n)&&S.isEmpty then some (Q5 (Q5 (out,(S.reverse,(n:Int),bs,(at0:Int),()),()))) else (Zga (S.reverse,(n:Int),bs,(at0:Int),())).bind λr2=>(bif (!decide (r2.2.2.1=(0:Int))) then (some (Q5 (Qz ([],(0:Int),r2.2.2.1,())))) else (bif small ((out).length+(([r2.2.1]:List (Ja)):List (Ja)).length) 32 then (some (Qz ((out++([r2.2.1]:List (Ja))),(r2.1.1.1,r2.1.1.2.1,r2.1.1.2.2.1,r2.1.1.2.2.2.1,()),()))) else none)):=by
    unfold Zit_L0b;dsimp only;rw[Von];simp only[bindS];cases (decide (0<n)&&S.isEmpty)<;>rfl
   dsimp only;rw[e1];rcases Vev getB fuel S n (bs.drop at0) with⟨h1,h2⟩|⟨h1,h2,h3⟩|⟨h1,x,t,h2,h3⟩
   ·rw[h1,h2];simp only[Ui,bindS,Sum.elim_inr,Uk,Qai,Qu];rw[show bs.length-(bs.length-at0)=at0 by omega]
   ·rw[h1,h3];obtain⟨_,_,_,g3⟩:=hit;obtain⟨st,y,g4⟩:=g3 h2;rw[g4];simp only[Uj,bindS];rw[dF ((getB n S.length (atK S) (lst S) (bs.drop at0)).1=0) h2];rfl
   ·rw[h1,h3];obtain⟨at1,g1,g2,_⟩:=hit;rw[h2]at g2;obtain⟨g3,g4⟩:=g2 rfl;dsimp only at g3 g4;rw[g4];have hc:=Vjy h2;have hn512:=(Vbo (Vay hc).1).1;simp only[Uj,bindS,Uk,Qb,Qo];rw[Veh (by simp;omega)];simp only[Ui,bindS,Qo];have:=ih (nxt x S) (n+1) (out++[x]) at1 f (Vcna hS hc) (by omega) (by simp;omega) g1 (by omega) (by omega);rw[g3]at this;rw[this,Qi];rfl
 unfold Zit Zit_L0 decO Yi2;have:=key 600 [] 0 [] 0 rounds ⟨by simp,trivial,by simp⟩ (by omega) rfl (by omega) (by omega) (by rw[Vaa];omega);refine Eq.trans this ?_;rw[show bs.drop 0=bs from rfl,Qab];cases decide ((mach getB 600 [] 0 bs).1=0)<;>rfl
abbrev Rr:=Ua×Int×List Ja×Unit
theorem Vg6a(st:Rr)(x:Ja)(k:Int)(at0:Nat)(l:Ua)(hst:st.2.1=(at0:Int))(hl:l.length<1000)(h1:st.1.length<1000000)(h2:(st.1.drop (at0+1)).take l.length=l):Zbb_L1 (st,(x,()),k,(l.length:Int),0#64,0,())=some ((st.1,st.2.1,st.2.2.1,()),(x,()),k,(l.length:Int),bev 0#64 l,()):=by
 have key:∀(r:Ua) (j f:Nat) (v:Ub),l.drop j=r->j<=l.length->r.length<f->iter (λ(y:(Rr×(Ja×Unit)×Int×Int×Ub×Int×Unit))=>Zbb_L1b y.1 y.2.1 y.2.2.1 y.2.2.2.1 y.2.2.2.2.1 y.2.2.2.2.2.1) f (st,(x,()),k,(l.length:Int),v,(j:Int),())=some ((st.1,st.2.1,st.2.2.1,()),(x,()),k,(l.length:Int),bev v r,()):=by
  intro r;induction r with
  |nil=>
   intro j f v hr hj hf;obtain⟨f,rfl⟩:∃g,f=g+1:=⟨f-1,by omega⟩;have hjl:j=l.length:=by
    have:=congrArg List.length hr;simp at this;omega
   rw[Vac];dsimp only;unfold Zbb_L1b;rw[dF ((j:Int)<(l.length:Int)) (by omega)];rfl
  |cons c r ih=>
   intro j f v hr hj hf;obtain⟨f,rfl⟩:∃g,f=g+1:=⟨f-1,by omega⟩;obtain⟨d1,d2,d3,d4⟩:=Vbz hr;have hx:st.1[at0+1+j]? = some c:=by
    have e:((st.1.drop (at0+1)).take l.length)[j]? = l[j]?:=by rw[h2]
    rw[d1,List.getElem?_take_of_lt d3,List.getElem?_drop]at e;exact e
   have hlen:at0+1+j<st.1.length:=(List.getElem?_eq_some_iff.1 hx).1;have e1:Zbb_L1b st (x,()) k (l.length:Int) v (j:Int)=some (Qz ((st.1,st.2.1,st.2.2.1,()),(x,()),k,(l.length:Int),((v<<<8)|||(Qaa 64 c.toBitVec)),((j+1:Nat):Int),())):=by
    unfold Zbb_L1b;rw[dT ((j:Int)<(l.length:Int)) (by omega),hst,wI ((at0:Int)+1) (by omega),wI ((at0:Int)+1+(j:Int)) (by omega),show (at0:Int)+1+(j:Int)=((at0+1+j:Nat):Int) from rfl,wI ((j:Int)+1) (by omega)];simp only[Ui,Vby hx,bindS];rfl
   rw[Vac];dsimp only;rw[e1];simp only[bindS,Qo];exact ih (j+1) f ((v<<<8)|||(Qaa 64 c.toBitVec)) d2 (by omega) (by simp at hf;omega)
 unfold Zbb_L1 Yi6;exact key l 0 rounds 0#64 rfl (by omega) (by rw[Vaa];omega)
theorem maj6:∀z:Fin 6,([(1:Int),(2:Int),(3:Int),(4:Int),(5:Int),(6:Int)]:List Int)[z.val]? = some ((z.val:Int)+1):=by decide
theorem low9{z:Nat}(h:z<=3)(n:Ub):∃q:Ub,([0#64,24#64,256#64,0#64,65536#64,0#64,0#64,0#64,4294967296#64]:List Ub)[2^z]? = some q/\decide (n.toNat<q.toNat)=decide (sho n<2^z):=by
 have hn:=n.isLt;have hz:z=0\/z=1\/z=2\/z=3:=by omega
 unfold sho;rcases hz with rfl|rfl|rfl|rfl
 ·refine⟨24#64,rfl,?_⟩;rw[show (24#64).toNat=24 from rfl];cases h1:decide (n.toNat<24)<;>cases decide (n.toNat<256)<;>cases decide (n.toNat<65536)<;>cases decide (n.toNat<4294967296)<;>rfl
 ·refine⟨256#64,rfl,?_⟩;rw[show (256#64).toNat=256 from rfl];by_cases h1:n.toNat<24
  ·have h2:n.toNat<256:=by omega
   simp[h1,h2]
  ·by_cases h2:n.toNat<256<;>by_cases h3:n.toNat<65536<;>by_cases h4:n.toNat<4294967296<;>simp[h1,h2,h3,h4]
 ·refine⟨65536#64,rfl,?_⟩;rw[show (65536#64).toNat=65536 from rfl];by_cases h1:n.toNat<24
  ·have h2:n.toNat<65536:=by omega
   simp[h1,h2]
  ·by_cases h2:n.toNat<256
   ·have h3:n.toNat<65536:=by omega
    simp[h1,h2,h3]
   ·by_cases h3:n.toNat<65536<;>by_cases h4:n.toNat<4294967296<;>simp[h1,h2,h3,h4]
 ·refine⟨4294967296#64,rfl,?_⟩;rw[show (4294967296#64).toNat=4294967296 from rfl];by_cases h1:n.toNat<24
  ·have h2:n.toNat<4294967296:=by omega
   simp[h1,h2]
  ·by_cases h2:n.toNat<256
   ·have h3:n.toNat<4294967296:=by omega
    simp[h1,h2,h3]
   ·by_cases h3:n.toNat<65536
    ·have h4:n.toNat<4294967296:=by omega
     simp[h1,h2,h3,h4]
    ·by_cases h4:n.toNat<4294967296<;>simp[h1,h2,h3,h4]
theorem Vaba(out:List Ja)(bs:Ua)(at0:Nat)(hat:at0<=bs.length)(hbs:bs.length<1000000) :
  ∃at1:Nat,at1<=bs.length/\Zbb (bs,(at0:Int),out,())=some (((bs,(at1:Int),out,()),()),(⟨(hdB (bs.drop at0)).2.1,(hdB (bs.drop at0)).2.2.1,[]⟩,(hdB (bs.drop at0)).1,()))/\((hdB (bs.drop at0)).1=0->bs.drop at1=(hdB (bs.drop at0)).2.2.2):=by
 unfold Zbb;dsimp only;cases hs:bs.drop at0 with
 |nil=>
  have:=congrArg List.length hs;simp at this;rw[dT ((bs.length:Int)<=(at0:Int)) (by omega)];exact⟨at0,hat,rfl,λh=>by simp[hdB]at h⟩
 |cons c r=>
  obtain⟨d1,d2,d3,d4⟩:=Vbz hs;rw[dF ((bs.length:Int)<=(at0:Int)) (by omega),Vby d1];simp only[Uj,bindS,Vcsa];rw[wI ((at0:Int)+1) (by omega),show (at0:Int)+1=((at0+1:Nat):Int) from rfl];obtain⟨m1,m2⟩:=Vcra c;simp only[hdB];by_cases hB:isB c=true
  ·rw[hB];have hb:=hB;unfold isB at hb;simp only[Qaj,Uq]at hb;rcases hb with rfl|rfl
   ·exact⟨at0+1,by omega,rfl,λ_=>d2⟩
   ·exact⟨at0+1,by omega,rfl,λ_=>d2⟩
  ·have hB':isB c=false:=by cases h:isB c;rfl;exact absurd h hB
   have hb:=hB';unfold isB at hb;simp only[Q8,decide_eq_false_iff_not]at hb;rw[hB',dF (c=244) hb.1,dF (c=245) hb.2];by_cases h6:c=246
   ·rw[dT (c=246) h6];exact⟨at0+1,by omega,rfl,λ_=>d2⟩
   ·rw[dF (c=246) h6];simp only[Uj,bindS,Qo];have em1:((Qm (c.toBitVec>>>5)).toBitVec.toNat:Int)=((c.toNat / 32:Nat):Int):=by rw[<-m1];rfl
    have em2:((Qm (c.toBitVec&&&(31:UInt8).toBitVec)).toBitVec.toNat:Int)=((c.toNat % 32:Nat):Int):=by rw[<-m2];rfl
    simp only[em1,em2];have hcl:c.toNat<256:=c.toNat_lt;by_cases q1:5<c.toNat / 32
    ·rw[dT (5<c.toNat / 32) q1,dT ((5:Int)<((c.toNat / 32:Nat):Int)) (by omega)];exact⟨at0,by omega,rfl,λh=>by simp at h⟩
    ·rw[dF (5<c.toNat / 32) q1,dF ((5:Int)<((c.toNat / 32:Nat):Int)) (by omega)];by_cases q2:27<c.toNat % 32
     ·rw[dT (27<c.toNat % 32) q2,dT ((27:Int)<((c.toNat % 32:Nat):Int)) (by omega)];exact⟨at0,by omega,rfl,λh=>by simp at h⟩
     ·rw[dF (27<c.toNat % 32) q2,dF ((27:Int)<((c.toNat % 32:Nat):Int)) (by omega)];simp only[Uj,Qal];have e6:([(1:Int),(2:Int),(3:Int),(4:Int),(5:Int),(6:Int)]:List Int)[c.toNat / 32]? = some (((c.toNat / 32:Nat):Int)+1):=maj6 ⟨c.toNat / 32,by omega⟩;have i6:(decide ((0:Int)<=((c.toNat / 32:Nat):Int))&&decide (((c.toNat / 32:Nat):Int)<(6:Int)))=true:=by
       rw[Qd,Uq,Uq];exact⟨by omega,by omega⟩
      by_cases q3:c.toNat % 32<24
      ·rw[dT (c.toNat % 32<24) q3,dF ((24:Int)<=((c.toNat % 32:Nat):Int)) (by omega)];simp only[Uj,Ui,bindS];rw[wI ((bs.length:Int)-(at0:Int)) (by omega),wI ((bs.length:Int)-(at0:Int)-1) (by omega),dF ((bs.length:Int)-(at0:Int)-1<0) (by omega)];simp only[Uj,Int.lt_irrefl,Ul,bindS];have eL:Zbb_L1 ((bs,(at0:Int),out,()),((⟨(0:Int),0#64,([]:Ua)⟩:Ja),()),((c.toNat / 32:Nat):Int),0,Qx 64 ((c.toNat % 32:Nat):Int),0,())=some ((bs,(at0:Int),out,()),((⟨(0:Int),0#64,([]:Ua)⟩:Ja),()),((c.toNat / 32:Nat):Int),0,Qx 64 ((c.toNat % 32:Nat):Int),()):=by
        unfold Zbb_L1 Yi6;rw[Vaa,show (1180591620717411303424:Nat)=1180591620717411303423+1 from rfl,Vac];rfl
       rw[eL];simp only[bindS,Qf,i6,e6,Ui];rw[wI ((1:Int)+0) (by omega),wI ((at0:Int)+(1+0)) (by omega),Q6];have i9:(decide ((0:Int)<=0)&&decide ((0:Int)<9))=true:=by decide
       rw[i9];simp only[Ui];rw[show ([0#64,24#64,256#64,0#64,65536#64,0#64,0#64,0#64,4294967296#64]:List Ub)[(0:Int).toNat]? = some 0#64 from rfl];simp only[bindS];rw[dF ((Qe 64 (c.toNat % 32)).toNat<(0#64).toNat) (by simp)];refine⟨at0+1,by omega,?_,λ_=>d2⟩;rw[show (at0:Int)+(1+0)=((at0+1:Nat):Int) by omega];rfl
      ·rw[dF (c.toNat % 32<24) q3,dT ((24:Int)<=((c.toNat % 32:Nat):Int)) (by omega),wI (((c.toNat % 32:Nat):Int)-24) (by omega),show ((c.toNat % 32:Nat):Int)-24=((c.toNat % 32-24:Nat):Int) by omega];generalize hz:c.toNat % 32-24=z;have hz3:z<=3:=by omega
       obtain⟨p1,p8⟩:=Vw4 hz3;rw[Q6,show (Qe 64 z).toNat=z by rw[Q0,Q3 (by omega)],Vw5 hz3];simp only[Uj,Ui,bindS];rw[wI ((bs.length:Int)-(at0:Int)) (by omega),wI ((bs.length:Int)-(at0:Int)-1) (by omega)];by_cases q4:r.length<2^z
       ·rw[dT ((bs.length:Int)-(at0:Int)-1<((2^z:Nat):Int)) (by omega),dT (r.length<2^z) q4];exact⟨at0,by omega,rfl,λh=>by simp at h⟩
       ·rw[dF ((bs.length:Int)-(at0:Int)-1<((2^z:Nat):Int)) (by omega),dF (r.length<2^z) q4,dT ((0:Int)<((2^z:Nat):Int)) (by omega)];simp only[Uj,Ui,bindS];have hvl:(r.take (2^z)).length=2^z:=by rw[Qs];omega
        have eL:=Vg6a (bs,(at0:Int),out,()) ⟨(0:Int),0#64,([]:Ua)⟩ ((c.toNat / 32:Nat):Int) at0 (r.take (2^z)) rfl (by omega) hbs (by rw[hvl];dsimp only;rw[d2]);rw[hvl]at eL;rw[eL];obtain⟨q,e9,eq9⟩:=low9 hz3 (bev 0#64 (r.take (2^z)));have i9:(decide ((0:Int)<=((2^z:Nat):Int))&&decide (((2^z:Nat):Int)<(9:Int)))=true:=by
         rw[Qd,Uq,Uq];exact⟨by omega,by omega⟩
        simp only[bindS,i9,i6,Ui,Qf,e9,e6,eq9];rw[wI ((1:Int)+((2^z:Nat):Int)) (by omega),wI ((at0:Int)+(1+((2^z:Nat):Int))) (by omega),show (at0:Int)+(1+((2^z:Nat):Int))=((at0+1+2^z:Nat):Int) by omega];cases hsh:decide (sho (bev 0#64 (r.take (2^z)))<2^z)
        ·refine⟨at0+1+2^z,by omega,rfl,λ_=>?_⟩;show bs.drop (at0+1+2^z)=r.drop (2^z);rw[<-d2,Qq]
        ·exact⟨at0,by omega,rfl,λh=>by simp at h⟩
def RI(bs:Ua)(out:List Ja)(w:Res Ua)(z:Option ((Rr×Unit)×(Int×Unit))):Prop:=
 (w.1=0->∃at1:Nat,at1<=bs.length/\z=some (((bs,(at1:Int),out++w.2.1,()),()),(0,()))/\bs.drop at1=w.2.2/\out.length+w.2.1.length<=512)/\(w.1≠0->∃st,z=some (st,(w.1,())))
theorem Vjz{bs:Ua}{out:List Ja}{e:Int}{o:List Ja}{t:Ua}{st:Rr×Unit}(he:e≠0):RI bs out (e,o,t) (some (st,(e,()))):=⟨λh=>absurd h he,λ_=>⟨st,rfl⟩⟩
def ZB(bs:Ua)(out:List Ja)(w:Res Ua)(z:(Rr×Int×Unit)⊕(Rr×Unit)):Prop:=
 (w.1=0->∃at1:Nat,at1<=bs.length/\z=.inr ((bs,(at1:Int),out++w.2.1,()),())/\bs.drop at1=w.2.2/\out.length+w.2.1.length<=512)/\(w.1≠0->∃st,z=.inl (st,w.1,()))
abbrev RK:=Rr->Int->Bool->Ua->Option ((Rr×Unit)×(Int×Unit))
abbrev LS:=Rr×Int×(Ja×Unit)×Ub×Bool×Ua×Ub×Unit
theorem bvn(i:Nat)(hi:i<=2000):(Qe 64 i).toNat=i:=by rw[Q0,Q3 (by omega)]
theorem bvs(i:Nat)(hi:i<=1000):Qe 64 i+1#64=Qe 64 (i+1):=by
 apply Q4;rw[BitVec.toNat_add,bvn i (by omega),bvn (i+1) (by omega)];rw[show (1#64).toNat=1 from rfl,Q3 (by omega)]
theorem Vg7a{f:Nat}{s:Ua}{n d:Nat}{key:Bool}{b:Ua}(h:(W getB f s n d key b).1=0):∃x r,(W getB f s n d key b).2.1=x::r/\x.data.length<=1024:=by
 cases f with
 |zero=>simp[W]at h
 |succ f=>
  unfold W at h |-;dsimp only at h |-;by_cases hg:(getB n d key b s).1=0
  ·rw[dT ((getB n d key b s).1=0) hg];have e:getB n d key b s=(0,(getB n d key b s).2.1,(getB n d key b s).2.2):=by rw[<-hg]
   exact⟨_,_,rfl,(Vb9 (Vay (Vjy e)).2.2.1).1⟩
  ·rw[dF ((getB n d key b s).1=0) hg]at h;exact absurd h hg
section
variable (bs:Ua)(k_rec:RK)(f:Nat)(d:Nat)
  (ih:∀(at0:Nat) (out:List Ja) (key:Bool) (b:Ua),at0<=bs.length->out.length<=512->RI bs out (W getB f (bs.drop at0) out.length (d+1) key b) (k_rec (bs,(at0:Int),out,()) ((d+1:Nat):Int) key b))
  (ed:Qa .i64 ((d:Int)+1)=((d+1:Nat):Int))
include ih ed
theorem loopA(x:Ja)(m:Ub)(h5:x.kind=5)(hm:m.toNat<=512):∀(k i at0:Nat) (out:List Ja) (fuel:Nat) (last:Ua),i+k=m.toNat->at0<=bs.length->out.length<=512->k<fuel ->
    ∃z,iter (λ(y:LS)=>Zbc_L1b k_rec y.1 y.2.1 y.2.2.1 y.2.2.2.1 y.2.2.2.2.1 y.2.2.2.2.2.1 y.2.2.2.2.2.2.1) fuel ((bs,(at0:Int),out,()),(d:Int),(x,()),m,true,last,Qe 64 i,())=some z/\ZB bs out (LA (λs n=>W getB f s n (d+1) false []) k (bs.drop at0) out.length) z:=by
  intro k;induction k with
  | zero=>
    intro i at0 out fuel last hi hat ho hfu;obtain⟨fuel,rfl⟩:∃g,fuel=g+1:=⟨fuel-1,by omega⟩;rw[Vac];refine⟨.inr ((bs,(at0:Int),out,()),()),?_,λ_=>⟨at0,hat,by simp[LA],rfl,by simpa[LA]using ho⟩,λh=>absurd rfl h⟩;dsimp only;unfold Zbc_L1b;rw[bvn i (by omega),dF (i<m.toNat) (by omega)];rfl
  | succ k ihk=>
    intro i at0 out fuel last hi hat ho hfu;obtain⟨fuel,rfl⟩:∃g,fuel=g+1:=⟨fuel-1,by omega⟩;have hj:=ih at0 out false [] hat ho;have e1:Zbc_L1b k_rec (bs,(at0:Int),out,()) (d:Int) (x,()) m true last (Qe 64 i)=(k_rec (bs,(at0:Int),out,()) ((d+1:Nat):Int) false ([]:Ua)).bind λr22=>(bif (!decide (r22.2.1=(0:Int))) then (some (Q5 (Qz ((r22.1.1.1,r22.1.1.2.1,r22.1.1.2.2.1,()),r22.2.1,()))))
 else (some (Qz ((r22.1.1.1,r22.1.1.2.1,r22.1.1.2.2.1,()),(d:Int),(x,()),m,true,last,Qe 64 (i+1),())))):=by
      unfold Zbc_L1b;rw[bvn i (by omega),dT (i<m.toNat) (by omega),dF (x.kind=6) (by omega),bvs i (by omega),ed];rfl
    rw[Vac];dsimp only;rw[e1];unfold LA;generalize W getB f (bs.drop at0) out.length (d+1) false []=w at hj |-;obtain⟨j1,j2⟩:=hj;by_cases hw:w.1=0
    · obtain⟨at1,a1,a2,a3,a4⟩:=j1 hw
      rw[a2,dT (w.1=0) hw];simp only[bindS,Uk,Qb,Uj,Ui,Qo];obtain⟨z,z1,z2,z3⟩:=ihk (i+1) at1 (out++w.2.1) fuel last (by omega) a1 (by rw[Qc];exact a4) (by omega);rw[a3,Qc]at z2 z3;refine⟨z,z1,λh=>?_,λh=>z3 h⟩;obtain⟨at2,b1,b2,b3,b4⟩:=z2 h;refine⟨at2,b1,by rw[b2,Qi],b3,?_⟩;dsimp only;rw[Qc];omega
    · obtain⟨st,a1⟩:=j2 hw
      rw[a1,dF (w.1=0) hw];refine⟨.inl (st.1,w.1,()),?_,λh=>absurd h hw,λ_=>⟨_,rfl⟩⟩;simp only[bindS];rw[dF (w.1=0) hw];rfl
theorem loopM(x:Ja)(m:Ub)(h6:x.kind=6)(hm:m.toNat<=512):∀(k i at0:Nat) (out:List Ja) (fuel:Nat) (last:Ua),i+k=m.toNat->at0<=bs.length->out.length<=512->k<fuel ->
    ∃z,iter (λ(y:LS)=>Zbc_L1b k_rec y.1 y.2.1 y.2.2.1 y.2.2.2.1 y.2.2.2.2.1 y.2.2.2.2.2.1 y.2.2.2.2.2.2.1) fuel ((bs,(at0:Int),out,()),(d:Int),(x,()),m,true,last,Qe 64 i,())=some z/\ZB bs out (LM (λs n last=>W getB f s n (d+1) true last) (λs n=>W getB f s n (d+1) false []) k (bs.drop at0) out.length last) z:=by
  intro k;induction k with
  | zero=>
    intro i at0 out fuel last hi hat ho hfu;obtain⟨fuel,rfl⟩:∃g,fuel=g+1:=⟨fuel-1,by omega⟩;rw[Vac];refine⟨.inr ((bs,(at0:Int),out,()),()),?_,λ_=>⟨at0,hat,by simp[LM],rfl,by simpa[LM]using ho⟩,λh=>absurd rfl h⟩;dsimp only;unfold Zbc_L1b;rw[bvn i (by omega),dF (i<m.toNat) (by omega)];rfl
  | succ k ihk=>
    intro i at0 out fuel last hi hat ho hfu;obtain⟨fuel,rfl⟩:∃g,fuel=g+1:=⟨fuel-1,by omega⟩;have hj:=ih at0 out true last hat ho;have hwn:=λh=>Vg7a (f:=f) (s:=bs.drop at0) (n:=out.length) (d:=d+1) (key:=true) (b:=last) h;have e1:Zbc_L1b k_rec (bs,(at0:Int),out,()) (d:Int) (x,()) m true last (Qe 64 i)=(k_rec (bs,(at0:Int),out,()) ((d+1:Nat):Int) true last).bind λr18=>(bif (!decide (r18.2.1=(0:Int))) then (some (Q5 (Qz ((r18.1.1.1,r18.1.1.2.1,r18.1.1.2.2.1,()),r18.2.1,()))))
 else (bif (decide ((0:Int)<=(out.length:Int))&&decide ((out.length:Int)<((r18.1.1.2.2.1).length:Int))) then (((r18.1.1.2.2.1)[((out.length:Int)).toNat]?).bind λx19=>((Zfq x19).bind λr20=>((k_rec (r18.1.1.1,r18.1.1.2.1,r18.1.1.2.2.1,()) ((d+1:Nat):Int) false ([]:Ua)).bind λr21=>(bif (!decide (r21.2.1=(0:Int))) then (some (Q5 (Qz ((r21.1.1.1,r21.1.1.2.1,r21.1.1.2.2.1,()),r21.2.1,()))))
 else (some (Qz ((r21.1.1.1,r21.1.1.2.1,r21.1.1.2.2.1,()),(d:Int),(x,()),m,true,r20.2.1,Qe 64 (i+1),())))))))
 else none)):=by
      unfold Zbc_L1b;rw[bvn i (by omega),dT (i<m.toNat) (by omega),dT (x.kind=6) h6,bvs i (by omega),ed];rfl
    rw[Vac];dsimp only;rw[e1];unfold LM;dsimp only;generalize W getB f (bs.drop at0) out.length (d+1) true last=w at hj hwn |-;obtain⟨j1,j2⟩:=hj;by_cases hw:w.1=0
    · obtain⟨at1,a1,a2,a3,a4⟩:=j1 hw
      obtain⟨y,r,hy,hyd⟩:=hwn hw;have hl1:1<=w.2.1.length:=by rw[hy];simp
      rw[a2,dT (w.1=0) hw];simp only[bindS,Uk,Qb,Uj,Ui,Qf];have hget:(out++w.2.1)[out.length]? = some y:=by rw[List.getElem?_append_right (by omega),hy];simp
      have hh:w.2.1.headD default=y:=by rw[hy];rfl
      have hlen:(out++w.2.1).length=out.length+w.2.1.length:=Qc;rw[hget,hh,show (decide ((0:Int)<=(out.length:Int))&&decide ((out.length:Int)<((out++w.2.1).length:Int)))=true by (rw[Qd,Uq,Uq];exact⟨by omega,by omega⟩)];simp only[bindS,Ui,Veu y (by omega)];have hv:=ih at1 (out++w.2.1) false [] a1 (by omega);rw[a3,hlen]at hv;generalize W getB f w.2.2 (out.length+w.2.1.length) (d+1) false []=v at hv |-;obtain⟨v1,v2⟩:=hv;by_cases hv0:v.1=0
      · obtain⟨at2,b1,b2,b3,b4⟩:=v1 hv0
        rw[b2,dT (v.1=0) hv0];simp only[bindS,Uk,Qb,Uj,Ui,Qo];have hlen2:(out++w.2.1++v.2.1).length=out.length+w.2.1.length+v.2.1.length:=by rw[Qc,hlen]
        obtain⟨z,z1,z2,z3⟩:=ihk (i+1) at2 (out++w.2.1++v.2.1) fuel (enc y) (by omega) b1 (by omega) (by omega);rw[b3,hlen2]at z2 z3;refine⟨z,z1,λh=>?_,λh=>z3 h⟩;obtain⟨at3,c1,c2,c3,c4⟩:=z2 h;refine⟨at3,c1,by rw[c2,Qi,Qi],c3,?_⟩;dsimp only;rw[Qc,Qc];omega
      · obtain⟨st,b1⟩:=v2 hv0
        rw[b1,dF (v.1=0) hv0];refine⟨.inl (st.1,v.1,()),?_,λh=>absurd h hv0,λ_=>⟨_,rfl⟩⟩;simp only[bindS];rw[dF (v.1=0) hv0];rfl
    · obtain⟨st,a1⟩:=j2 hw
      rw[a1,dF (w.1=0) hw];refine⟨.inl (st.1,w.1,()),?_,λh=>absurd h hw,λ_=>⟨_,rfl⟩⟩;simp only[bindS];rw[dF (w.1=0) hw];rfl
theorem tailI(x:Ja)(m:Ub)(at1:Nat)(out:List Ja)(hat:at1<=bs.length)(ho:out.length<512)(hm:isN x.kind=true->m=x.number/\m.toNat<=512) :
  RI bs out ((bif decide (x.kind=5) then LA (λs n=>W getB f s n (d+1) false []) x.number.toNat (bs.drop at1) (out.length+1) else bif decide (x.kind=6) then LM (λs n last=>W getB f s n (d+1) true last) (λs n=>W getB f s n (d+1) false []) x.number.toNat (bs.drop at1) (out.length+1) [] else ((0:Int),([]:List Ja),bs.drop at1)).1,x::(bif decide (x.kind=5) then LA (λs n=>W getB f s n (d+1) false []) x.number.toNat (bs.drop at1) (out.length+1) else bif decide (x.kind=6) then LM (λs n last=>W getB f s n (d+1) true last) (λs n=>W getB f s n (d+1) false []) x.number.toNat (bs.drop at1) (out.length+1) [] else ((0:Int),([]:List Ja),bs.drop at1)).2.1,(bif decide (x.kind=5) then LA (λs n=>W getB f s n (d+1) false []) x.number.toNat (bs.drop at1) (out.length+1) else bif decide (x.kind=6) then LM (λs n last=>W getB f s n (d+1) true last) (λs n=>W getB f s n (d+1) false []) x.number.toNat (bs.drop at1) (out.length+1) [] else ((0:Int),([]:List Ja),bs.drop at1)).2.2)
   ((Zbc_L1 k_rec ((bs,(at1:Int),out++[x],()),(d:Int),(x,()),m,isN x.kind,([]:Ua),0#64,())).bind (Q9 (λ(z23:(Rr×Int×Unit))=>(some (((z23.1.1,z23.1.2.1,z23.1.2.2.1,()),()),(z23.2.1,())))) (λ(z24:(Rr×Unit))=>(some (((z24.1.1,z24.1.2.1,z24.1.2.2.1,()),()),((0:Int),())))))):=by
 have hlen:(out++[x]).length=out.length+1:=by simp
 have fin:∀(w:Res Ua) (z:(Rr×Int×Unit)⊕(Rr×Unit)),ZB bs (out++[x]) w z->RI bs out (w.1,x::w.2.1,w.2.2) (Q9 (λ(z23:(Rr×Int×Unit))=>(some (((z23.1.1,z23.1.2.1,z23.1.2.2.1,()),()),(z23.2.1,())):Option ((Rr×Unit)×(Int×Unit)))) (λ(z24:(Rr×Unit))=>(some (((z24.1.1,z24.1.2.1,z24.1.2.2.1,()),()),((0:Int),())))) z):=by
  intro w z hz;obtain⟨z1,z2⟩:=hz;refine⟨λh=>?_,λh=>?_⟩
  ·obtain⟨at2,b1,b2,b3,b4⟩:=z1 h;refine⟨at2,b1,?_,b3,?_⟩
   ·rw[b2];simp
   ·dsimp only;rw[Qp];omega
  ·obtain⟨st,b1⟩:=z2 h;rw[b1];exact⟨_,rfl⟩
 unfold Zbc_L1;rw[show (0#64)=Qe 64 0 from rfl];by_cases h5:x.kind=5
 ·obtain⟨rfl,hm2⟩:=hm (by simp[isN,h5]);obtain⟨z,z1,z2⟩:=loopA bs k_rec f d ih ed x x.number h5 hm2 x.number.toNat 0 at1 (out++[x]) rounds [] (by omega) hat (by omega) (by rw[Vaa];omega);rw[show isN x.kind=true by simp[isN,h5],z1,dT (x.kind=5) h5];rw[hlen]at z2;exact fin _ z z2
 ·by_cases h6:x.kind=6
  ·obtain⟨rfl,hm2⟩:=hm (by simp[isN,h6]);obtain⟨z,z1,z2⟩:=loopM bs k_rec f d ih ed x x.number h6 hm2 x.number.toNat 0 at1 (out++[x]) rounds [] (by omega) hat (by omega) (by rw[Vaa];omega);rw[show isN x.kind=true by simp[isN,h6],z1,dF (x.kind=5) h5,dT (x.kind=6) h6];rw[hlen]at z2;exact fin _ z z2
  ·rw[show isN x.kind=false by simp[isN,h5,h6],dF (x.kind=5) h5,dF (x.kind=6) h6,Vaa,show (1180591620717411303424:Nat)=1180591620717411303423+1 from rfl,Vac];refine fin (0,[],bs.drop at1) (.inr ((bs,(at1:Int),out++[x],()),())) ⟨λ_=>⟨at1,hat,by simp,rfl,by simp;omega⟩,λh=>absurd rfl h⟩
end
theorem admR(k:Int)(n d:Nat)(key:Bool)(h1:1<=k)(h2:k<=8):adm k n d key=bif decide (512<=n) then 8 else bif key&&!isK k then 3 else bif decide (8<d) then 5 else 0:=by
 unfold adm;rw[show (decide (1<=k)&&decide (k<=8))=true by simp[h1,h2]];rfl
def endI(k_rec:RK)(bs:Ua)(at1:Int)(out:List Ja)(d:Int)(key:Bool)(before:Ua)(x:Ja)(m:Ub):Option ((Rr×Unit)×(Int×Unit)):=
 bif !decide (acc x key before=0) then some (((bs,at1,out,()),()),(acc x key before,())) else
 (Zbc_L1 k_rec ((bs,at1,out++[x],()),d,(x,()),m,isN x.kind,([]:Ua),0#64,())).bind (Q9 (λ(z23:(Rr×Int×Unit))=>(some (((z23.1.1,z23.1.2.1,z23.1.2.2.1,()),()),(z23.2.1,())))) (λ(z24:(Rr×Unit))=>(some (((z24.1.1,z24.1.2.1,z24.1.2.2.1,()),()),((0:Int),())))))
def midI(k_rec:RK)(bs:Ua)(at1:Nat)(out:List Ja)(d:Nat)(key:Bool)(before:Ua)(k:Int)(m:Ub):Option ((Rr×Unit)×(Int×Unit)):=
 bif !decide (adm k out.length d key=0) then some (((bs,(at1:Int),out,()),()),(adm k out.length d key,())) else
 bif isN k then (bif decide (512<m.toNat) then some (((bs,(at1:Int),out,()),()),(8,())) else endI k_rec bs (at1:Int) out (d:Int) key before ⟨k,m,[]⟩ m) else
 bif isD k then (bif decide (1024<m.toNat) then some (((bs,(at1:Int),out,()),()),(8,())) else bif decide (bs.length-at1<m.toNat) then some (((bs,(at1:Int),out,()),()),(1,())) else endI k_rec bs ((at1+m.toNat:Nat):Int) out (d:Int) key before ⟨k,0#64,(bs.drop at1).take m.toNat⟩ m) else
 endI k_rec bs (at1:Int) out (d:Int) key before ⟨k,m,[]⟩ m
theorem Vg8a(k_rec:RK)(bs:Ua)(at0:Int)(at1:Nat)(out:List Ja)(d:Nat)(key:Bool)(before:Ua)(k:Int)(m:Ub)(hat:at1<=bs.length)(hbs:bs.length<1000000)(ho:out.length<=512)(h1:1<=k)(h2:k<=8)
  (hh:Zbb (bs,at0,out,())=some (((bs,(at1:Int),out,()),()),(⟨k,m,[]⟩,0,()))) :
  Zbc_R k_rec (bs,at0,out,()) (d:Int) key before=midI k_rec bs at1 out d key before k m:=by
 unfold Zbc_R midI;dsimp only;rw[hh,admR k out.length d key h1 h2];simp only[bindS,Uk,Qb,Uj,Vlg];have q1:decide ((512:Int)<=(out.length:Int))=decide (512<=out.length):=by rw[decide_eq_decide];omega
 have q2:decide ((8:Int)<(d:Int))=decide (8<d):=by rw[decide_eq_decide];omega
 have sm:∀x:Ja,small (out.length+([x]:List Ja).length) 32=true:=λx=>Veh (by simp;omega);have eb:decide (before=[])=before.isEmpty:=by cases before<;>rfl
 have bv:∀v:Nat,v<1000000->(Qx 64 (v:Int)).toNat=v:=λv hv=>by rw[Q6,Q0,Q3 (by omega)]
 rcases kinds k with rfl|rfl|rfl|rfl|rfl|rfl|⟨g1,g2,g3,g4,g5,g6⟩
 ·unfold endI acc;cases key<;>simp only[show isN (3:Int)=false from rfl,show isD (3:Int)=true from rfl,show isK (3:Int)=false from rfl,show (1024#64).toNat=1024 from rfl,show (512#64).toNat=512 from rfl,Int.reduceEq,Uk,Ul,Ui,Uj,bindS,q1,q2,Qb,Qg,Ql,Qj,Qw,Qn]
  ·
   generalize decide (512<=out.length)=c1;cases c1
   ·generalize decide (8<d)=c2;cases c2
    ·by_cases h3:1024<m.toNat
     ·rw[dT (1024<m.toNat) h3];rfl
     ·rw[dF (1024<m.toNat) h3];simp only[Uj,Ui,bindS];rw[wI ((bs.length:Int)-(at1:Int)) (by omega),show (bs.length:Int)-(at1:Int)=((bs.length-at1:Nat):Int) by omega,bv _ (by omega)];by_cases h4:bs.length-at1<m.toNat
      ·rw[dT (bs.length-at1<m.toNat) h4];rfl
      ·rw[dF (bs.length-at1<m.toNat) h4];simp only[Uj,Ui,bindS];rw[wI ((m.toNat:Int)) (by omega),wI ((at1:Int)+(m.toNat:Int)) (by omega),show ((at1:Int)+(m.toNat:Int))=((at1+m.toNat:Nat):Int) from rfl];simp only[Qf];rw[show (decide ((0:Int)<=((at1+m.toNat:Nat):Int))&&decide (((at1+m.toNat:Nat):Int)<=(bs.length:Int)))=true by (rw[Qd,Uq,Uq];exact⟨by omega,by omega⟩),show (decide ((0:Int)<=(at1:Int))&&decide ((at1:Int)<=((at1+m.toNat:Nat):Int)))=true by (rw[Qd,Uq,Uq];exact⟨by omega,by omega⟩)];have hv:Qv at1 (Q2 (at1+m.toNat) bs)=(bs.drop at1).take m.toNat:=by
        rw[Qy,show at1+m.toNat-at1=m.toNat by omega]
       have hvl:((bs.drop at1).take m.toNat).length<1000000:=by rw[Qs];omega
       rw[hv];generalize (bs.drop at1).take m.toNat=l at hvl;simp only[Ui,bindS,Int.reduceEq,Uk,Ul,Uj,Qj,Ql,Qn];rw[sm];rfl
    ·rfl
   ·rfl
  ·generalize decide (512<=out.length)=c1;cases c1<;>rfl
 ·unfold endI acc;cases key<;>simp only[show isN (4:Int)=false from rfl,show isD (4:Int)=true from rfl,show isK (4:Int)=true from rfl,show (1024#64).toNat=1024 from rfl,show (512#64).toNat=512 from rfl,Int.reduceEq,Uk,Ul,Ui,Uj,bindS,q1,q2,Qb,Qg,Ql,Qj,Qw,Qn]
  ·
   generalize decide (512<=out.length)=c1;cases c1
   ·generalize decide (8<d)=c2;cases c2
    ·by_cases h3:1024<m.toNat
     ·rw[dT (1024<m.toNat) h3];rfl
     ·rw[dF (1024<m.toNat) h3];simp only[Uj,Ui,bindS];rw[wI ((bs.length:Int)-(at1:Int)) (by omega),show (bs.length:Int)-(at1:Int)=((bs.length-at1:Nat):Int) by omega,bv _ (by omega)];by_cases h4:bs.length-at1<m.toNat
      ·rw[dT (bs.length-at1<m.toNat) h4];rfl
      ·rw[dF (bs.length-at1<m.toNat) h4];simp only[Uj,Ui,bindS];rw[wI ((m.toNat:Int)) (by omega),wI ((at1:Int)+(m.toNat:Int)) (by omega),show ((at1:Int)+(m.toNat:Int))=((at1+m.toNat:Nat):Int) from rfl];simp only[Qf];rw[show (decide ((0:Int)<=((at1+m.toNat:Nat):Int))&&decide (((at1+m.toNat:Nat):Int)<=(bs.length:Int)))=true by (rw[Qd,Uq,Uq];exact⟨by omega,by omega⟩),show (decide ((0:Int)<=(at1:Int))&&decide ((at1:Int)<=((at1+m.toNat:Nat):Int)))=true by (rw[Qd,Uq,Uq];exact⟨by omega,by omega⟩)];have hv:Qv at1 (Q2 (at1+m.toNat) bs)=(bs.drop at1).take m.toNat:=by
        rw[Qy,show at1+m.toNat-at1=m.toNat by omega]
       have hvl:((bs.drop at1).take m.toNat).length<1000000:=by rw[Qs];omega
       rw[hv];generalize (bs.drop at1).take m.toNat=l at hvl;simp only[Ui,bindS,Int.reduceEq,Uk,Ul,Uj,Qj,Ql,Qn];rw[Vbc hvl];simp only[bindS];generalize Lib.validD l=va;cases va
       ·rfl
       ·simp only[Qb,Uj,bindS];rw[sm];rfl
    ·rfl
   ·rfl
  ·
   generalize decide (512<=out.length)=c1;cases c1
   ·generalize decide (8<d)=c2;cases c2
    ·by_cases h3:1024<m.toNat
     ·rw[dT (1024<m.toNat) h3];rfl
     ·rw[dF (1024<m.toNat) h3];simp only[Uj,Ui,bindS];rw[wI ((bs.length:Int)-(at1:Int)) (by omega),show (bs.length:Int)-(at1:Int)=((bs.length-at1:Nat):Int) by omega,bv _ (by omega)];by_cases h4:bs.length-at1<m.toNat
      ·rw[dT (bs.length-at1<m.toNat) h4];rfl
      ·rw[dF (bs.length-at1<m.toNat) h4];simp only[Uj,Ui,bindS];rw[wI ((m.toNat:Int)) (by omega),wI ((at1:Int)+(m.toNat:Int)) (by omega),show ((at1:Int)+(m.toNat:Int))=((at1+m.toNat:Nat):Int) from rfl];simp only[Qf];rw[show (decide ((0:Int)<=((at1+m.toNat:Nat):Int))&&decide (((at1+m.toNat:Nat):Int)<=(bs.length:Int)))=true by (rw[Qd,Uq,Uq];exact⟨by omega,by omega⟩),show (decide ((0:Int)<=(at1:Int))&&decide ((at1:Int)<=((at1+m.toNat:Nat):Int)))=true by (rw[Qd,Uq,Uq];exact⟨by omega,by omega⟩)];have hv:Qv at1 (Q2 (at1+m.toNat) bs)=(bs.drop at1).take m.toNat:=by
        rw[Qy,show at1+m.toNat-at1=m.toNat by omega]
       have hvl:((bs.drop at1).take m.toNat).length<1000000:=by rw[Qs];omega
       rw[hv];generalize (bs.drop at1).take m.toNat=l at hvl;simp only[Ui,bindS,Int.reduceEq,Uk,Ul,Uj,Qj,Ql,Qn];rw[Vbc hvl];simp only[bindS];generalize Lib.validD l=va;cases va
       ·rfl
       ·simp only[Qb,Uj,bindS,Ui,eb];rw[Veu ⟨4,0#64,l⟩ hvl];simp only[bindS,Vlf];generalize before.isEmpty=be;generalize lss before (enc ⟨4,0#64,l⟩)=ls;cases be
        ·cases ls
         ·rfl
         ·simp only[Qb,Qg,Ui,Uj,bindS];rw[sm];rfl
        ·simp only[Qb,Qg,Ui,Uj,bindS];rw[sm];rfl
    ·rfl
   ·rfl
 ·unfold endI acc;cases key<;>simp only[show isN (5:Int)=true from rfl,show isD (5:Int)=false from rfl,show isK (5:Int)=false from rfl,show (1024#64).toNat=1024 from rfl,show (512#64).toNat=512 from rfl,Int.reduceEq,Uk,Ul,Ui,Uj,bindS,q1,q2,Qb,Qg,Ql,Qj,Qw,Qn]
  ·
   generalize decide (512<=out.length)=c1;cases c1
   ·generalize decide (8<d)=c2;cases c2
    ·by_cases h3:512<m.toNat
     ·rw[dT (512<m.toNat) h3];rfl
     ·rw[dF (512<m.toNat) h3];simp only[Uj,Ui,bindS,Int.reduceEq,Uk,Ul];rw[sm];rfl
    ·rfl
   ·rfl
  ·generalize decide (512<=out.length)=c1;cases c1<;>rfl
 ·unfold endI acc;cases key<;>simp only[show isN (6:Int)=true from rfl,show isD (6:Int)=false from rfl,show isK (6:Int)=false from rfl,show (1024#64).toNat=1024 from rfl,show (512#64).toNat=512 from rfl,Int.reduceEq,Uk,Ul,Ui,Uj,bindS,q1,q2,Qb,Qg,Ql,Qj,Qw,Qn]
  ·
   generalize decide (512<=out.length)=c1;cases c1
   ·generalize decide (8<d)=c2;cases c2
    ·by_cases h3:512<m.toNat
     ·rw[dT (512<m.toNat) h3];rfl
     ·rw[dF (512<m.toNat) h3];simp only[Uj,Ui,bindS,Int.reduceEq,Uk,Ul];rw[sm];rfl
    ·rfl
   ·rfl
  ·generalize decide (512<=out.length)=c1;cases c1<;>rfl
 ·unfold endI acc;cases key<;>simp only[show isN (7:Int)=false from rfl,show isD (7:Int)=false from rfl,show isK (7:Int)=false from rfl,show (1024#64).toNat=1024 from rfl,show (512#64).toNat=512 from rfl,Int.reduceEq,Uk,Ul,Ui,Uj,bindS,q1,q2,Qb,Qg,Ql,Qj,Qw,Qn]
  ·
   generalize decide (512<=out.length)=c1;cases c1
   ·generalize decide (8<d)=c2;cases c2
    ·simp only[Uj,Ui,bindS,Int.reduceEq,Uk,Ul];rw[sm];rfl
    ·rfl
   ·rfl
  ·generalize decide (512<=out.length)=c1;cases c1<;>rfl
 ·unfold endI acc;cases key<;>simp only[show isN (8:Int)=false from rfl,show isD (8:Int)=false from rfl,show isK (8:Int)=false from rfl,show (1024#64).toNat=1024 from rfl,show (512#64).toNat=512 from rfl,Int.reduceEq,Uk,Ul,Ui,Uj,bindS,q1,q2,Qb,Qg,Ql,Qj,Qw,Qn]
  ·
   generalize decide (512<=out.length)=c1;cases c1
   ·generalize decide (8<d)=c2;cases c2
    ·simp only[Uj,Ui,bindS,Int.reduceEq,Uk,Ul];rw[sm];rfl
    ·rfl
   ·rfl
  ·generalize decide (512<=out.length)=c1;cases c1<;>rfl
 ·have eN : isN k=false := by simp[isN, g3, g4]
  have eD:isD k=false:=by simp[isD,g1,g2]
  unfold endI acc;cases key<;>simp only[eN,eD,g1,g2,g3,g4,show (1024#64).toNat=1024 from rfl,show (512#64).toNat=512 from rfl,Int.reduceEq,Uk,Ul,Ui,Uj,bindS,q1,q2,Qb,Qg,Ql,Qj,Qw,Qn]
  ·
   generalize decide (512<=out.length)=c1;cases c1
   ·generalize decide (8<d)=c2;cases c2
    ·simp only[Uj,Ui,bindS,g1,g2,g3,g4,Uk,Ul];rw[sm];rfl
    ·rfl
   ·rfl
  ·generalize isK k=ik;cases ik
   ·generalize decide (512<=out.length)=c1;cases c1<;>rfl
   ·simp only[Qb,Uj];generalize decide (512<=out.length)=c1;cases c1
    ·generalize decide (8<d)=c2;cases c2
     ·simp only[Uj,Ui,bindS,g1,g2,g3,g4,Uk,Ul,eb];rw[Veu ⟨k,m,[]⟩ (by simp)];simp only[bindS,Vlf];generalize before.isEmpty=be;generalize lss before (enc ⟨k,m,[]⟩)=ls;cases be
      ·cases ls
       ·rfl
       ·simp only[Qb,Qg,Ui,Uj,bindS];rw[sm];rfl
      ·simp only[Qb,Qg,Ui,Uj,bindS];rw[sm];rfl
     ·rfl
    ·rfl
def WR(f:Nat)(n d:Nat)(s:Ua)(g:Int×Ja×Ua):Res Ua:=
 bif decide (g.1=0) then
  let q:=bif decide (g.2.1.kind=5) then LA (λs n=>W getB f s n (d+1) false []) g.2.1.number.toNat g.2.2 (n+1)
   else bif decide (g.2.1.kind=6) then LM (λs n last=>W getB f s n (d+1) true last) (λs n=>W getB f s n (d+1) false []) g.2.1.number.toNat g.2.2 (n+1) []
   else (0,[],g.2.2)
  (q.1,g.2.1::q.2.1,q.2.2)
 else (g.1,[],s)
theorem W_WR(f n d:Nat)(s:Ua)(key:Bool)(b:Ua):W getB (f+1) s n d key b=WR f n d s (getB n d key b s):=rfl
theorem Vw7{f n d:Nat}{s:Ua}{g:Int×Ja×Ua}(h:g.1≠0):WR f n d s g=(g.1,[],s):=by
 unfold WR;rw[dF (g.1=0) h];rfl
theorem Vqi(bs:Ua)(hbs:bs.length<1000000):∀(f d at0:Nat) (out:List Ja) (key:Bool) (b:Ua),at0<=bs.length->out.length<=512->d<=9->10<=f+d->RI bs out (W getB f (bs.drop at0) out.length d key b) (Zbc_n f (bs,(at0:Int),out,()) (d:Int) key b)
 |0,d,at0,out,key,b,hat,ho,hd,hf=>by omega
 |f+1, d, at0, out, key, b, hat, ho, hd, hf => by
  have ih:=λat0 out key b h1 h2 h3 h4=>Vqi bs hbs f (d+1) at0 out key b h1 h2 h3 h4;obtain⟨at1,h1,h2,h3⟩:=Vaba out bs at0 hat hbs;show RI bs out (W getB (f+1) (bs.drop at0) out.length d key b) (Zbc_R (Zbc_n f) (bs,(at0:Int),out,()) (d:Int) key b);rw[W_WR];generalize bs.drop at0=s at h2 h3 |-;unfold getB;have hB:=λk m t=>Vlj (s:=s) (k:=k) (n:=m) (t:=t);generalize hdB s=q at h2 h3 hB |-;obtain⟨e,k,m,t⟩:=q;dsimp only at h2 h3 hB |-;by_cases he:e=0
  ·subst he;have ht:=h3 rfl;have hbk:=hB k m t rfl;have hk1:1<=k/\k<=8:=by omega
   rw[Vg8a _ bs (at0:Int) at1 out d key b k m h1 hbs ho hk1.1 hk1.2 h2];unfold midI;by_cases ha:adm k out.length d key=0
   ·obtain⟨a1,a2,a3,a4,a5⟩:=Vbo ha;simp only[ha,Uk,Qb,Uj];have ed:Qa .i64 ((d:Int)+1)=((d+1:Nat):Int):=by
     rw[wI ((d:Int)+1) (by omega)];rfl
    have fin:∀(x:Ja) (at2:Nat) (u:Ua) (m:Ub),at2<=bs.length->bs.drop at2=u->(isN x.kind=true->m=x.number/\m.toNat<=512)->RI bs out (WR f out.length d s (accB key b (0,x,u))) (endI (Zbc_n f) bs (at2:Int) out (d:Int) key b x m):=by
     intro x at2 u m hat2 hu hm;unfold endI accB;simp only[Uk,Ui];by_cases hc:acc x key b=0
     ·have:=tailI bs (Zbc_n f) f d (λat0 out key b h1 h2=>ih at0 out key b h1 h2 (by omega) (by omega)) ed x m at2 out hat2 a1 hm;rw[hu]at this;simp only[hc,Uk,Qb,Uj];unfold WR;exact this
     ·rw[Vw7 (g:=(acc x key b,x,u)) hc,dF (acc x key b=0) hc];exact Vjz hc
    unfold bodB;cases hN:isN k
    ·simp only[Uj];cases hD:isD k
     ·simp only[Uj];exact fin ⟨k,m,[]⟩ at1 t m h1 ht (λh=>by dsimp only at h;rw[hN]at h;cases h)
     ·simp only[Ui];have htl:=congrArg List.length ht;rw[Qu]at htl;by_cases q1:1024<m.toNat
      ·simp only[Um q1,Ui];exact Vjz (e:=8) (by decide)
      ·simp only[Un q1,Uj];by_cases q2:t.length<m.toNat
       ·rw[dT (bs.length-at1<m.toNat) (by omega),dT (t.length<m.toNat) q2];exact Vjz (e:=1) (by decide)
       ·rw[dF (bs.length-at1<m.toNat) (by omega),dF (t.length<m.toNat) q2,ht];exact fin ⟨k,0#64,t.take m.toNat⟩ (at1+m.toNat) (t.drop m.toNat) m (by omega) (by rw[<-ht,Qq]) (λh=>by dsimp only at h;rw[hN]at h;cases h)
    ·simp only[Ui];by_cases q1:512<m.toNat
     ·simp only[Um q1,Ui];exact Vjz (e:=8) (by decide)
     ·simp only[Un q1,Uj];exact fin ⟨k,m,[]⟩ at1 t m h1 ht (λ_=>⟨rfl,by omega⟩)
   ·simp only[Un ha,Qg,Ui,Uk,Qb,Uj];rw[Vw7 (by exact ha)];exact Vjz ha
  ·have e1:Zbc_R (Zbc_n f) (bs,(at0:Int),out,()) (d:Int) key b=some (((bs,(at1:Int),out,()),()),(e,())):=by
    unfold Zbc_R;dsimp only;rw[h2];simp only[bindS];rw[dF (e=0) he];rfl
   rw[e1,dF (e=0) he];simp only[Qg,Ui];rw[Vw7 (by exact he)];exact Vjz he
theorem Vj0(bs:Ua)(hbs:bs.length<1000000):Zei bs=some ((),(decO bs).1,(decO bs).2.1,(decO bs).2.2,()):=by
 have h:RI bs [] (W getB 12 bs 0 0 false []) (Zbc (bs,0,[],()) 0 false []):=Vqi bs hbs 12 0 0 [] false [] (by omega) (by simp) (by omega) (by omega);obtain⟨m1,m2⟩:=Vm7 Vena 12 (by omega) bs;unfold Zei decO;obtain⟨j1,j2⟩:=h;by_cases hw:(W getB 12 bs 0 0 false []).1=0
 ·obtain⟨at1,a1,a2,a3,a4⟩:=j1 hw;rw[m2 hw];rw[a2];simp only[bindS,Uk,Qb,Uj,Ui,hw,Qab];have hl:=congrArg List.length a3;rw[Qu]at hl;rw[show (bs.length-(W getB 12 bs 0 0 false []).2.2.length:Nat)=at1 by omega]
 ·obtain⟨st,a1⟩:=j2 hw;rw[a1];simp only[bindS];rw[dF ((W getB 12 bs 0 0 false []).1=0) hw,m1 hw,dF ((W getB 12 bs 0 0 false []).1=0) hw];rfl
def addI(x:Ja):Nat:=bif decide (x.kind=5) then x.number.toNat else bif decide (x.kind=6) then 2*x.number.toNat else 0
def skp:List Ja->Nat->Option Nat
 |[],0=>some 0
 |[],_+1=>none
 |_::_,0=>some 0
 |x::r,n+1=>bif isN x.kind&&decide (512<x.number.toNat) then none else (skp r (n+addI x)).map (·+1)
theorem Vhb:∀l,skp l 0=some 0
 |[]=>rfl
 |_::_=>rfl
def skZ(at0:Nat):Option Nat->(Int×Bool×Unit)⊕(Int×Unit)
 |none=>.inl (0,false,())
 |some k=>.inr (((at0+k:Nat):Int),())
theorem Vw8{x:Ja}(h:(isN x.kind&&decide (512<x.number.toNat))=false):addI x<=1024:=by
 unfold addI;simp only[isN,Bool.and_eq_false_iff,decide_eq_false_iff_not,Q8]at h;by_cases h5:x.kind=5
 ·simp[h5]at h |-;omega
 ·by_cases h6:x.kind=6
  ·simp[h6]at h |-;omega
  ·simp[h5,h6]
theorem Vaca(l:List Ja)(hl:l.length<1000000):∀(r:List Ja) (at0 need f:Nat),l.drop at0=r->at0<=l.length->need<=1024*(at0+1)->r.length<f ->
  iter (λ(y:((List (Ja))×Int×Int×Unit))=>cbor_Skip_L0b y.1 y.2.1 y.2.2.1) f (l,(at0:Int),(need:Int),())=some (skZ at0 (skp r need)):=by
 intro r;induction r with
 |nil=>
  intro at0 need f hr ha hn hf;have hal:at0=l.length:=by
   have:=congrArg List.length hr;simp at this;omega
  obtain⟨f,rfl⟩:∃g,f=g+1:=⟨f-1,by omega⟩;rw[Vac];dsimp only;unfold cbor_Skip_L0b;cases need with
  |zero=>rfl
  |succ need=>
   rw[dT ((0:Int)<((need+1:Nat):Int)) (by omega),dT ((l.length:Int)<=(at0:Int)) (by omega)];rfl
 |cons x r ih=>
  intro at0 need f hr ha hn hf;have hlt:at0<l.length:=by
   have:=congrArg List.length hr;simp at this;omega
  have hx:l[at0]? = some x:=by
   have:=congrArg (·[0]?) hr;simpa using this
  have hr2:l.drop (at0+1)=r:=by
   have:=congrArg (Qv 1) hr;simpa[Qq]using this
  have eg:getI l (at0:Int)=some x:=by unfold getI;simp[hx]
  simp only[Qp]at hf;obtain⟨f,rfl⟩:∃g,f=g+1:=⟨f-1,by omega⟩;rw[Vac];dsimp only;cases need with
  |zero=>rfl
  |succ need=>
   have e1 : cbor_Skip_L0b l (at0 : Int) ((need+1 : Nat) : Int)=some (bif isN x.kind&&decide (512<x.number.toNat) then .inr (.inl (0, false, ())) else .inl (l, ((at0+1 : Nat) : Int), ((need+addI x : Nat) : Int), ())) := by
    unfold cbor_Skip_L0b;rw[dT ((0:Int)<((need+1:Nat):Int)) (by omega),dF ((l.length:Int)<=(at0:Int)) (by omega),eg,wI ((at0:Int)+1) (by omega),wI (((need+1:Nat):Int)-1) (by omega),show ((need+1:Nat):Int)-1=(need:Int) by omega,show (512#64).toNat=512 from rfl];simp only[Ui,Uj,bindS];unfold isN addI;by_cases h5:x.kind=5
    ·by_cases hm:512<x.number.toNat
     ·simp[h5,hm]
     ·rw[wI ((x.number.toNat:Int)) (by omega),wI ((need:Int)+(x.number.toNat:Int)) (by omega)];simp[h5,hm]
    ·by_cases h6:x.kind=6
     ·by_cases hm:512<x.number.toNat
      ·simp[h6,hm]
      ·rw[wI ((x.number.toNat:Int)) (by omega),wI ((need:Int)+(x.number.toNat:Int)) (by omega),wI ((need:Int)+(x.number.toNat:Int)+(x.number.toNat:Int)) (by omega)];simp[h6,hm];omega
     ·simp[h5,h6]
   rw[e1,bindS];simp only[skp];cases hb:(isN x.kind&&decide (512<x.number.toNat))
   ·simp only[Uj,Qo];have:=Vw8 hb;rw[ih (at0+1) (need+addI x) f hr2 (by omega) (by omega) (by omega)];cases skp r (need+addI x) with
    |none=>rfl
    |some k=>
     simp only[Option.map_some,skZ];rw[show at0+1+k=at0+(k+1) by omega]
   ·rfl
def skO(l:List Ja)(a:Int):Int×Bool:=bif decide (a<0) then (0,false) else bif decide ((l.length:Int)<=a) then (0,false) else match skp (l.drop a.toNat) 1 with
 |none=>(0,false)
 |some k=>(((a.toNat+k:Nat):Int),true)
theorem Vqj(a:Nat)(o:Option Nat):(Q9 (λ(z6:(Int×Bool×Unit))=>(some ((),(z6.1,z6.2.1,())):Option (Unit×(Int×Bool×Unit)))) (λ(z7:(Int×Unit))=>(some ((),(z7.1,true,())))) (skZ a o))=some ((),(match o with|none=>((0:Int),false)|some k=>(((a+k:Nat):Int),true)).1,(match o with|none=>((0:Int),false)|some k=>(((a+k:Nat):Int),true)).2,()):=by
 cases o<;>rfl
theorem Vot(l:List Ja)(a:Int)(hl:l.length<1000000):cbor_Skip l a=some ((),(skO l a).1,(skO l a).2,()):=by
 unfold cbor_Skip skO;by_cases h1:a<0
 ·simp[h1]
 ·rw[dF (a<0) h1];by_cases h2:(l.length:Int)<=a
  ·simp[h2]
  ·rw[dF ((l.length:Int)<=a) h2];obtain⟨n,rfl⟩:∃n:Nat,a=(n:Int):=⟨a.toNat,by omega⟩;have:=Vaca l hl (l.drop n) n 1 rounds rfl (by omega) (by omega) (by rw[Vaa];simp;omega);unfold cbor_Skip_L0 Yi3;simp only[Uj];rw[show (1:Int)=((1:Nat):Int) from rfl,this,bindS,Qf,Vqj]
theorem Vqk(o:Option Nat)(a b:Nat):(o.map (·+a)).map (·+b)=o.map (·+(b+a)):=by
 cases o with
 |none=>rfl
 |some k=>simp;omega
theorem map0(o:Option Nat):o=o.map (·+0):=by cases o<;>rfl
theorem W_skp : ∀(f : Nat) (s : List Ja) (n d : Nat) (key : Bool) (b : Ua), (W getL f s n d key b).1=0->∀m, skp s (m+1)=(skp (W getL f s n d key b).2.2 m).map (·+(W getL f s n d key b).2.1.length)
 |0,s,n,d,key,b,h=>by simp[W]at h
 |f+1, s, n, d, key, b, h => by
  have ih:=W_skp f;intro m;unfold W at h |-;dsimp only at h |-;rcases hg:getL n d key b s with⟨e,x,t⟩;rw[hg]at h;dsimp only at h |-;by_cases he:e=0
  ·subst he;simp only[Uk,Ui]at h |-;have hs:s=x::t/\(isN x.kind&&decide (512<x.number.toNat))=false:=by
    cases s with
    |nil=>simp[getL]at hg
    |cons y r=>
     simp only[getL,Qh]at hg;obtain⟨g1,rfl,rfl⟩:=hg;refine⟨rfl,?_⟩;have:=(Vb9 (Vay g1).2.2.1).2;cases hn:isN y.kind
     ·rfl
     ·rw[Un (by have:=this hn;omega)];rfl
   rw[hs.1];simp only[skp,hs.2,Uj,Qp];have key2:∀q:Res (List Ja),skp t (m+addI x)=(skp q.2.2 m).map (·+q.2.1.length)->(skp t (m+addI x)).map (·+1)=(skp q.2.2 m).map (·+(q.2.1.length+1)):=by
    intro q hq;rw[hq,Vqk,Qaf 1]
   refine key2 _ ?_;by_cases h5:x.kind=5
   ·simp only[h5,Uk,Ui]at h |-;have loop:∀(k:Nat) (t:List Ja) (n:Nat),(LA (λs n=>W getL f s n (d+1) false []) k t n).1=0->skp t (m+k)=(skp (LA (λs n=>W getL f s n (d+1) false []) k t n).2.2 m).map (·+(LA (λs n=>W getL f s n (d+1) false []) k t n).2.1.length):=by
     intro k;induction k with
     |zero=>intro t n _;exact map0 _
     |succ k ihk=>
      intro t n h;unfold LA at h |-;have i1:=ih t n (d+1) false [];generalize W getL f t n (d+1) false []=w at h i1 |-;by_cases hw:w.1=0
      ·rw[show decide (w.1=0)=true by simpa using hw]at h |-;simp only[Ui]at h |-;rw[<-Nat.add_assoc,i1 hw (m+k),ihk _ _ h,Vqk,Qc]
      ·rw[show decide (w.1=0)=false by simpa using hw]at h;exact absurd h hw
    have:=loop _ _ _ h;unfold addI;simp only[h5,Uk,Ui];exact this
   ·by_cases h6:x.kind=6
    ·simp only[h6,Uk,Ui,Int.reduceEq,Ul,Uj]at h |-;have loop:∀(k:Nat) (t:List Ja) (n:Nat) (l:Ua),(LM (λs n last=>W getL f s n (d+1) true last) (λs n=>W getL f s n (d+1) false []) k t n l).1=0->skp t (m+2*k)=(skp (LM (λs n last=>W getL f s n (d+1) true last) (λs n=>W getL f s n (d+1) false []) k t n l).2.2 m).map (·+(LM (λs n last=>W getL f s n (d+1) true last) (λs n=>W getL f s n (d+1) false []) k t n l).2.1.length):=by
      intro k;induction k with
      |zero=>intro t n l _;exact map0 _
      |succ k ihk=>
       intro t n l h;unfold LM at h |-;dsimp only at h |-;have i1:=ih t n (d+1) true l;generalize W getL f t n (d+1) true l=w at h i1 |-;by_cases hw:w.1=0
       ·rw[show decide (w.1=0)=true by simpa using hw]at h |-;simp only[Ui]at h |-;have i2:=ih w.2.2 (n+w.2.1.length) (d+1) false [];generalize W getL f w.2.2 (n+w.2.1.length) (d+1) false []=v at h i2 |-;by_cases hv:v.1=0
        ·rw[show decide (v.1=0)=true by simpa using hv]at h |-;simp only[Ui]at h |-;rw[show m+2*(k+1)=m+2*k+1+1 by omega,i1 hw (m+2*k+1),i2 hv (m+2*k),ihk _ _ _ h];simp only[Vqk,Qc]
        ·rw[show decide (v.1=0)=false by simpa using hv]at h;exact absurd h hv
       ·rw[show decide (w.1=0)=false by simpa using hw]at h;exact absurd h hw
     have:=loop _ _ _ _ h;unfold addI;simp only[h6,Uk,Ui,Int.reduceEq,Ul,Uj];exact this
    ·simp only[h5,h6,Ul,Uj];unfold addI;simp only[h5,h6,Ul,Uj];exact map0 _
  ·rw[show decide (e=0)=false by simpa using he]at h;exact absurd h he
inductive PairsAt:Nat->List Ja->List Ja->List (Ja×List Ja)->Prop
 |nil (t:List Ja):PairsAt 0 t t []
 |cons {k:Nat} {x:Ja} {v r t:List Ja} {ps:List (Ja×List Ja)} (hx:isN x.kind=false) (hv:∀m,skp (v++r) (m+1)=(skp r m).map (·+v.length)) (h0:v≠[]) (h:PairsAt k r t ps):PairsAt (k+1) (x::(v++r)) t ((x,v)::ps)
theorem W_one{f:Nat}{s:List Ja}{n d:Nat}{b:Ua}(h:(W getL f s n d true b).1=0):∃x,(W getL f s n d true b).2.1=[x]/\isN x.kind=false/\chk x n d true b=0:=by
 cases f with
 |zero=>simp[W]at h
 |succ f=>
  unfold W at h |-;dsimp only at h |-;rcases hg:getL n d true b s with⟨e,x,t⟩;rw[hg]at h;dsimp only at h |-;by_cases he:e=0
  ·subst he;obtain⟨_,hc⟩:=Vij hg;have hk:=(Vbo (Vay hc).1).2.2.2.1 rfl;have h5:¬ x.kind=5:=λh=>by rw[h]at hk;cases hk
   have h6:¬ x.kind=6:=λh=>by rw[h]at hk;cases hk
   refine⟨x,?_,?_,hc⟩
   ·simp[h5,h6]
   ·simp[isN,h5,h6]
  ·rw[dF (e=0) he]at h;exact absurd h he
theorem Vql(f d:Nat):∀(k:Nat) (s:List Ja) (n:Nat) (l:Ua),(LM (λs n last=>W getL f s n (d+1) true last) (λs n=>W getL f s n (d+1) false []) k s n l).1=0->∃ps,PairsAt k s (LM (λs n last=>W getL f s n (d+1) true last) (λs n=>W getL f s n (d+1) false []) k s n l).2.2 ps
 |0,s,n,l,h=>⟨_,PairsAt.nil _⟩
 |k+1,s,n,l,h=>by
  have ih:=Vql f d k;unfold LM at h |-;dsimp only at h |-;have hw1:=W_one (f:=f) (s:=s) (n:=n) (d:=d+1) (b:=l);have hwl:=Vig f s n (d+1) true l;generalize W getL f s n (d+1) true l=w at h hw1 hwl |-;by_cases hw:w.1=0
  ·rw[dT (w.1=0) hw]at h |-;simp only[Ui]at h |-;obtain⟨x,hx,hN,_⟩:=hw1 hw;have hs:=hwl hw;have hvl:=Vig f w.2.2 (n+w.2.1.length) (d+1) false [];have hvs:=W_skp f w.2.2 (n+w.2.1.length) (d+1) false [];have hvn:=W_ne (get:=getL) (f:=f) (s:=w.2.2) (n:=n+w.2.1.length) (d:=d+1) (key:=false) (b:=[]);generalize W getL f w.2.2 (n+w.2.1.length) (d+1) false []=v at h hvl hvs hvn |-;by_cases hv:v.1=0
   ·rw[dT (v.1=0) hv]at h |-;simp only[Ui]at h |-;obtain⟨ps,hp⟩:=ih _ _ _ h;have e1:=hvl hv;have e2:=hvs hv;obtain⟨y,r,hy⟩:=hvn hv;rw[e1]at e2;refine⟨(x,v.2.1)::ps,?_⟩;have es:s=x::(v.2.1++v.2.2):=by rw[hs,hx,<-e1];rfl
    rw[es];exact PairsAt.cons hN e2 (by rw[hy];simp) hp
   ·rw[dF (v.1=0) hv]at h;exact absurd h hv
  ·rw[dF (w.1=0) hw]at h;exact absurd h hw
theorem Vw9{l:List Ja}(h:valO l=0):W getL 12 l 0 0 false []=(0,l,[]):=by
 obtain⟨m1,m2⟩:=Vm7 Vli 12 (by omega) l;have hm:=(Vdf h).1;by_cases hw:(W getL 12 l 0 0 false []).1=0
 ·rw[<-m2 hw,hm]
 ·have:=m1 hw;rw[hm]at this;exact absurd this.symm hw
theorem Vou{l:List Ja}(h:valO l=0):l≠[]:=by
 intro e;have:=Vw9 h;subst e;simp[W,getL]at this
theorem Vada{x:Ja}{l:List Ja}(h:valO (x::l)=0)(h6:x.kind=6):x.number.toNat<=512/\∃ps,PairsAt x.number.toNat l [] ps:=by
 have hw:=Vw9 h;unfold W at hw;by_cases hc:chk x 0 0 false []=0
 ·have hn:=(Vb9 (Vay hc).2.2.1).2 (by simp[isN,h6]);simp only[getL,hc,h6,Uk,Ul,Ui,Uj,Int.reduceEq,Qh]at hw;obtain⟨w1,_,w3⟩:=hw;obtain⟨ps,hp⟩:=Vql 11 0 x.number.toNat l 1 [] w1;rw[w3]at hp;exact⟨hn,ps,hp⟩
 ·simp only[getL,hc,Ul,Uj,Qh]at hw;exact hw.1.elim
def lkP(key:Ub):List (Ja×List Ja)->List Ja×Bool
 |[]=>([],false)
 |p::r=>bif decide (p.1.kind=1)&&decide (p.1.number=key) then (p.2,true) else lkP key r
theorem PairsAt.len{k:Nat}{s t:List Ja}{ps:List (Ja×List Ja)}(h:PairsAt k s t ps):ps.length=k:=by
 induction h with
 |nil=>rfl
 |cons _ _ _ _ ih=>simp[ih]
theorem Vxa{l:List Ja}{a:Nat}{v r:List Ja}(h:l.drop a=v++r)(hv:∀m,skp (v++r) (m+1)=(skp r m).map (·+v.length))(h0:v≠[]):skO l (a:Int)=(((a+v.length:Nat):Int),true):=by
 have h1:0<v.length:=List.length_pos_iff.2 h0;have hl:=congrArg List.length h;rw[Qu,Qc]at hl;have h2:=hv 0;rw[Vhb,Nat.zero_add]at h2;unfold skO;rw[dF ((a:Int)<0) (by omega),dF ((l.length:Int)<=(a:Int)) (by omega),Qf,h,h2];simp
def LkR(key:Ub)(ps:List (Ja×List Ja))(z:(List Ja×Bool×Unit)⊕Unit):Prop:=(Q9 (λ(z9:((List (Ja))×Bool×Unit))=>(some ((),(z9.1,z9.2.1,())):Option (Unit×(List Ja×Bool×Unit)))) (λ(z10:(Unit))=>(some ((),([],false,())))) z)=some ((),(lkP key ps).1,(lkP key ps).2,())
theorem Vlk{l v r:List Ja}{a:Nat}(h:l.drop a=v++r):Qv a (Q2 (a+v.length) l)=v:=by
 rw[Qy,h,show a+v.length-a=v.length by omega];simp
theorem Vqm(l:List Ja)(hl:l.length<1000000)(key:Ub)(N:Ub)(hN:N.toNat<=512):∀(k i a f:Nat) (s:List Ja) (ps:List (Ja×List Ja)),PairsAt k s [] ps->i+k=N.toNat->l.drop a=s->a<=l.length->k<f ->
  ∃z,iter (λ(y:((List (Ja))×Ub×Int×Ub×Ub×Unit))=>Ziv_L0b y.1 y.2.1 y.2.2.1 y.2.2.2.1 y.2.2.2.2.1) f (l,key,(a:Int),N,Qe 64 i,())=some z/\LkR key ps z:=by
 intro k;induction k with
 |zero=>
  intro i a f s ps hp hi hs ha hf;obtain⟨f,rfl⟩:∃g,f=g+1:=⟨f-1,by omega⟩;rw[Vac];have hps:ps=[]:=List.length_eq_zero_iff.1 hp.len;subst hps;refine⟨.inr (),?_,rfl⟩;dsimp only;unfold Ziv_L0b;rw[bvn i (by omega),dF (i<N.toNat) (by omega)];rfl
 |succ k ih=>
  intro i a f s ps hp hi hs ha hf;obtain⟨f,rfl⟩:∃g,f=g+1:=⟨f-1,by omega⟩;cases hp with
  |@cons _ x v r _ ps hx hv h0 hp=>
  have hd1:l[a]? = some x:=by
   have:=congrArg (·[0]?) hs;simpa using this
  have hd2:l.drop (a+1)=v++r:=by
   have:=congrArg (Qv 1) hs;simpa[Qq]using this
  have hlen:=congrArg List.length hd2;rw[Qu,Qc]at hlen;have hv1:0<v.length:=List.length_pos_iff.2 h0;have hd3:l.drop (a+1+v.length)=r:=by
   rw[<-Qq,hd2];simp
  have e1:Ziv_L0b l key (a:Int) N (Qe 64 i)=bif decide (x.kind=1)&&decide (x.number=key) then some (Q5 (Qz (v,true,()))) else some (Qz (l,key,((a+1+v.length:Nat):Int),N,Qe 64 (i+1),())):=by
   unfold Ziv_L0b;rw[bvn i (by omega),dT (i<N.toNat) (by omega),wI ((a:Int)+1) (by omega),show (a:Int)+1=((a+1:Nat):Int) from rfl,Vot l _ hl,Vxa hd2 hv h0,bvs i (by omega),Vby hd1];simp only[Ui,bindS,Qb,Uj];cases h1:decide (x.kind=1)
   ·simp only[Qj,Uj]
   ·simp only[Ql,Ui];cases h2:decide (x.number=key)
    ·simp only[Uj]
    ·simp only[Ui,Qf];rw[show (decide ((0:Int)<=((a+1+v.length:Nat):Int))&&decide (((a+1+v.length:Nat):Int)<=(l.length:Int)))=true by (rw[Qd,Uq,Uq];exact⟨by omega,by omega⟩),show (decide ((0:Int)<=((a+1:Nat):Int))&&decide (((a+1:Nat):Int)<=((a+1+v.length:Nat):Int)))=true by (rw[Qd,Uq,Uq];exact⟨by omega,by omega⟩),Vlk hd2];simp only[Ui];unfold Zir;rw[dT (v.length<=1000000) (by omega)];rfl
  rw[Vac];dsimp only;rw[e1];cases hm:(decide (x.kind=1)&&decide (x.number=key))
  ·simp only[Uj,bindS,Qo];obtain⟨z,z1,z2⟩:=ih (i+1) (a+1+v.length) f r ps hp (by omega) hd3 (by omega) (by omega);refine⟨z,z1,?_⟩;unfold LkR lkP;rw[hm];exact z2
  ·refine⟨_,rfl,?_⟩;unfold LkR lkP;rw[hm];rfl
theorem Vj1{a b:Int}(h0:0<=a)(h1:a<b):(decide ((0:Int)<=a)&&decide (a<b))=true:=by
 rw[Qd,Uq,Uq];exact⟨h0,h1⟩
def fau:List (List Ja)->Int
 |[]=>0
 |l::r=>bif decide (valO l=0) then fau r else valO l
def light1(v:List (List Ja)):Prop:=∀l∈v,l.length<=600/\∀x∈l,x.data.length<100000
theorem Vnb(v:List (List Ja))(hv:light1 v)(hl:v.length<=1000):Ziw v=some ((),fau v,()):=by
 have key:∀(r:List (List Ja)) (j f:Nat),v.drop j=r->r.length<f->iter (λ(y:((List (List Ja))×Int×Int×Unit))=>Ziw_L0b y.1 y.2.1 y.2.2.1) f (v,(v.length:Int),(j:Int),())=some (bif decide (fau r=0) then .inr () else .inl (fau r,())):=by
  intro r;induction r with
  |nil=>
   intro j f hr hf;obtain⟨f,rfl⟩:∃g,f=g+1:=⟨f-1,by omega⟩;have hjl:v.length<=j:=by
    have:=congrArg List.length hr;simp at this;omega
   rw[Vac];dsimp only;unfold Ziw_L0b;rw[dF ((j:Int)<(v.length:Int)) (by omega)];rfl
  |cons l r ih=>
   intro j f hr hf;obtain⟨f,rfl⟩:∃g,f=g+1:=⟨f-1,by omega⟩;obtain⟨d1,d2,d3,d4⟩:=Vbz hr;have hm:=hv l (Q7 d1);have e1:Ziw_L0b v (v.length:Int) (j:Int)=bif decide (valO l=0) then some (Qz (v,(v.length:Int),((j+1:Nat):Int),())) else some (Q5 (Qz (valO l,()))):=by
    unfold Ziw_L0b;rw[dT ((j:Int)<(v.length:Int)) (by omega),Vby d1,wI ((j:Int)+1) (by omega)];simp only[Ui,bindS];rw[Vcw l (by omega) hm.2];simp only[bindS];cases decide (valO l=0)<;>rfl
   rw[Vac];dsimp only;rw[e1];unfold fau;by_cases h0:valO l=0
   ·rw[dT (valO l=0) h0];exact ih (j+1) f d2 (by simp at hf;omega)
   ·rw[dF (valO l=0) h0];simp only[Uj,bindS,Sum.elim_inr];rw[dF (valO l=0) h0];rfl
 unfold Ziw Ziw_L0 Yi3;have e:=key v 0 rounds rfl (by rw[Vaa];omega);rw[show ((0:Nat):Int)=0 from rfl]at e;rw[e];by_cases h0:fau v=0
 ·rw[h0];rfl
 ·rw[dF (fau v=0) h0];rfl
theorem Vnc:∀(f:Nat) (S:List Jc) (n:Nat) (p a b:List Ja),n<=512->p.length+n=513->valE (mach getL f S n (p++a))=valE (mach getL f S n (p++b))
 |0,S,n,p,a,b,_,_=>rfl
 |f+1,S,n,p,a,b,hn,hp=>by
  cases p with
  |nil=>simp at hp;omega
  |cons x p=>
   simp only[Qp]at hp;cases hS:(decide (0<n)&&S.isEmpty)
   ·by_cases hc:chk x n S.length (atK S) (lst S)=0
    ·have hn2:=(Vbo (Vay hc).1).1;have e:∀q:List Ja,getL n S.length (atK S) (lst S) (x::q)=(0,x,q):=λq=>by simp[getL,hc]
     rw[Qk,Qk,Vb8 hS (e _),Vb8 hS (e _)];exact Vnc f (nxt x S) (n+1) p a b (by omega) (by omega)
    ·have e:∀q:List Ja,getL n S.length (atK S) (lst S) (x::q)=(chk x n S.length (atK S) (lst S),x,q):=λq=>rfl;rw[Qk,Qk,Vds hS (e _) hc,Vds hS (e _) hc];rfl
   ·have e:∀q:List Ja,valE (mach getL (f+1) S n (x::q))=2:=by
     intro q;unfold mach;rw[hS];rfl
    rw[Qk,Qk,e,e]
theorem Vxb(p a b:List Ja)(hp:p.length=513):valO (p++a)=valO (p++b):=Vnc 600 [] 0 p a b (by omega) (by omega)
def gat:List Ja->List (List Ja)->List Ja
 |o,[]=>o
 |o,l::r=>bif decide (512<o.length) then o else gat (o++l) r
theorem Vll:∀(v:List (List Ja)) (o:List Ja),valO (gat o v)=valO (o++v.flatten)/\(gat o v=o++v.flatten\/512<(gat o v).length/\512<(o++v.flatten).length)
 |[],o=>by simp[gat]
 |l::r,o=>by
  unfold gat
  by_cases h:512<o.length
  ·rw[dT (512<o.length) h];simp only[Ui];refine⟨?_,.inr ⟨h,by rw[Qc];omega⟩⟩;have e:=Vxb (o.take 513) (o.drop 513) (o.drop 513++(l::r).flatten) (by rw[Qs];omega);rw[<-Qi,List.take_append_drop]at e;exact e
  ·rw[dF (512<o.length) h];simp only[Uj,Q1];have:=Vll r (o++l);rw[Qi]at this;exact this
theorem Vlm{l:List Ja}(h:512<l.length):valO l≠0:=by
 intro hv;have key:∀(f:Nat) (S:List Jc) (n:Nat) (l o r:List Ja),n<=512->mach getL f S n l=(0,o,r)->n+o.length<=512:=by
  intro f;induction f with
  |zero=>intro S n l o r hn h;simp[mach]at h
  |succ f ih=>
   intro S n l o r hn h;rcases Vev getL f S n l with⟨h1,h2⟩|⟨h1,h2,h3⟩|⟨h1,x,u,h2,h3⟩
   ·rw[h2]at h;simp only[Qh,true_and]at h;obtain⟨rfl,rfl⟩:=h;simpa using hn
   ·rw[h3]at h;simp only[Qh]at h;exact absurd h.1 h2
   ·rw[h3]at h;simp only[Qh]at h;obtain⟨g1,g2,g3⟩:=h;have hn2:=(Vbo (Vay (Vij h2).2).1).1;generalize hm:mach getL f (nxt x S) (n+1) u=m at g1 g2 g3;obtain⟨m1,m2,m3⟩:=m;dsimp only at g1 g2 g3;subst g1;subst g2;subst g3;have:=ih (nxt x S) (n+1) u m2 m3 (by omega) hm;rw[Qp];omega
 have:=key 600 [] 0 l l [] (by omega) (Vdf hv).1;omega
theorem Vj2(l:List Ja)(hl:l.length<1000000)(hd:∀x∈l,x.data.length<100000):Zio l=some ((),(bif decide (valO l=0) then l else []),valO l,()):=by
 unfold Zio;rw[Vcw l hl hd];simp only[bindS];by_cases h:valO l=0
 ·rw[h];rfl
 ·rw[dF (valO l=0) h];rfl
theorem Vov:∀(v:List (List Ja)) (o:List Ja),(gat o v).length<=(o++v.flatten).length/\∀x∈gat o v,x∈o++v.flatten
 |[],o=>by simp[gat]
 |l::r,o=>by
  unfold gat
  cases decide (512<o.length)
  ·have:=Vov r (o++l);simp only[Uj,Q1];rw[Qi]at this;exact this
  ·simp only[Ui];exact⟨by rw[Qc];omega,λx hx=>List.mem_append_left _ hx⟩
theorem Vxc{v:List (List Ja)}(o:List Ja):(bif decide (valO (gat o v)=0) then gat o v else [])=(bif decide (valO (o++v.flatten)=0) then o++v.flatten else []):=by
 obtain⟨h1,h2⟩:=Vll v o;rw[h1];rcases h2 with h2|⟨h2,h3⟩
 ·rw[h2]
 ·rw[dF (valO (o++v.flatten)=0) (Vlm h3)];rfl
def kk(keys:List Ub)(i:Nat):Nat:=(keys.getD i 0#64).toNat
def cmpI(a b:Nat):Int:=bif decide (a<b) then -1 else bif decide (b<a) then 1 else 0
theorem Vnd{keys:List Ub}{i:Nat}(h:i<keys.length):getI keys (i:Int)=some (keys.getD i 0#64):=by
 refine Vby ?_;rw[Qt,Qr h];rfl
theorem Vesa(keys:List Ub)(i j:Nat)(hi:i<keys.length)(hj:j<keys.length):Zja (i:Int) (j:Int) keys=some ((),cmpI (kk keys i) (kk keys j),()):=by
 unfold Zja;rw[Vnd hi,Vnd hj];simp only[bindS];unfold Zds Zgd cmpI kk;simp only[bindS,Uk,Qb,Uj];cases decide ((keys.getD i 0#64).toNat<(keys.getD j 0#64).toNat)
 ·cases decide ((keys.getD j 0#64).toNat<(keys.getD i 0#64).toNat)<;>rfl
 ·rfl
abbrev ci(l:List Nat):List Int:=l.map λn:Nat=>(n:Int)
theorem Vqn(l:List Nat):(ci l).length=l.length:=List.length_map _
theorem Vqo{l:List Nat}{i n:Nat}(h:l[i]? = some n):(ci l)[i]? = some (n:Int):=by
 rw[List.getElem?_map,h];rfl
theorem Veta(n:Nat)(h:n<=12):∃k,Zil (Qx 64 (n:Int))=some ((),k,()):=by
 have:n=0\/n=1\/n=2\/n=3\/n=4\/n=5\/n=6\/n=7\/n=8\/n=9\/n=10\/n=11\/n=12:=by omega
 rcases this with rfl|rfl|rfl|rfl|rfl|rfl|rfl|rfl|rfl|rfl|rfl|rfl|rfl
 ·exact⟨0,by kernel_rfl⟩
 ·exact⟨1,by kernel_rfl⟩
 ·exact⟨2,by kernel_rfl⟩
 ·exact⟨2,by kernel_rfl⟩
 ·exact⟨3,by kernel_rfl⟩
 ·exact⟨3,by kernel_rfl⟩
 ·exact⟨3,by kernel_rfl⟩
 ·exact⟨3,by kernel_rfl⟩
 ·exact⟨4,by kernel_rfl⟩
 ·exact⟨4,by kernel_rfl⟩
 ·exact⟨4,by kernel_rfl⟩
 ·exact⟨4,by kernel_rfl⟩
 ·exact⟨4,by kernel_rfl⟩
def prO(keys:List Ub)(v:List (List Ja))(o:List Nat):List (List Ja):=o.map λi=>⟨1,keys.getD i 0#64,[]⟩::v.getD i []
def adj(keys:List Ub):List Nat->Bool
 |a::b::r=>decide (kk keys a=kk keys b)||adj keys (b::r)
 |_=>false
theorem Vg9a(keys:List Ub)(i j:Nat):decide (keys.getD i 0#64=keys.getD j 0#64)=decide (kk keys i=kk keys j):=by
 rw[decide_eq_decide];exact⟨λh=>by unfold kk;rw[h],λh=>Q4 h⟩
def mapO(keys:List Ub)(v:List (List Ja))(o:List Nat):List Ja×Int:=
 bif adj keys o then ([],10) else bif !decide (fau v=0) then ([],fau v) else
 bif decide (valO (⟨6,Qx 64 (keys.length:Int),[]⟩::(prO keys v o).flatten)=0) then (⟨6,Qx 64 (keys.length:Int),[]⟩::(prO keys v o).flatten,0) else ([],valO (⟨6,Qx 64 (keys.length:Int),[]⟩::(prO keys v o).flatten))
theorem Vj3{v:List (List Ja)}(h:light1 v)(i:Nat):(v.getD i []).length<=600/\∀x∈v.getD i [],x.data.length<100000:=by
 rw[Qt];cases hi:v[i]? with
 |none=>simp
 |some l=>exact h l (Q7 hi)
theorem Vne{keys:List Ub}{v:List (List Ja)}(h:light1 v):∀o:List Nat,(prO keys v o).flatten.length<=o.length*601/\∀x∈(prO keys v o).flatten,x.data.length<100000
 |[]=>by simp[prO]
 |i::r=>by
  obtain⟨i1,i2⟩:=Vne (keys:=keys) h r;obtain⟨l1,l2⟩:=Vj3 h i;unfold prO at *;refine⟨?_,?_⟩
  ·simp only[Qak,Q1,Qc,Qp,Nat.add_mul];omega
  ·intro x hx;simp only[Qak,Q1,Qk,List.mem_cons,List.mem_append]at hx;rcases hx with rfl|hx|hx
   ·simp
   ·exact l2 x hx
   ·exact i2 x hx
theorem Vaea{v:List (List Ja)}{i:Nat}(h:i<v.length):getI v (i:Int)=some (v.getD i []):=by
 refine Vby ?_;rw[Qt,Qr h];rfl
theorem Vxd:∀(l r:List Ja) (need m:Nat),skp l need=some l.length->skp (l++r) (need+m)=(skp r m).map (·+l.length)
 |[],r,need,m,h=>by
  cases need with
  |zero=>simp only[Qab,Nat.zero_add,List.length_nil];exact map0 _
  |succ k=>simp[skp]at h
 |x::t,r,need,m,h=>by
  cases need with
  |zero=>rw[Vhb]at h;simp at h
  |succ k=>
   simp only[skp,Qk,Nat.succ_add]at h |-;cases hb:(isN x.kind&&decide (512<x.number.toNat))
   ·rw[hb]at h;simp only[Uj]at h |-;have h2:skp t (k+addI x)=some t.length:=by
     cases hq:skp t (k+addI x) with
     |none=>rw[hq]at h;simp at h
     |some n=>rw[hq]at h;simp at h;rw[h]
    have ih:=Vxd t r (k+addI x) m h2;rw[show k+m+addI x=k+addI x+m by omega,ih,Vqk,Qp,Qaf 1]
   ·rw[hb]at h;simp at h
theorem Vxe{l:List Ja}(h:valO l=0)(r:List Ja)(m:Nat):skp (l++r) (m+1)=(skp r m).map (·+l.length):=by
 have hw:=Vw9 h;have h1:=W_skp 12 l 0 0 false [] (by rw[hw]) 0;rw[hw,Vhb]at h1;have h2:skp l 1=some l.length:=by rw[h1];simp
 rw[Qaf m 1];exact Vxd l r 1 m h2
theorem gIn{α:Type}{l:List α}{i:Nat}{x:α}(h:l[i]? = some x):getI l (i:Int)=some x:=by
 unfold getI;rw[show decide ((0:Int)<=(i:Int))=true by simp];exact h
theorem Va9{α:Type}{l:List α}{i:Nat}{x:α}(h:l[i]? = some x):i<l.length:=(List.getElem?_eq_some_iff.mp h).1
theorem Vbk{i:Nat}(h:i<9000000000000000000):Qa .i64 ((i:Int)+1)=((i+1:Nat):Int):=by
 rw[Vaw (by omega) (by omega)];rfl
theorem Vil{α:Type}{l:List α}{i:Nat}{x:α}(h:l[i]? = some x):decide ((i:Int)<(l.length:Int))=true:=by
 have:=Va9 h;simp;omega
theorem Vim{σ β α:Type}{f:σ->Option (σ⊕β)}{l:List α}{p:α->Bool}{mk:Nat->σ}{bad good:β}
  (h:∀(i:Nat) (x:α),l[i]? = some x->f (mk i)=some (bif p x then .inl (mk (i+1)) else .inr bad))
  (he:f (mk l.length)=some (.inr good)):∀(k n j:Nat),j+k=l.length->k<n->iter f n (mk j)=some (bif (l.drop j).all p then good else bad)
 |0,n+1,j,hj,hn=>by
  have:j=l.length:=by omega
  subst this;rw[Vac,he];simp
 |k+1,n+1,j,hj,hn=>by
  have hlt:j<l.length:=by omega
  have hx:l[j]? = some l[j]:=Qr hlt;rw[Vac,h j _ hx,Qad hlt,List.all_cons];cases hp:p l[j]
  ·rfl
  ·show iter f n (mk (j+1))=_;rw[Vim h he k n (j+1) (by omega) (by omega)];rfl
theorem Vln{σ β α:Type}{f:σ->Option (σ⊕β)}(l:List α)(p:α->Bool)(mk:Nat->σ)(bad good:β)(hl:l.length<9000000000000000000)
  (h:∀(i:Nat) (x:α),l[i]? = some x->f (mk i)=some (bif p x then .inl (mk (i+1)) else .inr bad))
  (he:f (mk l.length)=some (.inr good)):iter f rounds (mk 0)=some (bif l.all p then good else bad):=by
 rw[Vim h he l.length rounds 0 (by omega) (by rw[Vaa];omega)];rfl
theorem Vj4{σ β α τ:Type}{f:σ->Option (σ⊕β)}{l:List α}{g:Nat->τ->α->τ}{mk:Nat->τ->σ}{out:τ->β}{P:Nat->τ->Prop}
  (h:∀(i:Nat) (t:τ) (x:α),P i t->l[i]? = some x->f (mk i t)=some (.inl (mk (i+1) (g i t x)))/\P (i+1) (g i t x))
  (he:∀t,P l.length t->f (mk l.length t)=some (.inr (out t))):∀(k n j:Nat) (t:τ),P j t->j+k=l.length->k<n->∃t',P l.length t'/\iter f n (mk j t)=some (out t')
 |0,n+1,j,t,hp,hj,hn=>by
  have:j=l.length:=by omega
  subst this;exact⟨t,hp,by rw[Vac,he t hp];rfl⟩
 |k+1,n+1,j,t,hp,hj,hn=>by
  have hlt:j<l.length:=by omega
  obtain⟨e,hp2⟩:=h j t _ hp (Qr hlt);obtain⟨t',h1,h2⟩:=Vj4 h he k n (j+1) _ hp2 (by omega) (by omega);exact⟨t',h1,by rw[Vac,e];exact h2⟩
theorem Vej{σ β α τ:Type}{f:σ->Option (σ⊕β)}(l:List α)(g:Nat->τ->α->τ)(mk:Nat->τ->σ)(out:τ->β)(P:Nat->τ->Prop)(hl:l.length<9000000000000000000)(t0:τ)(h0:P 0 t0)
  (h:∀(i:Nat) (t:τ) (x:α),P i t->l[i]? = some x->f (mk i t)=some (.inl (mk (i+1) (g i t x)))/\P (i+1) (g i t x))
  (he:∀t,P l.length t->f (mk l.length t)=some (.inr (out t))):∃t',P l.length t'/\iter f rounds (mk 0 t0)=some (out t'):=
 Vj4 h he l.length rounds 0 t0 h0 (by omega) (by rw[Vaa];omega)
def smallI(n:Int):Bool:=decide (0<=n)&&decide (n<=255)
theorem Vow(l:List Int)(hl:l.length<9000000000000000000):Zgf l=some ((),(l.all smallI,())):=by
 unfold Zgf Zgf_L0 Yi3;rw[show ((0:Int))=((0:Nat):Int) from rfl,Vln l smallI (λi=>(l,(l.length:Int),(i:Int),())) (Qz (false,())) (Q5 ()) hl]
 ·cases l.all smallI<;>rfl
 ·intro i x hx;have h1:=Va9 hx;simp only[Zgf_L0b,Vil hx,gIn hx,Qah,Ui,Vbk (i:=i) (by omega),smallI];by_cases a:x<0
  ·simp[a,show ¬ (0:Int)<=x by omega]
  ·by_cases b:255<x
   ·simp[a,b,show ¬ x<=255 by omega]
   ·simp[a,b,show (0:Int)<=x by omega,show x<=255 by omega]
 ·simp[Zgf_L0b]
theorem Vin{σ β α τ:Type}{f:σ->Option (σ⊕β)}{l:List α}{g:τ->α->τ}{mk:Nat->τ->σ}{out:τ->β}
  (h:∀(i:Nat) (t:τ) (x:α),l[i]? = some x->f (mk i t)=some (.inl (mk (i+1) (g t x))))
  (he:∀t,f (mk l.length t)=some (.inr (out t))):∀(k n j:Nat) (t:τ),j+k=l.length->k<n->iter f n (mk j t)=some (out ((l.drop j).foldl g t))
 |0,n+1,j,t,hj,hn=>by
  have:j=l.length:=by omega
  subst this;rw[Vac,he t];simp
 |k+1,n+1,j,t,hj,hn=>by
  have hlt:j<l.length:=by omega
  rw[Vac,h j t _ (Qr hlt),Qad hlt];exact Vin h he k n (j+1) _ (by omega) (by omega)
theorem Vru{σ β α τ:Type}{f:σ->Option (σ⊕β)}(l:List α)(g:τ->α->τ)(mk:Nat->τ->σ)(out:τ->β)(hl:l.length<9000000000000000000)(t0:τ)
  (h:∀(i:Nat) (t:τ) (x:α),l[i]? = some x->f (mk i t)=some (.inl (mk (i+1) (g t x))))
  (he:∀t,f (mk l.length t)=some (.inr (out t))):iter f rounds (mk 0 t0)=some (out (l.foldl g t0)):=
 Vin h he l.length rounds 0 t0 (by omega) (by rw[Vaa];omega)
theorem Veua(l:List Bool)(hl:l.length<=31):∃t:BitVec 32,Ziq l=some ((),t,())/\∀k,t.getLsbD k=(decide (1<=k)&&l.getD (k-1) false):=by
 unfold Ziq Ziq_L0 Yi4;obtain⟨t,h1,h2⟩:=Vej (f:=λ(y:((BitVec 32)×(List (Bool))×Int×Int×Unit))=>Ziq_L0b y.1 y.2.1 y.2.2.1 y.2.2.2.1) l (λi (t:BitVec 32) x=>bif x then t|||(1#32<<<(i+1)) else t)
  (λi t=>(t,l,(l.length:Int),(i:Int),())) (λt=>(t,()))
  (λi t=>∀k,t.getLsbD k=(decide (1<=k)&&decide (k<=i)&&l.getD (k-1) false)) (by omega) 0#32
  (by intro k;by_cases h:1<=k<;>simp[h];omega)
  (by
   intro i t x hp hx;have h1:=Va9 hx;refine⟨?_,?_⟩
   ·simp only[Ziq_L0b,Vil hx,gIn hx,Qah,Ui,Vbk (i:=i) (by omega)];cases x
    ·rfl
    ·rw[dT ((0:Int)<=((i+1:Nat):Int)) (Int.natCast_nonneg _)];rfl
   ·intro k;have hget:l.getD i false=x:=by simp[hx]
    cases x
    ·simp only[Uj,hp k];by_cases hk:k=i+1
     ·subst hk;simp[hx]
     ·by_cases h:k<=i
      ·simp[h,show k<=i+1 by omega]
      ·simp[h,show ¬ k<=i+1 by omega]
    ·simp only[Ui,BitVec.getLsbD_or,hp k];by_cases hk:k=i+1
     ·subst hk;simp[hx,Qac];omega
     ·have:(1#32<<<(i+1)).getLsbD k=false:=by
       rw[Qac,BitVec.getLsbD_one];by_cases h:k<i+1
       ·simp[h]
       ·simp;omega
      rw[this,Bool.or_false];by_cases h:k<=i
      ·simp[h,show k<=i+1 by omega]
      ·simp[h,show ¬ k<=i+1 by omega])
  (by intro t _;simp[Ziq_L0b])
 refine⟨t,?_,?_⟩
 ·have e:=congrArg (λo=>o.bind (λ(z3:((BitVec 32)×Unit))=>some ((),(z3.1,())))) h2;exact e
 ·intro k;rw[h1 k];by_cases h:k<=l.length
  ·simp[h]
  ·have:l.getD (k-1) false=false:=by
    rw[Qt,List.getElem?_eq_none (by omega)];rfl
   rw[this];simp
structure Sane(r:Jj):Prop where
 c:r.jp.length<1000000
 e:r.jz.length<1000000
 n:r.name.length<1000000
 x:∀x∈r.jz,x.rP.length<1000000/\x.name.length<1000000
theorem Sane.at{r:Jj}(h:Sane r){i:Nat}{x:Ju}(hx:r.jz[i]? = some x):x.rP.length<1000000/\x.name.length<1000000:=
 h.x x (Q7 hx)
theorem Vhc{l:Ua}(h:l.length<1000000):Zhk l=some ((),Lib.validD l,()):=by
 unfold Zhk;rw[dT (l.length<=9223372036854775807) (by omega)];rfl
theorem Vfc(a b c:Int):Zdh a b c=some ((),decide (b<=a)&&decide (a<=c),()):=by
 unfold Zdh;cases decide (b<=a)<;>rfl
theorem Veva{α:Type}[DecidableEq α](l:List α):(!decide ((0:Int)<(l.length:Int)))=decide (l=[]):=by
 cases l with
 |nil=>rfl
 |cons a l=>rw[dT ((0:Int)<(((a::l).length:Nat):Int)) (by rw[Qp];omega)];rfl
end Go.Proofs.YtnfhkhlbdgbkjaaGreatDoor

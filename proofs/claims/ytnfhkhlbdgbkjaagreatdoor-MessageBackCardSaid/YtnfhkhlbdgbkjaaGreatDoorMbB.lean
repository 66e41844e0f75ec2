/- Out of the texts of other seats: what the laws of requests need. Written by a program. -/
import Derived.Test.YtnfhkhlbdgbkjaaGreatDoorMbA
set_option linter.unusedVariables false
set_option linter.unusedSimpArgs false
set_option maxRecDepth 100000
namespace Go.Proofs.YtnfhkhlbdgbkjaaGreatDoor
open Go Go.Abs
open Go.IntKind renaming wrap → Qa
open _root_.List renaming cons_append → Qb, length_append → Qc, getElem?_eq_getElem → Qd, length_cons → Qf, getD_eq_getElem?_getD → Qh, drop_drop → Qi, append_assoc → Ql, drop → Qo, flatten_cons → Qp, length_drop → Qr, mem_of_getElem? → Qt, length_take → Qw, drop_take → Qy, drop_eq_getElem_cons → Q0, take → Q1, nil_append → Q9, map_cons → Qab
open _root_.UInt8 renaming ofBitVec → Qe, ofNat → Q2, ofNat_toNat → Q6
open _root_.Bool renaming and_eq_true → Qg, not_true → Qq, or_eq_false_iff → Q4
open _root_.Prod.mk renaming injEq → Qj
open _root_.BitVec renaming ofNat → Qk, eq_of_toNat_eq → Qs, ofInt → Qu, getLsbD_shiftLeft → Qz, toNat_ofNat → Q5
open _root_.Sum renaming elim_inl → Qm, inl → Qv, inr → Qx, elim → Qaa
open _root_.Int renaming toNat_natCast → Qn
open _root_.Nat renaming add_comm → Q3, mod_eq_of_lt → Q8
open _root_.Option renaming bind_some → Q7
theorem Vwi:∀(f:Nat) (S:List Jc) (n:Nat) (l:List Ja) (o r:List Ja) (t:Ua),mach getL f S n l=(0,o,r)->mach getB f S n (encA o++t)=(0,o,t)
 |0,S,n,l,o,r,t,h=>by simp[mach]at h
 |f+1,S,n,l,o,r,t,h=>by
  rcases Vgb getL f S n l with⟨h1,h2⟩|⟨h1,h2,h3⟩|⟨h1,x,u,h2,h3⟩
  ·rw[h2]at h;simp only[Qj,true_and]at h;obtain⟨rfl,rfl⟩:=h;unfold mach;rw[h1];rfl
  ·rw[h3]at h;simp only[Qj]at h;exact absurd h.1 h2
  ·rw[h3]at h;simp only[Qj]at h;obtain⟨g1,g2,g3⟩:=h;obtain⟨_,hc⟩:=Vms h2;generalize hm:mach getL f (nxt x S) (n+1) u=m at g1 g2 g3;obtain⟨m1,m2,m3⟩:=m;dsimp only at g1 g2 g3;subst g1;subst g2;subst g3;have ih:=Vwi f (nxt x S) (n+1) u m2 m3 t hm;rw[Vdb,Ql,Vcp h1 (Vy7 hc _),ih]
def decO(b:Ua):List Ja×Int×Int:=bif decide ((mach getB 600 [] 0 b).1=0) then ((mach getB 600 [] 0 b).2.1,((b.length-(mach getB 600 [] 0 b).2.2.length:Nat):Int),0) else ([],0,(mach getB 600 [] 0 b).1)
theorem Vy8{o:List Ja}(h:valO o=0)(t:Ua):decO (encA o++t)=(o,((encA o).length:Int),0):=by
 have:=Vwi 600 [] 0 o o [] t (Ved h).1;unfold decO;rw[this];simp
theorem Vmt{σ τ ρ ρ':Type}{f:σ->Option (σ⊕ρ)}{f':τ->Option (τ⊕ρ')}{e:σ->τ}{g:ρ->ρ'}(h:∀s,f' (e s)=(f s).map (Sum.map e g)):∀n s,iter f' n (e s)=(iter f n s).map g
 |0,s=>rfl
 |n+1,s=>by
  rw[Vac,Vac,h s];cases hs:f s with
  |none=>rfl
  |some z=>
   cases z with
   |inl q=>exact Vmt h n q
   |inr r=>rfl
theorem Vee{α β γ δ:Type}{X:Option α}{X':Option β}{e:α->β}{F:α->Option γ}{F':β->Option δ}{g:γ->δ}(h1:X'=X.map e)(h2:∀y,F' (e y)=(F y).map g):X'.bind F'=(X.bind F).map g:=by
 rw[h1];cases X with
 |none=>rfl
 |some y=>exact h2 y
theorem Val{α γ δ:Type}{X:Option α}{F:α->Option γ}{F':α->Option δ}{g:γ->δ}(h2:∀y,F' y=(F y).map g):X.bind F'=(X.bind F).map g:=by
 cases X with
 |none=>rfl
 |some y=>exact h2 y
theorem Vai{γ δ:Type}{c:Bool}{a b:Option γ}{a' b':Option δ}{g:γ->δ}(h1:a'=a.map g)(h2:b'=b.map g):(bif c then a' else b')=(bif c then a else b).map g:=by
 cases c
 ·exact h2
 ·exact h1
abbrev Wk:=List Jc×Int×Unit
abbrev Rd:=List Jc×Int×Ua×Int×Unit
def rdo(bs:Ua)(at0:Int)(w:Wk):Rd:=(w.1,w.2.1,bs,at0,())
theorem Vrb(bs:Ua)(at0:Int)(y:Wk×Int×Unit):Zfy_L0 (rdo bs at0 y.1,y.2.1,())=(Zia_L0 y).map λz=>(rdo bs at0 z.1,()):=by
 unfold Zfy_L0 Zia_L0 i2;refine Vmt (e:=λy:Wk×Int×Unit=>((rdo bs at0 y.1,y.2.1,()):Rd×Int×Unit)) (g:=λz:Wk×Unit=>((rdo bs at0 z.1,()):Rd×Unit)) (λs=>?_) _ y;dsimp only;unfold Zfy_L0b Zia_L0b rdo;dsimp only;refine Vai (Vai (Val λx=>Vai (Vai (Vai rfl rfl) rfl) rfl) rfl) rfl
theorem Vwj(bs:Ua)(at0:Int)(w:Wk)(x:Ja):Zfy (rdo bs at0 w) x=(Zia w x).map λr=>((rdo bs at0 r.1.1,()),()):=by
 unfold Zfy Zia;refine Vee (e:=λj:Wk×(Ja×Unit)×Unit=>((rdo bs at0 j.1,j.2.1,()):Rd×(Ja×Unit)×Unit)) ?_ λy=>?_
 ·exact Vai (Vai (Val λx=>Vai (Val λy=>rfl) rfl) rfl) rfl
 ·refine Vee (e:=λj:Wk×(Ja×Unit)×Unit=>((rdo bs at0 j.1,j.2.1,()):Rd×(Ja×Unit)×Unit)) ?_ λy=>?_
  ·exact Vai (Vai (Vai rfl rfl) rfl) rfl
  ·refine Vee (e:=λj:Wk×Unit=>((rdo bs at0 j.1,()):Rd×Unit)) ?_ λy=>?_
   ·exact Vai (Vai (Vai rfl rfl) rfl) rfl
   ·refine Vee (e:=λj:Wk×Unit=>((rdo bs at0 j.1,()):Rd×Unit)) (Vrb bs at0 (y.1,(y.1.1.length:Int),())) λz=>rfl
theorem Vn7(bs:Ua)(at0:Int)(w:Wk)(x:Ja):Zdp (rdo bs at0 w) x=(Zfx w x).map λr=>((rdo bs at0 r.1.1,()),r.2):=by
 have K:∀w:Wk,(Zfy (rdo bs at0 w) x).bind (λr13=>some (((r13.1.1.1,r13.1.1.2.1,r13.1.1.2.2.1,r13.1.1.2.2.2.1,()),()),((0:Int),())))=((Zia w x).bind (λr25=>some (((r25.1.1.1,r25.1.1.2.1,()),()),((0:Int),())))).map λ(r:(Wk×Unit)×(Int×Unit))=>(((rdo bs at0 r.1.1,()),r.2):(Rd×Unit)×(Int×Unit)):=λw=>
  Vee (Vwj bs at0 w x) λz=>rfl
 unfold Zdp Zfx;refine Vai (Val λr=>Vai rfl (Val λr2=>Vai (Vai (Val λr3=>Val λx4=>Vai (Val λx5=>Val λr6=>Vai rfl (Val λx7=>Vai rfl (K (_,_,())))) (Val λx10=>Vai rfl (K (_,_,())))) rfl) (K (_,_,())))) (Val λr2=>Vai (Vai (Val λr3=>Val λx4=>Vai (Val λx5=>Val λr6=>Vai rfl (Val λx7=>Vai rfl (K (_,_,())))) (Val λx10=>Vai rfl (K (_,_,())))) rfl) (K (_,_,())))
theorem Vrc(bs:Ua)(at0:Int)(S:List Jc)(n:Nat)(x:Ja)(hk:kin x)(hd:x.data.length<100000)(hl:S.length<100000)(hn:n<1000000)(hw:∀f∈S,-10<=f.left/\f.left<=2000)(hx:isN x.kind=true->x.number.toNat<=512) :
  Zdp (S.reverse,(n:Int),bs,at0,()) x=some (bif decide (acc x (atK S) (lst S)=0) then ((((nxt x S).reverse,((n+1:Nat):Int),bs,at0,()),()),(0,())) else (((S.reverse,(n:Int),bs,at0,()),()),(acc x (atK S) (lst S),()))):=by
 have:=Vn7 bs at0 (S.reverse,(n:Int),()) x;rw[Vfq S n x hk hd hl hn hw hx]at this;refine Eq.trans this ?_;unfold res;by_cases h:acc x (atK S) (lst S)=0
 ·rw[h];rfl
 ·rw[dF (acc x (atK S) (lst S)=0) h];rfl
theorem Vy9(n:Ub):Ziw n=some ((),(sho n:Int),()):=by
 unfold Ziw sho;rw[show (24#64).toNat=24 from rfl,show (256#64).toNat=256 from rfl,show (65536#64).toNat=65536 from rfl,show (4294967296#64).toNat=4294967296 from rfl];cases decide (n.toNat<24)<;>cases decide (n.toNat<256)<;>cases decide (n.toNat<65536)<;>cases decide (n.toNat<4294967296)<;>rfl
theorem Vdr{α:Type}{l:List α}{i:Nat}{x:α}(h:l[i]? = some x):getI l (i:Int)=some x:=by unfold getI;simp[h]
theorem headL(st:Rd)(k:Int)(sz:Int)(l:Ua)(hl:l.length<1000):Zfv_L1 (st,k,0#64,sz,l,(l.length:Int),0,())=some ((st.1,st.2.1,st.2.2.1,st.2.2.2.1,()),k,bev 0#64 l,sz,()):=by
 have key:∀(r:Ua) (j f:Nat) (v:Ub),l.drop j=r->j<=l.length->r.length<f->iter (λ(y:(Rd×Int×Ub×Int×Ua×Int×Int×Unit))=>Zfv_L1b y.1 y.2.1 y.2.2.1 y.2.2.2.1 y.2.2.2.2.1 y.2.2.2.2.2.1 y.2.2.2.2.2.2.1) f (st,k,v,sz,l,(l.length:Int),(j:Int),())=some ((st.1,st.2.1,st.2.2.1,st.2.2.2.1,()),k,bev v r,sz,()):=by
  intro r;induction r with
  |nil=>
   intro j f v hr hj hf;obtain⟨f,rfl⟩:∃g,f=g+1:=⟨f-1,by omega⟩;have hjl:j=l.length:=by
    have:=congrArg List.length hr;simp at this;omega
   rw[Vac];dsimp only;unfold Zfv_L1b;rw[dF ((j:Int)<(l.length:Int)) (by omega)];rfl
  |cons c r ih=>
   intro j f v hr hj hf;obtain⟨f,rfl⟩:∃g,f=g+1:=⟨f-1,by omega⟩;have hjl:j<l.length:=by
    have:=congrArg List.length hr;simp at this;omega
   have hx:l[j]? = some c:=by
    have:=congrArg (·[0]?) hr;simpa using this
   have hr2:l.drop (j+1)=r:=by
    have:=congrArg (Qo 1) hr;simpa[Qi]using this
   rw[Vac];dsimp only;unfold Zfv_L1b;rw[dT ((j:Int)<(l.length:Int)) (by omega),Vdr hx,wI ((j:Int)+1) (by omega)];simp only[Ui,bindS,Qm];exact ih (j+1) f _ hr2 (by omega) (by simp at hf;omega)
 unfold Zfv_L1 i7;exact key l 0 rounds 0#64 rfl (by omega) (by rw[Vaa];omega)
theorem u8lt(a:UInt8)(n:UInt8):decide (a.toBitVec.toNat<n.toBitVec.toNat)=decide (a.toNat<n.toNat):=rfl
theorem Vdoa:∀c:Fin 256,(Qe ((Q2 c.val).toBitVec>>>5)).toNat=c.val / 32/\(Qe ((Q2 c.val).toBitVec&&&(31:UInt8).toBitVec)).toNat=c.val % 32:=by decide +kernel
theorem Vf2a(c:UInt8):(Qe (c.toBitVec>>>5)).toNat=c.toNat / 32/\(Qe (c.toBitVec&&&(31:UInt8).toBitVec)).toNat=c.toNat % 32:=by
 have:=Vdoa ⟨c.toNat,c.toNat_lt⟩;dsimp only at this;rwa[Q6]at this
theorem Vdpa:∀j:Fin 4,(Qe ((Q2 (24+j.val)).toBitVec-(24:UInt8).toBitVec)).toNat=j.val:=by decide +kernel
theorem Vf3a{v:UInt8}(h1:24<=v.toNat)(h2:v.toNat<=27):(Qe (v.toBitVec-(24:UInt8).toBitVec)).toNat=v.toNat-24:=by
 have:=Vdpa ⟨v.toNat-24,by omega⟩;dsimp only at this;rw[show 24+(v.toNat-24)=v.toNat by omega,Q6]at this;exact this
theorem setw(v:UInt8):BitVec.setWidth 64 v.toBitVec=Qk 64 v.toNat:=by
 apply Qs;have:=v.toNat_lt;rw[BitVec.toNat_setWidth,Q5];rfl
theorem Vf4a(a b:UInt8):decide (a.toBitVec=b.toBitVec)=decide (a=b):=by
 rw[decide_eq_decide];exact⟨λh=>UInt8.toBitVec_inj.1 h,λh=>by rw[h]⟩
theorem Vcq{α:Type}{l:List α}{j:Nat}{c:α}{r:List α}(h:l.drop j=c::r):l[j]? = some c/\l.drop (j+1)=r/\j<l.length/\l.length=j+1+r.length:=by
 refine⟨?_,?_,?_,?_⟩
 ·have:=congrArg (·[0]?) h;simpa using this
 ·have:=congrArg (Qo 1) h;simpa[Qi]using this
 ·have:=congrArg List.length h;simp at this;omega
 ·have:=congrArg List.length h;simp at this;omega
theorem Vdqa{z:Nat}(h:z<=3):1<=2^z/\2^z<=8:=⟨Nat.one_le_two_pow,Nat.le_trans (Nat.pow_le_pow_right (by omega) h) (by omega)⟩
theorem Vdra{z:Nat}(h:z<=3):Qa .i64 ((1:Int)*2^(min z (IntKind.bits .i64)))=((2^z:Nat):Int):=by
 have hz:z=0\/z=1\/z=2\/z=3:=by omega
 rcases hz with rfl|rfl|rfl|rfl<;>decide
theorem Vdsa(o:List Jc)(n:Int)(bs:Ua)(at0:Nat)(hat:at0<=bs.length)(hbs:bs.length<1000000) :
  ∃at1:Nat,at1<=bs.length/\Zfv (o,n,bs,(at0:Int),())=some (((o,n,bs,(at1:Int),()),()),((hdB (bs.drop at0)).2.1,(hdB (bs.drop at0)).2.2.1,(hdB (bs.drop at0)).1,()))/\((hdB (bs.drop at0)).1=0->bs.drop at1=(hdB (bs.drop at0)).2.2.2):=by
 unfold Zfv;dsimp only;cases hs:bs.drop at0 with
 |nil=>
  have:=congrArg List.length hs;simp at this;rw[dT ((bs.length:Int)<=(at0:Int)) (by omega)];exact⟨at0,hat,rfl,λh=>by simp[hdB]at h⟩
 |cons c r=>
  obtain⟨d1,d2,d3,d4⟩:=Vcq hs;rw[dF ((bs.length:Int)<=(at0:Int)) (by omega),Vdr d1];simp only[Uj,bindS,Vf4a];rw[wI ((at0:Int)+1) (by omega),show (at0:Int)+1=((at0+1:Nat):Int) from rfl];obtain⟨m1,m2⟩:=Vf2a c;simp only[hdB];by_cases hB:isB c=true
  ·rw[hB];have hb:=hB;unfold isB at hb;simp only[Bool.or_eq_true,Uq]at hb;rcases hb with rfl|rfl
   ·exact⟨at0+1,by omega,rfl,λ_=>d2⟩
   ·exact⟨at0+1,by omega,rfl,λ_=>d2⟩
  ·have hB':isB c=false:=by cases h:isB c;rfl;exact absurd h hB
   have hb:=hB';unfold isB at hb;simp only[Q4,decide_eq_false_iff_not]at hb;rw[hB',dF (c=244) hb.1,dF (c=245) hb.2];by_cases h6:c=246
   ·rw[dT (c=246) h6];exact⟨at0+1,by omega,rfl,λ_=>d2⟩
   ·rw[dF (c=246) h6];simp only[Uj,bindS,Qm];rw[u8lt,u8lt,u8lt,m1,m2,show (5:UInt8).toNat=5 from rfl,show (27:UInt8).toNat=27 from rfl,show (24:UInt8).toNat=24 from rfl];by_cases q1:5<c.toNat / 32
    ·rw[dT (5<c.toNat / 32) q1];exact⟨at0+1,by omega,rfl,λh=>by simp at h⟩
    ·rw[dF (5<c.toNat / 32) q1];by_cases q2:27<c.toNat % 32
     ·rw[dT (27<c.toNat % 32) q2];exact⟨at0+1,by omega,rfl,λh=>by simp at h⟩
     ·rw[dF (27<c.toNat % 32) q2];simp only[Uj,Bool.or_self];have ek:Qa .i64 ((1:Int)+((Qe (c.toBitVec>>>5)).toBitVec.toNat:Int))=((c.toNat / 32:Nat):Int)+1:=by
       rw[show ((Qe (c.toBitVec>>>5)).toBitVec.toNat:Int)=((c.toNat / 32:Nat):Int) by rw[<-m1];rfl,Va1 (by omega) (by omega)];omega
      rw[ek];by_cases q3:c.toNat % 32<24
      ·rw[dT (c.toNat % 32<24) q3,setw,m2];exact⟨at0+1,by omega,rfl,λ_=>d2⟩
      ·rw[dF (c.toNat % 32<24) q3,Vf3a (by omega) (by omega),m2];generalize hz:c.toNat % 32-24=z;have hz3:z<=3:=by omega
       obtain⟨p1,p8⟩:=Vdqa hz3;rw[Vdra hz3,wI ((bs.length:Int)-((at0+1:Nat):Int)) (by omega)];simp only[Uj];by_cases q4:r.length<2^z
       ·rw[dT ((bs.length:Int)-((at0+1:Nat):Int)<((2^z:Nat):Int)) (by omega),dT (r.length<2^z) q4];exact⟨at0+1,by omega,rfl,λh=>by simp at h⟩
       ·rw[dF ((bs.length:Int)-((at0+1:Nat):Int)<((2^z:Nat):Int)) (by omega),dF (r.length<2^z) q4,wI (((at0+1:Nat):Int)+((2^z:Nat):Int)) (by omega),show (((at0+1:Nat):Int)+((2^z:Nat):Int))=((at0+1+2^z:Nat):Int) from rfl];simp only[Uj,Qn];rw[show (decide ((0:Int)<=((at0+1+2^z:Nat):Int))&&decide (((at0+1+2^z:Nat):Int)<=(bs.length:Int)))=true by (rw[Qg,Uq,Uq];exact⟨by omega,by omega⟩),show (decide ((0:Int)<=((at0+1:Nat):Int))&&decide (((at0+1:Nat):Int)<=((at0+1+2^z:Nat):Int)))=true by (rw[Qg,Uq,Uq];exact⟨by omega,by omega⟩)];simp only[Ui];have hv:Qo (at0+1) (Q1 (at0+1+2^z) bs)=r.take (2^z):=by
         rw[Qy,d2,show at0+1+2^z-(at0+1)=2^z by omega]
        have hvl:(r.take (2^z)).length=2^z:=by rw[Qw];omega
        rw[hv,headL _ _ _ _ (by omega)];simp only[bindS,Vy9];rw[wI (((at0+1:Nat):Int)+((2^z:Nat):Int)) (by omega),show (((at0+1:Nat):Int)+((2^z:Nat):Int))=((at0+1+2^z:Nat):Int) from rfl,show decide ((sho (bev 0#64 (r.take (2^z))):Int)<((2^z:Nat):Int))=decide (sho (bev 0#64 (r.take (2^z)))<2^z) by rw[decide_eq_decide];omega];refine⟨at0+1+2^z,by omega,?_,?_⟩
        ·cases decide (sho (bev 0#64 (r.take (2^z)))<2^z)<;>rfl
        ·cases decide (sho (bev 0#64 (r.take (2^z)))<2^z)
         ·intro _;show bs.drop (at0+1+2^z)=r.drop (2^z);rw[<-d2,Qi]
         ·intro h;simp at h
def RdOut(S:List Jc)(n:Nat)(bs:Ua)(g:Int×Ja×Ua)(z:Option ((Rd×Unit)×(Ja×Int×Unit))):Prop:=
 ∃at1:Nat,at1<=bs.length/\(g.1=0->bs.drop at1=g.2.2/\z=some ((((nxt g.2.1 S).reverse,((n+1:Nat):Int),bs,(at1:Int),()),()),(g.2.1,0,())))/\(g.1≠0->∃st y,z=some (st,(y,g.1,())))
theorem Vcr{S:List Jc}{n:Nat}{bs:Ua}{e:Int}{x:Ja}{t:Ua}{st:Rd×Unit}{y:Ja}(he:e≠0):RdOut S n bs (e,x,t) (some (st,(y,e,()))):=
 ⟨0,by omega,λh=>absurd h he,λ_=>⟨_,_,rfl⟩⟩
def tailR(st:Rd)(x:Ja):Option ((Rd×Unit)×(Ja×Int×Unit)):=
  (Zdp (st.1,st.2.1,st.2.2.1,st.2.2.2.1,()) x).bind λr20=>(bif (!decide (r20.2.1=(0:Int))) then (some (((r20.1.1.1,r20.1.1.2.1,r20.1.1.2.2.1,r20.1.1.2.2.2.1,()),()),((⟨(0:Int),0#64,([]:Ua)⟩:Ja),r20.2.1,())))
 else (some (((r20.1.1.1,r20.1.1.2.1,r20.1.1.2.2.1,r20.1.1.2.2.2.1,()),()),(x,(0:Int),()))))
theorem Vn8{S:List Jc}{n:Nat}{bs:Ua}{at1:Nat}{x:Ja}{t:Ua}(hS:WS S)(hn:n<=512)(hat:at1<=bs.length)(ht:bs.drop at1=t)(hk:kin x)(hd:x.data.length<=1024)(hx:isN x.kind=true->x.number.toNat<=512) :
  RdOut S n bs (accB (atK S) (lst S) (0,x,t)) (tailR (S.reverse,(n:Int),bs,(at1:Int),()) x):=by
 unfold tailR;dsimp only;rw[Vrc bs (at1:Int) S n x hk (by omega) (by have:=hS.2.2;omega) (by omega) (λf hf=>by have:=hS.1 f hf;omega) hx];simp only[bindS,accB,Uk,Ui];by_cases h:acc x (atK S) (lst S)=0
 ·rw[h];exact⟨at1,hat,λ_=>⟨ht,rfl⟩,λh=>absurd rfl h⟩
 ·rw[dF (acc x (atK S) (lst S)=0) h];simp only[Uj];rw[dF (acc x (atK S) (lst S)=0) h];exact Vcr h
theorem Vf5a(k:Int):k=5\/k=3\/k=6\/k=4\/(¬ k=5/\¬ k=3/\¬ k=6/\¬ k=4):=by omega
def datR(S:List Jc)(n:Int)(bs:Ua)(at1:Nat)(k:Int)(m:Ub):Option ((Rd×Unit)×(Ja×Int×Unit)):=
  (bif decide ((1024#64).toNat<m.toNat) then some (((S.reverse,n,bs,(at1:Int),()),()),((⟨(0:Int),0#64,([]:Ua)⟩:Ja),(8:Int),()))
  else bif decide (Qa .i64 ((bs.length:Int)-(at1:Int))<Qa .i64 (m.toNat:Int)) then some (((S.reverse,n,bs,(at1:Int),()),()),((⟨(0:Int),0#64,([]:Ua)⟩:Ja),(1:Int),()))
  else bif (decide ((0:Int)<=Qa .i64 ((at1:Int)+Qa .i64 (m.toNat:Int)))&&decide (Qa .i64 ((at1:Int)+Qa .i64 (m.toNat:Int))<=(bs.length:Int))) then
    (bif (decide ((0:Int)<=(at1:Int))&&decide ((at1:Int)<=((Qa .i64 ((at1:Int)+Qa .i64 (m.toNat:Int))).toNat:Int))) then
      tailR (S.reverse,n,bs,Qa .i64 ((at1:Int)+Qa .i64 (m.toNat:Int)),()) ⟨k,0#64,Qo ((at1:Int)).toNat (Q1 (Qa .i64 ((at1:Int)+Qa .i64 (m.toNat:Int))).toNat bs)⟩
     else none)
  else none)
theorem Vbsa{S:List Jc}{n:Nat}{bs:Ua}{at1:Nat}{k:Int}{m:Ub}{t:Ua}(hS:WS S)(hn:n<=512)(hbs:bs.length<1000000)(hat:at1<=bs.length)(ht:bs.drop at1=t)(hk:k=3\/k=4) :
  RdOut S n bs (accB (atK S) (lst S) (bodB k m t)) (datR S n bs at1 k m):=by
 have hD:isD k=true:=by rcases hk with rfl|rfl<;>rfl
 have hN:=Vn6 hD;have htl:=congrArg List.length ht;rw[Qr]at htl;unfold datR bodB;rw[hN,hD,show (1024#64).toNat=1024 from rfl];simp only[Ui,Uj];by_cases h1:1024<m.toNat
 ·rw[dT (1024<m.toNat) h1];exact Vcr (by decide)
 ·rw[dF (1024<m.toNat) h1,wI ((m.toNat:Int)) (by omega),wI ((bs.length:Int)-(at1:Int)) (by omega)];simp only[Uj];by_cases h2:t.length<m.toNat
  ·rw[dT (t.length<m.toNat) h2,dT ((bs.length:Int)-(at1:Int)<(m.toNat:Int)) (by omega)];exact Vcr (by decide)
  ·rw[dF (t.length<m.toNat) h2,dF ((bs.length:Int)-(at1:Int)<(m.toNat:Int)) (by omega),wI ((at1:Int)+(m.toNat:Int)) (by omega),show ((at1:Int)+(m.toNat:Int))=((at1+m.toNat:Nat):Int) from rfl];simp only[Uj,Qn];rw[show (decide ((0:Int)<=((at1+m.toNat:Nat):Int))&&decide (((at1+m.toNat:Nat):Int)<=(bs.length:Int)))=true by (rw[Qg,Uq,Uq];exact⟨by omega,by omega⟩),show (decide ((0:Int)<=(at1:Int))&&decide ((at1:Int)<=((at1+m.toNat:Nat):Int)))=true by (rw[Qg,Uq,Uq];exact⟨by omega,by omega⟩)];simp only[Ui];have hv:Qo at1 (Q1 (at1+m.toNat) bs)=t.take m.toNat:=by
    rw[Qy,ht,show at1+m.toNat-at1=m.toNat by omega]
   rw[hv];refine Vn8 hS hn (by omega) (by rw[<-ht,Qi]) ?_ ?_ ?_
   ·refine⟨?_,?_,?_⟩
    ·dsimp only;omega
    ·dsimp only;omega
    ·intro h;dsimp only at h;rw[hD]at h;cases h
   ·dsimp only;rw[Qw];omega
   ·intro h;dsimp only at h;rw[hN]at h;cases h
theorem Vza(S:List Jc)(n:Nat)(bs:Ua)(at0:Nat)(hS:WS S)(hn:n<=512)(hbs:bs.length<1000000)(hat:at0<=bs.length) :
  RdOut S n bs (getB n S.length (atK S) (lst S) (bs.drop at0)) (Zfw (S.reverse,(n:Int),bs,(at0:Int),())):=by
 obtain⟨at1,h1,h2,h3⟩:=Vdsa S.reverse (n:Int) bs at0 hat hbs;generalize bs.drop at0=s at h2 h3 |-;unfold Zfw getB;dsimp only;rw[h2];simp only[bindS];have hB:=λk m t=>Vpz (s:=s) (k:=k) (n:=m) (t:=t);generalize hdB s=q at h3 hB |-;obtain⟨e,k,m,t⟩:=q;dsimp only at h3 hB |-;by_cases he:e=0
 ·subst he;have ht:=h3 rfl;have hbk:=hB k m t rfl;simp only[Uk,Qq,Uj];rw[Vpu S n k (by have:=hS.2.2;omega)];simp only[bindS];by_cases ha:adm k n S.length (atK S)=0
  ·rw[dT (adm k n S.length (atK S)=0) ha];simp only[Qq,Uj];obtain⟨a1,a2,a3,a4,a5⟩:=Vca ha;have hnum:isN k=true->¬ 512<m.toNat->RdOut S n bs (accB (atK S) (lst S) (bodB k m t)) (tailR (S.reverse,(n:Int),bs,(at1:Int),()) ⟨k,m,[]⟩):=by
    intro hN hm;have:bodB k m t=(0,⟨k,m,[]⟩,t):=by
     unfold bodB;rw[hN,dF (512<m.toNat) hm];rfl
    rw[this];exact Vn8 hS hn h1 ht ⟨a2,a3,λ_=>rfl⟩ (by simp) (λ_=>by dsimp only;omega)
   have hbig:isN k=true->512<m.toNat->bodB k m t=(8,default,[]):=by
    intro hN hm;unfold bodB;rw[hN,dT (512<m.toNat) hm];rfl
   rcases Vf5a k with rfl|rfl|rfl|rfl|⟨g1,g2,g3,g4⟩
   ·simp only[Uk,Ui,show (512#64).toNat=512 from rfl];by_cases hm:512<m.toNat
    ·rw[dT (512<m.toNat) hm,hbig rfl hm];exact Vcr (by decide)
    ·rw[dF (512<m.toNat) hm];exact hnum rfl hm
   ·have:=Vbsa (m:=m) hS hn hbs h1 ht (.inl rfl);refine Eq.mp (congrArg (RdOut S n bs _) ?_) this;unfold datR;simp only[Int.reduceEq,Uk,Ul,Ui,Uj];cases decide ((1024#64).toNat<m.toNat)
    ·simp only[Uj];generalize decide (Qa .i64 ((bs.length:Int)-(at1:Int))<Qa .i64 (m.toNat:Int))=c1;cases c1
     ·simp only[Uj];generalize (decide ((0:Int)<=Qa .i64 ((at1:Int)+Qa .i64 (m.toNat:Int)))&&decide (Qa .i64 ((at1:Int)+Qa .i64 (m.toNat:Int))<=(bs.length:Int)))=c2;cases c2
      ·rfl
      ·simp only[Ui];generalize (decide ((0:Int)<=(at1:Int))&&decide ((at1:Int)<=((Qa .i64 ((at1:Int)+Qa .i64 (m.toNat:Int))).toNat:Int)))=c3;cases c3<;>rfl
     ·rfl
    ·rfl
   ·simp only[Int.reduceEq,Uk,Ul,Ui,Uj,show (512#64).toNat=512 from rfl];by_cases hm:512<m.toNat
    ·rw[dT (512<m.toNat) hm,hbig rfl hm];exact Vcr (by decide)
    ·rw[dF (512<m.toNat) hm];exact hnum rfl hm
   ·have:=Vbsa (m:=m) hS hn hbs h1 ht (.inr rfl);refine Eq.mp (congrArg (RdOut S n bs _) ?_) this;unfold datR;simp only[Int.reduceEq,Uk,Ul,Ui,Uj];cases decide ((1024#64).toNat<m.toNat)
    ·simp only[Uj];generalize decide (Qa .i64 ((bs.length:Int)-(at1:Int))<Qa .i64 (m.toNat:Int))=c1;cases c1
     ·simp only[Uj];generalize (decide ((0:Int)<=Qa .i64 ((at1:Int)+Qa .i64 (m.toNat:Int)))&&decide (Qa .i64 ((at1:Int)+Qa .i64 (m.toNat:Int))<=(bs.length:Int)))=c2;cases c2
      ·rfl
      ·simp only[Ui];generalize (decide ((0:Int)<=(at1:Int))&&decide ((at1:Int)<=((Qa .i64 ((at1:Int)+Qa .i64 (m.toNat:Int))).toNat:Int)))=c3;cases c3<;>rfl
     ·rfl
    ·rfl
   ·simp only[g1,g2,g3,g4,Ul,Uj,bindS,Qm];have:bodB k m t=(0,⟨k,m,[]⟩,t):=by
     unfold bodB isN isD;simp[g1,g2,g3,g4]
    rw[this];have hN:isN k=false:=by unfold isN;simp[g1,g3]
    exact Vn8 hS hn h1 ht ⟨a2,a3,λ_=>rfl⟩ (by simp) (λh=>by dsimp only at h;rw[hN]at h;cases h)
  ·rw[dF (adm k n S.length (atK S)=0) ha];exact Vcr ha
 ·rw[dF (e=0) he];exact Vcr he
theorem Vrd{n d:Nat}{key:Bool}{b s:Ua}{x:Ja}{t:Ua}(h:getB n d key b s=(0,x,t)):chk x n d key b=0:=(Vwh h).2
theorem Vwk(bs:Ua)(hbs:bs.length<1000000):Zio bs=some ((),(decO bs).1,(decO bs).2.1,(decO bs).2.2,()):=by
 have key:∀(fuel:Nat) (S:List Jc) (n:Nat) (out:List Ja) (at0 f:Nat),WS S->n<=512->out.length=n->at0<=bs.length->600<=fuel+n->fuel<=f ->
   (iter (λ(y:(List (Ja))×Rd×Unit)=>Zio_L0b y.1 y.2.1) f (out,(S.reverse,(n:Int),bs,(at0:Int),()),())).bind (Qaa (λ(z3:((List (Ja))×Int×Int×Unit))=>(some ((),(z3.1,z3.2.1,z3.2.2.1,())):Option (Unit×(List Ja×Int×Int×Unit)))) (λ(z4:((List (Ja))×Rd×Unit))=>(some ((),(z4.1,z4.2.1.2.2.2.1,(0:Int),())))))=some ((),(bif decide ((mach getB fuel S n (bs.drop at0)).1=0) then (out++(mach getB fuel S n (bs.drop at0)).2.1,((bs.length-(mach getB fuel S n (bs.drop at0)).2.2.length:Nat):Int),(0:Int),()) else ([],(0:Int),(mach getB fuel S n (bs.drop at0)).1,()))):=by
  intro fuel;induction fuel with
  |zero=>intro S n out at0 f hS hn ho hat h6;omega
  |succ fuel ih=>
   intro S n out at0 f hS hn ho hat h6 hf;obtain⟨f,rfl⟩:∃g,f=g+1:=⟨f-1,by omega⟩;rw[Vac];have hit:=Vza S n bs at0 hS hn hbs hat
   have e1:Zio_L0b out (S.reverse,(n:Int),bs,(at0:Int),())=bif decide (0<n)&&S.isEmpty then some (Qx (Qx (out,(S.reverse,(n:Int),bs,(at0:Int),()),()))) else (Zfw (S.reverse,(n:Int),bs,(at0:Int),())).bind λr2=>(bif (!decide (r2.2.2.1=(0:Int))) then (some (Qx (Qv ([],(0:Int),r2.2.2.1,())))) else (bif small ((out).length+(([r2.2.1]:List (Ja)):List (Ja)).length) 32 then (some (Qv ((out++([r2.2.1]:List (Ja))),(r2.1.1.1,r2.1.1.2.1,r2.1.1.2.2.1,r2.1.1.2.2.2.1,()),()))) else none)):=by
    unfold Zio_L0b;dsimp only;rw[Vn3];simp only[bindS];cases (decide (0<n)&&S.isEmpty)<;>rfl
   dsimp only;rw[e1];rcases Vgb getB fuel S n (bs.drop at0) with⟨h1,h2⟩|⟨h1,h2,h3⟩|⟨h1,x,t,h2,h3⟩
   ·rw[h1,h2];simp only[Ui,bindS,Sum.elim_inr,Uk,List.append_nil,Qr];rw[show bs.length-(bs.length-at0)=at0 by omega]
   ·rw[h1,h3];obtain⟨_,_,_,g3⟩:=hit;obtain⟨st,y,g4⟩:=g3 h2;rw[g4];simp only[Uj,bindS];rw[dF ((getB n S.length (atK S) (lst S) (bs.drop at0)).1=0) h2];rfl
   ·rw[h1,h3];obtain⟨at1,g1,g2,_⟩:=hit;rw[h2]at g2;obtain⟨g3,g4⟩:=g2 rfl;dsimp only at g3 g4;rw[g4];have hc:=Vrd h2;have hn512:=(Vca (Vbf hc).1).1;simp only[Uj,bindS,Uk,Qq,Qm];rw[Vga (by simp;omega)];simp only[Ui,bindS,Qm];have:=ih (nxt x S) (n+1) (out++[x]) at1 f (Vboa hS hc) (by omega) (by simp;omega) g1 (by omega) (by omega);rw[g3]at this;rw[this,Ql];rfl
 unfold Zio Zio_L0 decO i2;have:=key 600 [] 0 [] 0 rounds ⟨by simp,trivial,by simp⟩ (by omega) rfl (by omega) (by omega) (by rw[Vaa];omega);refine Eq.trans this ?_;rw[show bs.drop 0=bs from rfl,Q9];cases decide ((mach getB 600 [] 0 bs).1=0)<;>rfl
abbrev Rr:=Ua×Int×List Ja×Unit
def RI(bs:Ua)(out:List Ja)(w:Res Ua)(z:Option ((Rr×Unit)×(Int×Unit))):Prop:=
 (w.1=0->∃at1:Nat,at1<=bs.length/\z=some (((bs,(at1:Int),out++w.2.1,()),()),(0,()))/\bs.drop at1=w.2.2/\out.length+w.2.1.length<=512)/\(w.1≠0->∃st,z=some (st,(w.1,())))
abbrev RK:=Rr->Int->Bool->Ua->Option ((Rr×Unit)×(Int×Unit))
theorem bvn(i:Nat)(hi:i<=2000):(Qk 64 i).toNat=i:=by rw[Q5,Q8 (by omega)]
theorem bvs(i:Nat)(hi:i<=1000):Qk 64 i+1#64=Qk 64 (i+1):=by
 apply Qs;rw[BitVec.toNat_add,bvn i (by omega),bvn (i+1) (by omega)];rw[show (1#64).toNat=1 from rfl,Q8 (by omega)]
section
variable (bs:Ua)(k_rec:RK)(f:Nat)(d:Nat)
  (ih:∀(at0:Nat) (out:List Ja) (key:Bool) (b:Ua),at0<=bs.length->out.length<=512->RI bs out (W getB f (bs.drop at0) out.length (d+1) key b) (k_rec (bs,(at0:Int),out,()) ((d+1:Nat):Int) key b))
  (ed:Qa .i64 ((d:Int)+1)=((d+1:Nat):Int))
include ih ed
end
def addI(x:Ja):Nat:=bif decide (x.kind=5) then x.number.toNat else bif decide (x.kind=6) then 2*x.number.toNat else 0
def skp:List Ja->Nat->Option Nat
 |[],0=>some 0
 |[],_+1=>none
 |_::_,0=>some 0
 |x::r,n+1=>bif isN x.kind&&decide (512<x.number.toNat) then none else (skp r (n+addI x)).map (·+1)
theorem Vk4:∀l,skp l 0=some 0
 |[]=>rfl
 |_::_=>rfl
def skZ(at0:Nat):Option Nat->(Int×Bool×Unit)⊕(Int×Unit)
 |none=>.inl (0,false,())
 |some k=>.inr (((at0+k:Nat):Int),())
theorem Vdta{x:Ja}(h:(isN x.kind&&decide (512<x.number.toNat))=false):addI x<=1024:=by
 unfold addI;simp only[isN,Bool.and_eq_false_iff,decide_eq_false_iff_not,Q4]at h;by_cases h5:x.kind=5
 ·simp[h5]at h |-;omega
 ·by_cases h6:x.kind=6
  ·simp[h6]at h |-;omega
  ·simp[h5,h6]
theorem Vzb(l:List Ja)(hl:l.length<1000000):∀(r:List Ja) (at0 need f:Nat),l.drop at0=r->at0<=l.length->need<=1024*(at0+1)->r.length<f ->
  iter (λ(y:((List (Ja))×Int×Int×Unit))=>cbor_Skip_L0b y.1 y.2.1 y.2.2.1) f (l,(at0:Int),(need:Int),())=some (skZ at0 (skp r need)):=by
 intro r;induction r with
 |nil=>
  intro at0 need f hr ha hn hf;have hal:at0=l.length:=by
   have:=congrArg List.length hr;simp at this;omega
  obtain⟨f,rfl⟩:∃g,f=g+1:=⟨f-1,by omega⟩;rw[Vac];dsimp only;unfold cbor_Skip_L0b;cases need with
  |zero=>rfl
  |succ need=>
   rw[dT ((0:Int)<((need+1:Nat):Int)) (by omega),dT ((l.length:Int)<=(at0:Int)) (by omega)];rfl
 |cons x r ih=>
  intro at0 need f hr ha hn hf;have hlt:at0<l.length:=by
   have:=congrArg List.length hr;simp at this;omega
  have hx:l[at0]? = some x:=by
   have:=congrArg (·[0]?) hr;simpa using this
  have hr2:l.drop (at0+1)=r:=by
   have:=congrArg (Qo 1) hr;simpa[Qi]using this
  have eg:getI l (at0:Int)=some x:=by unfold getI;simp[hx]
  simp only[Qf]at hf;obtain⟨f,rfl⟩:∃g,f=g+1:=⟨f-1,by omega⟩;rw[Vac];dsimp only;cases need with
  |zero=>rfl
  |succ need=>
   have e1 : cbor_Skip_L0b l (at0 : Int) ((need+1 : Nat) : Int)=some (bif isN x.kind&&decide (512<x.number.toNat) then .inr (.inl (0, false, ())) else .inl (l, ((at0+1 : Nat) : Int), ((need+addI x : Nat) : Int), ())) := by
    unfold cbor_Skip_L0b;rw[dT ((0:Int)<((need+1:Nat):Int)) (by omega),dF ((l.length:Int)<=(at0:Int)) (by omega),eg,wI ((at0:Int)+1) (by omega),wI (((need+1:Nat):Int)-1) (by omega),show ((need+1:Nat):Int)-1=(need:Int) by omega,show (512#64).toNat=512 from rfl];simp only[Ui,Uj,bindS];unfold isN addI;by_cases h5:x.kind=5
    ·by_cases hm:512<x.number.toNat
     ·simp[h5,hm]
     ·rw[wI ((x.number.toNat:Int)) (by omega),wI ((need:Int)+(x.number.toNat:Int)) (by omega)];simp[h5,hm]
    ·by_cases h6:x.kind=6
     ·by_cases hm:512<x.number.toNat
      ·simp[h6,hm]
      ·rw[wI ((x.number.toNat:Int)) (by omega),wI ((need:Int)+(x.number.toNat:Int)) (by omega),wI ((need:Int)+(x.number.toNat:Int)+(x.number.toNat:Int)) (by omega)];simp[h6,hm];omega
     ·simp[h5,h6]
   rw[e1,bindS];simp only[skp];cases hb:(isN x.kind&&decide (512<x.number.toNat))
   ·simp only[Uj,Qm];have:=Vdta hb;rw[ih (at0+1) (need+addI x) f hr2 (by omega) (by omega) (by omega)];cases skp r (need+addI x) with
    |none=>rfl
    |some k=>
     simp only[Option.map_some,skZ];rw[show at0+1+k=at0+(k+1) by omega]
   ·rfl
def skO(l:List Ja)(a:Int):Int×Bool:=bif decide (a<0) then (0,false) else bif decide ((l.length:Int)<=a) then (0,false) else match skp (l.drop a.toNat) 1 with
 |none=>(0,false)
 |some k=>(((a.toNat+k:Nat):Int),true)
theorem Vzc(a:Nat)(o:Option Nat):(Qaa (λ(z6:(Int×Bool×Unit))=>(some ((),(z6.1,z6.2.1,())):Option (Unit×(Int×Bool×Unit)))) (λ(z7:(Int×Unit))=>(some ((),(z7.1,true,())))) (skZ a o))=some ((),(match o with|none=>((0:Int),false)|some k=>(((a+k:Nat):Int),true)).1,(match o with|none=>((0:Int),false)|some k=>(((a+k:Nat):Int),true)).2,()):=by
 cases o<;>rfl
theorem Vwl(l:List Ja)(a:Int)(hl:l.length<1000000):cbor_Skip l a=some ((),(skO l a).1,(skO l a).2,()):=by
 unfold cbor_Skip skO;by_cases h1:a<0
 ·simp[h1]
 ·rw[dF (a<0) h1];by_cases h2:(l.length:Int)<=a
  ·simp[h2]
  ·rw[dF ((l.length:Int)<=a) h2];obtain⟨n,rfl⟩:∃n:Nat,a=(n:Int):=⟨a.toNat,by omega⟩;have:=Vzb l hl (l.drop n) n 1 rounds rfl (by omega) (by omega) (by rw[Vaa];simp;omega);unfold cbor_Skip_L0 i3;simp only[Uj];rw[show (1:Int)=((1:Nat):Int) from rfl,this,bindS,Qn,Vzc]
theorem Vp0(o:Option Nat)(a b:Nat):(o.map (·+a)).map (·+b)=o.map (·+(b+a)):=by
 cases o with
 |none=>rfl
 |some k=>simp;omega
theorem map0(o:Option Nat):o=o.map (·+0):=by cases o<;>rfl
theorem W_skp : ∀(f : Nat) (s : List Ja) (n d : Nat) (key : Bool) (b : Ua), (W getL f s n d key b).1=0->∀m, skp s (m+1)=(skp (W getL f s n d key b).2.2 m).map (·+(W getL f s n d key b).2.1.length)
 |0,s,n,d,key,b,h=>by simp[W]at h
 |f+1, s, n, d, key, b, h => by
  have ih:=W_skp f;intro m;unfold W at h |-;dsimp only at h |-;rcases hg:getL n d key b s with⟨e,x,t⟩;rw[hg]at h;dsimp only at h |-;by_cases he:e=0
  ·subst he;simp only[Uk,Ui]at h |-;have hs:s=x::t/\(isN x.kind&&decide (512<x.number.toNat))=false:=by
    cases s with
    |nil=>simp[getL]at hg
    |cons y r=>
     simp only[getL,Qj]at hg;obtain⟨g1,rfl,rfl⟩:=hg;refine⟨rfl,?_⟩;have:=(Vda (Vbf g1).2.2.1).2;cases hn:isN y.kind
     ·rfl
     ·rw[Un (by have:=this hn;omega)];rfl
   rw[hs.1];simp only[skp,hs.2,Uj,Qf];have key2:∀q:Res (List Ja),skp t (m+addI x)=(skp q.2.2 m).map (·+q.2.1.length)->(skp t (m+addI x)).map (·+1)=(skp q.2.2 m).map (·+(q.2.1.length+1)):=by
    intro q hq;rw[hq,Vp0,Q3 1]
   refine key2 _ ?_;by_cases h5:x.kind=5
   ·simp only[h5,Uk,Ui]at h |-;have loop:∀(k:Nat) (t:List Ja) (n:Nat),(LA (λs n=>W getL f s n (d+1) false []) k t n).1=0->skp t (m+k)=(skp (LA (λs n=>W getL f s n (d+1) false []) k t n).2.2 m).map (·+(LA (λs n=>W getL f s n (d+1) false []) k t n).2.1.length):=by
     intro k;induction k with
     |zero=>intro t n _;exact map0 _
     |succ k ihk=>
      intro t n h;unfold LA at h |-;have i1:=ih t n (d+1) false [];generalize W getL f t n (d+1) false []=w at h i1 |-;by_cases hw:w.1=0
      ·rw[show decide (w.1=0)=true by simpa using hw]at h |-;simp only[Ui]at h |-;rw[<-Nat.add_assoc,i1 hw (m+k),ihk _ _ h,Vp0,Qc]
      ·rw[show decide (w.1=0)=false by simpa using hw]at h;exact absurd h hw
    have:=loop _ _ _ h;unfold addI;simp only[h5,Uk,Ui];exact this
   ·by_cases h6:x.kind=6
    ·simp only[h6,Uk,Ui,Int.reduceEq,Ul,Uj]at h |-;have loop:∀(k:Nat) (t:List Ja) (n:Nat) (l:Ua),(LM (λs n last=>W getL f s n (d+1) true last) (λs n=>W getL f s n (d+1) false []) k t n l).1=0->skp t (m+2*k)=(skp (LM (λs n last=>W getL f s n (d+1) true last) (λs n=>W getL f s n (d+1) false []) k t n l).2.2 m).map (·+(LM (λs n last=>W getL f s n (d+1) true last) (λs n=>W getL f s n (d+1) false []) k t n l).2.1.length):=by
      intro k;induction k with
      |zero=>intro t n l _;exact map0 _
      |succ k ihk=>
       intro t n l h;unfold LM at h |-;dsimp only at h |-;have i1:=ih t n (d+1) true l;generalize W getL f t n (d+1) true l=w at h i1 |-;by_cases hw:w.1=0
       ·rw[show decide (w.1=0)=true by simpa using hw]at h |-;simp only[Ui]at h |-;have i2:=ih w.2.2 (n+w.2.1.length) (d+1) false [];generalize W getL f w.2.2 (n+w.2.1.length) (d+1) false []=v at h i2 |-;by_cases hv:v.1=0
        ·rw[show decide (v.1=0)=true by simpa using hv]at h |-;simp only[Ui]at h |-;rw[show m+2*(k+1)=m+2*k+1+1 by omega,i1 hw (m+2*k+1),i2 hv (m+2*k),ihk _ _ _ h];simp only[Vp0,Qc]
        ·rw[show decide (v.1=0)=false by simpa using hv]at h;exact absurd h hv
       ·rw[show decide (w.1=0)=false by simpa using hw]at h;exact absurd h hw
     have:=loop _ _ _ _ h;unfold addI;simp only[h6,Uk,Ui,Int.reduceEq,Ul,Uj];exact this
    ·simp only[h5,h6,Ul,Uj];unfold addI;simp only[h5,h6,Ul,Uj];exact map0 _
  ·rw[show decide (e=0)=false by simpa using he]at h;exact absurd h he
inductive PairsAt:Nat->List Ja->List Ja->List (Ja×List Ja)->Prop
 |nil (t:List Ja):PairsAt 0 t t []
 |cons {k:Nat} {x:Ja} {v r t:List Ja} {ps:List (Ja×List Ja)} (hx:isN x.kind=false) (hv:∀m,skp (v++r) (m+1)=(skp r m).map (·+v.length)) (h0:v≠[]) (h:PairsAt k r t ps):PairsAt (k+1) (x::(v++r)) t ((x,v)::ps)
theorem Vbta{l:List Ja}(h:valO l=0):W getL 12 l 0 0 false []=(0,l,[]):=by
 obtain⟨m1,m2⟩:=Vpw Vk3 12 (by omega) l;have hm:=(Ved h).1;by_cases hw:(W getL 12 l 0 0 false []).1=0
 ·rw[<-m2 hw,hm]
 ·have:=m1 hw;rw[hm]at this;exact absurd this.symm hw
theorem Vwm{l:List Ja}(h:valO l=0):l≠[]:=by
 intro e;have:=Vbta h;subst e;simp[W,getL]at this
def lkP(key:Ub):List (Ja×List Ja)->List Ja×Bool
 |[]=>([],false)
 |p::r=>bif decide (p.1.kind=1)&&decide (p.1.number=key) then (p.2,true) else lkP key r
theorem PairsAt.len{k:Nat}{s t:List Ja}{ps:List (Ja×List Ja)}(h:PairsAt k s t ps):ps.length=k:=by
 induction h with
 |nil=>rfl
 |cons _ _ _ _ ih=>simp[ih]
theorem Vbua{l:List Ja}{a:Nat}{v r:List Ja}(h:l.drop a=v++r)(hv:∀m,skp (v++r) (m+1)=(skp r m).map (·+v.length))(h0:v≠[]):skO l (a:Int)=(((a+v.length:Nat):Int),true):=by
 have h1:0<v.length:=List.length_pos_iff.2 h0;have hl:=congrArg List.length h;rw[Qr,Qc]at hl;have h2:=hv 0;rw[Vk4,Nat.zero_add]at h2;unfold skO;rw[dF ((a:Int)<0) (by omega),dF ((l.length:Int)<=(a:Int)) (by omega),Qn,h,h2];simp
def LkR(key:Ub)(ps:List (Ja×List Ja))(z:(List Ja×Bool×Unit)⊕Unit):Prop:=(Qaa (λ(z9:((List (Ja))×Bool×Unit))=>(some ((),(z9.1,z9.2.1,())):Option (Unit×(List Ja×Bool×Unit)))) (λ(z10:(Unit))=>(some ((),([],false,())))) z)=some ((),(lkP key ps).1,(lkP key ps).2,())
theorem Vp1{l v r:List Ja}{a:Nat}(h:l.drop a=v++r):Qo a (Q1 (a+v.length) l)=v:=by
 rw[Qy,h,show a+v.length-a=v.length by omega];simp
theorem Vzd(l:List Ja)(hl:l.length<1000000)(key:Ub)(N:Ub)(hN:N.toNat<=512):∀(k i a f:Nat) (s:List Ja) (ps:List (Ja×List Ja)),PairsAt k s [] ps->i+k=N.toNat->l.drop a=s->a<=l.length->k<f ->
  ∃z,iter (λ(y:((List (Ja))×Ub×Int×Ub×Ub×Unit))=>Ziq_L0b y.1 y.2.1 y.2.2.1 y.2.2.2.1 y.2.2.2.2.1) f (l,key,(a:Int),N,Qk 64 i,())=some z/\LkR key ps z:=by
 intro k;induction k with
 |zero=>
  intro i a f s ps hp hi hs ha hf;obtain⟨f,rfl⟩:∃g,f=g+1:=⟨f-1,by omega⟩;rw[Vac];have hps:ps=[]:=List.length_eq_zero_iff.1 hp.len;subst hps;refine⟨.inr (),?_,rfl⟩;dsimp only;unfold Ziq_L0b;rw[bvn i (by omega),dF (i<N.toNat) (by omega)];rfl
 |succ k ih=>
  intro i a f s ps hp hi hs ha hf;obtain⟨f,rfl⟩:∃g,f=g+1:=⟨f-1,by omega⟩;cases hp with
  |@cons _ x v r _ ps hx hv h0 hp=>
  have hd1:l[a]? = some x:=by
   have:=congrArg (·[0]?) hs;simpa using this
  have hd2:l.drop (a+1)=v++r:=by
   have:=congrArg (Qo 1) hs;simpa[Qi]using this
  have hlen:=congrArg List.length hd2;rw[Qr,Qc]at hlen;have hv1:0<v.length:=List.length_pos_iff.2 h0;have hd3:l.drop (a+1+v.length)=r:=by
   rw[<-Qi,hd2];simp
  have e1:Ziq_L0b l key (a:Int) N (Qk 64 i)=bif decide (x.kind=1)&&decide (x.number=key) then some (Qx (Qv (v,true,()))) else some (Qv (l,key,((a+1+v.length:Nat):Int),N,Qk 64 (i+1),())):=by
   unfold Ziq_L0b;rw[bvn i (by omega),dT (i<N.toNat) (by omega),wI ((a:Int)+1) (by omega),show (a:Int)+1=((a+1:Nat):Int) from rfl,Vwl l _ hl,Vbua hd2 hv h0,bvs i (by omega),Vdr hd1];simp only[Ui,bindS,Qq,Uj];cases h1:decide (x.kind=1)
   ·simp only[Bool.false_and,Uj]
   ·simp only[Bool.true_and,Ui];cases h2:decide (x.number=key)
    ·simp only[Uj]
    ·simp only[Ui,Qn];rw[show (decide ((0:Int)<=((a+1+v.length:Nat):Int))&&decide (((a+1+v.length:Nat):Int)<=(l.length:Int)))=true by (rw[Qg,Uq,Uq];exact⟨by omega,by omega⟩),show (decide ((0:Int)<=((a+1:Nat):Int))&&decide (((a+1:Nat):Int)<=((a+1+v.length:Nat):Int)))=true by (rw[Qg,Uq,Uq];exact⟨by omega,by omega⟩),Vp1 hd2];simp only[Ui];unfold Zim;rw[dT (v.length<=1000000) (by omega)];rfl
  rw[Vac];dsimp only;rw[e1];cases hm:(decide (x.kind=1)&&decide (x.number=key))
  ·simp only[Uj,bindS,Qm];obtain⟨z,z1,z2⟩:=ih (i+1) (a+1+v.length) f r ps hp (by omega) hd3 (by omega) (by omega);refine⟨z,z1,?_⟩;unfold LkR lkP;rw[hm];exact z2
  ·refine⟨_,rfl,?_⟩;unfold LkR lkP;rw[hm];rfl
theorem Vjn{a b:Int}(h0:0<=a)(h1:a<b):(decide ((0:Int)<=a)&&decide (a<b))=true:=by
 rw[Qg,Uq,Uq];exact⟨h0,h1⟩
def fau:List (List Ja)->Int
 |[]=>0
 |l::r=>bif decide (valO l=0) then fau r else valO l
def light1(v:List (List Ja)):Prop:=∀l∈v,l.length<=600/\∀x∈l,x.data.length<100000
theorem Vmu(v:List (List Ja))(hv:light1 v)(hl:v.length<=1000):Zir v=some ((),fau v,()):=by
 have key:∀(r:List (List Ja)) (j f:Nat),v.drop j=r->r.length<f->iter (λ(y:((List (List Ja))×Int×Int×Unit))=>Zir_L0b y.1 y.2.1 y.2.2.1) f (v,(v.length:Int),(j:Int),())=some (bif decide (fau r=0) then .inr () else .inl (fau r,())):=by
  intro r;induction r with
  |nil=>
   intro j f hr hf;obtain⟨f,rfl⟩:∃g,f=g+1:=⟨f-1,by omega⟩;have hjl:v.length<=j:=by
    have:=congrArg List.length hr;simp at this;omega
   rw[Vac];dsimp only;unfold Zir_L0b;rw[dF ((j:Int)<(v.length:Int)) (by omega)];rfl
  |cons l r ih=>
   intro j f hr hf;obtain⟨f,rfl⟩:∃g,f=g+1:=⟨f-1,by omega⟩;obtain⟨d1,d2,d3,d4⟩:=Vcq hr;have hm:=hv l (Qt d1);have e1:Zir_L0b v (v.length:Int) (j:Int)=bif decide (valO l=0) then some (Qv (v,(v.length:Int),((j+1:Nat):Int),())) else some (Qx (Qv (valO l,()))):=by
    unfold Zir_L0b;rw[dT ((j:Int)<(v.length:Int)) (by omega),Vdr d1,wI ((j:Int)+1) (by omega)];simp only[Ui,bindS];rw[Vdp l (by omega) hm.2];simp only[bindS];cases decide (valO l=0)<;>rfl
   rw[Vac];dsimp only;rw[e1];unfold fau;by_cases h0:valO l=0
   ·rw[dT (valO l=0) h0];exact ih (j+1) f d2 (by simp at hf;omega)
   ·rw[dF (valO l=0) h0];simp only[Uj,bindS,Sum.elim_inr];rw[dF (valO l=0) h0];rfl
 unfold Zir Zir_L0 i3;have e:=key v 0 rounds rfl (by rw[Vaa];omega);rw[show ((0:Nat):Int)=0 from rfl]at e;rw[e];by_cases h0:fau v=0
 ·rw[h0];rfl
 ·rw[dF (fau v=0) h0];rfl
theorem Vmv:∀(f:Nat) (S:List Jc) (n:Nat) (p a b:List Ja),n<=512->p.length+n=513->valE (mach getL f S n (p++a))=valE (mach getL f S n (p++b))
 |0,S,n,p,a,b,_,_=>rfl
 |f+1,S,n,p,a,b,hn,hp=>by
  cases p with
  |nil=>simp at hp;omega
  |cons x p=>
   simp only[Qf]at hp;cases hS:(decide (0<n)&&S.isEmpty)
   ·by_cases hc:chk x n S.length (atK S) (lst S)=0
    ·have hn2:=(Vca (Vbf hc).1).1;have e:∀q:List Ja,getL n S.length (atK S) (lst S) (x::q)=(0,x,q):=λq=>by simp[getL,hc]
     rw[Qb,Qb,Vcp hS (e _),Vcp hS (e _)];exact Vmv f (nxt x S) (n+1) p a b (by omega) (by omega)
    ·have e:∀q:List Ja,getL n S.length (atK S) (lst S) (x::q)=(chk x n S.length (atK S) (lst S),x,q):=λq=>rfl;rw[Qb,Qb,Vdo hS (e _) hc,Vdo hS (e _) hc];rfl
   ·have e:∀q:List Ja,valE (mach getL (f+1) S n (x::q))=2:=by
     intro q;unfold mach;rw[hS];rfl
    rw[Qb,Qb,e,e]
theorem Vwn(p a b:List Ja)(hp:p.length=513):valO (p++a)=valO (p++b):=Vmv 600 [] 0 p a b (by omega) (by omega)
def gat:List Ja->List (List Ja)->List Ja
 |o,[]=>o
 |o,l::r=>bif decide (512<o.length) then o else gat (o++l) r
theorem Vk5:∀(v:List (List Ja)) (o:List Ja),valO (gat o v)=valO (o++v.flatten)/\(gat o v=o++v.flatten\/512<(gat o v).length/\512<(o++v.flatten).length)
 |[],o=>by simp[gat]
 |l::r,o=>by
  unfold gat
  by_cases h:512<o.length
  ·rw[dT (512<o.length) h];simp only[Ui];refine⟨?_,.inr ⟨h,by rw[Qc];omega⟩⟩;have e:=Vwn (o.take 513) (o.drop 513) (o.drop 513++(l::r).flatten) (by rw[Qw];omega);rw[<-Ql,List.take_append_drop]at e;exact e
  ·rw[dF (512<o.length) h];simp only[Uj,Qp];have:=Vk5 r (o++l);rw[Ql]at this;exact this
theorem Vze{l:List Ja}(h:512<l.length):valO l≠0:=by
 intro hv;have key:∀(f:Nat) (S:List Jc) (n:Nat) (l o r:List Ja),n<=512->mach getL f S n l=(0,o,r)->n+o.length<=512:=by
  intro f;induction f with
  |zero=>intro S n l o r hn h;simp[mach]at h
  |succ f ih=>
   intro S n l o r hn h;rcases Vgb getL f S n l with⟨h1,h2⟩|⟨h1,h2,h3⟩|⟨h1,x,u,h2,h3⟩
   ·rw[h2]at h;simp only[Qj,true_and]at h;obtain⟨rfl,rfl⟩:=h;simpa using hn
   ·rw[h3]at h;simp only[Qj]at h;exact absurd h.1 h2
   ·rw[h3]at h;simp only[Qj]at h;obtain⟨g1,g2,g3⟩:=h;have hn2:=(Vca (Vbf (Vms h2).2).1).1;generalize hm:mach getL f (nxt x S) (n+1) u=m at g1 g2 g3;obtain⟨m1,m2,m3⟩:=m;dsimp only at g1 g2 g3;subst g1;subst g2;subst g3;have:=ih (nxt x S) (n+1) u m2 m3 (by omega) hm;rw[Qf];omega
 have:=key 600 [] 0 l l [] (by omega) (Ved hv).1;omega
theorem Vjo(l:List Ja)(hl:l.length<1000000)(hd:∀x∈l,x.data.length<100000):Zij l=some ((),(bif decide (valO l=0) then l else []),valO l,()):=by
 unfold Zij;rw[Vdp l hl hd];simp only[bindS];by_cases h:valO l=0
 ·rw[h];rfl
 ·rw[dF (valO l=0) h];rfl
theorem Vn9:∀(v:List (List Ja)) (o:List Ja),(gat o v).length<=(o++v.flatten).length/\∀x∈gat o v,x∈o++v.flatten
 |[],o=>by simp[gat]
 |l::r,o=>by
  unfold gat
  cases decide (512<o.length)
  ·have:=Vn9 r (o++l);simp only[Uj,Qp];rw[Ql]at this;exact this
  ·simp only[Ui];exact⟨by rw[Qc];omega,λx hx=>List.mem_append_left _ hx⟩
theorem Vwo{v:List (List Ja)}(o:List Ja):(bif decide (valO (gat o v)=0) then gat o v else [])=(bif decide (valO (o++v.flatten)=0) then o++v.flatten else []):=by
 obtain⟨h1,h2⟩:=Vk5 v o;rw[h1];rcases h2 with h2|⟨h2,h3⟩
 ·rw[h2]
 ·rw[dF (valO (o++v.flatten)=0) (Vze h3)];rfl
def kk(keys:List Ub)(i:Nat):Nat:=(keys.getD i 0#64).toNat
def cmpI(a b:Nat):Int:=bif decide (a<b) then -1 else bif decide (b<a) then 1 else 0
theorem Vmw{keys:List Ub}{i:Nat}(h:i<keys.length):getI keys (i:Int)=some (keys.getD i 0#64):=by
 refine Vdr ?_;rw[Qh,Qd h];rfl
theorem Vdua(keys:List Ub)(i j:Nat)(hi:i<keys.length)(hj:j<keys.length):Ziv (i:Int) (j:Int) keys=some ((),cmpI (kk keys i) (kk keys j),()):=by
 unfold Ziv;rw[Vmw hi,Vmw hj];simp only[bindS];unfold Zdq Zfz cmpI kk;simp only[bindS,Uk,Qq,Uj];cases decide ((keys.getD i 0#64).toNat<(keys.getD j 0#64).toNat)
 ·cases decide ((keys.getD j 0#64).toNat<(keys.getD i 0#64).toNat)<;>rfl
 ·rfl
abbrev ci(l:List Nat):List Int:=l.map λn:Nat=>(n:Int)
theorem Vp2(l:List Nat):(ci l).length=l.length:=List.length_map _
theorem Vp3{l:List Nat}{i n:Nat}(h:l[i]? = some n):(ci l)[i]? = some (n:Int):=by
 rw[List.getElem?_map,h];rfl
theorem Vdva(n:Nat)(h:n<=12):∃k,Zig (Qu 64 (n:Int))=some ((),k,()):=by
 have:n=0\/n=1\/n=2\/n=3\/n=4\/n=5\/n=6\/n=7\/n=8\/n=9\/n=10\/n=11\/n=12:=by omega
 rcases this with rfl|rfl|rfl|rfl|rfl|rfl|rfl|rfl|rfl|rfl|rfl|rfl|rfl
 ·exact⟨0,by kernel_rfl⟩
 ·exact⟨1,by kernel_rfl⟩
 ·exact⟨2,by kernel_rfl⟩
 ·exact⟨2,by kernel_rfl⟩
 ·exact⟨3,by kernel_rfl⟩
 ·exact⟨3,by kernel_rfl⟩
 ·exact⟨3,by kernel_rfl⟩
 ·exact⟨3,by kernel_rfl⟩
 ·exact⟨4,by kernel_rfl⟩
 ·exact⟨4,by kernel_rfl⟩
 ·exact⟨4,by kernel_rfl⟩
 ·exact⟨4,by kernel_rfl⟩
 ·exact⟨4,by kernel_rfl⟩
def prO(keys:List Ub)(v:List (List Ja))(o:List Nat):List (List Ja):=o.map λi=>⟨1,keys.getD i 0#64,[]⟩::v.getD i []
def adj(keys:List Ub):List Nat->Bool
 |a::b::r=>decide (kk keys a=kk keys b)||adj keys (b::r)
 |_=>false
theorem Vf6a(keys:List Ub)(i j:Nat):decide (keys.getD i 0#64=keys.getD j 0#64)=decide (kk keys i=kk keys j):=by
 rw[decide_eq_decide];exact⟨λh=>by unfold kk;rw[h],λh=>Qs h⟩
def mapO(keys:List Ub)(v:List (List Ja))(o:List Nat):List Ja×Int:=
 bif adj keys o then ([],10) else bif !decide (fau v=0) then ([],fau v) else
 bif decide (valO (⟨6,Qu 64 (keys.length:Int),[]⟩::(prO keys v o).flatten)=0) then (⟨6,Qu 64 (keys.length:Int),[]⟩::(prO keys v o).flatten,0) else ([],valO (⟨6,Qu 64 (keys.length:Int),[]⟩::(prO keys v o).flatten))
theorem Vjp{v:List (List Ja)}(h:light1 v)(i:Nat):(v.getD i []).length<=600/\∀x∈v.getD i [],x.data.length<100000:=by
 rw[Qh];cases hi:v[i]? with
 |none=>simp
 |some l=>exact h l (Qt hi)
theorem Vmx{keys:List Ub}{v:List (List Ja)}(h:light1 v):∀o:List Nat,(prO keys v o).flatten.length<=o.length*601/\∀x∈(prO keys v o).flatten,x.data.length<100000
 |[]=>by simp[prO]
 |i::r=>by
  obtain⟨i1,i2⟩:=Vmx (keys:=keys) h r;obtain⟨l1,l2⟩:=Vjp h i;unfold prO at *;refine⟨?_,?_⟩
  ·simp only[Qab,Qp,Qc,Qf,Nat.add_mul];omega
  ·intro x hx;simp only[Qab,Qp,Qb,List.mem_cons,List.mem_append]at hx;rcases hx with rfl|hx|hx
   ·simp
   ·exact l2 x hx
   ·exact i2 x hx
theorem Vzf{v:List (List Ja)}{i:Nat}(h:i<v.length):getI v (i:Int)=some (v.getD i []):=by
 refine Vdr ?_;rw[Qh,Qd h];rfl
theorem Vwp:∀(l r:List Ja) (need m:Nat),skp l need=some l.length->skp (l++r) (need+m)=(skp r m).map (·+l.length)
 |[],r,need,m,h=>by
  cases need with
  |zero=>simp only[Q9,Nat.zero_add,List.length_nil];exact map0 _
  |succ k=>simp[skp]at h
 |x::t,r,need,m,h=>by
  cases need with
  |zero=>rw[Vk4]at h;simp at h
  |succ k=>
   simp only[skp,Qb,Nat.succ_add]at h |-;cases hb:(isN x.kind&&decide (512<x.number.toNat))
   ·rw[hb]at h;simp only[Uj]at h |-;have h2:skp t (k+addI x)=some t.length:=by
     cases hq:skp t (k+addI x) with
     |none=>rw[hq]at h;simp at h
     |some n=>rw[hq]at h;simp at h;rw[h]
    have ih:=Vwp t r (k+addI x) m h2;rw[show k+m+addI x=k+addI x+m by omega,ih,Vp0,Qf,Q3 1]
   ·rw[hb]at h;simp at h
theorem Vwq{l:List Ja}(h:valO l=0)(r:List Ja)(m:Nat):skp (l++r) (m+1)=(skp r m).map (·+l.length):=by
 have hw:=Vbta h;have h1:=W_skp 12 l 0 0 false [] (by rw[hw]) 0;rw[hw,Vk4]at h1;have h2:skp l 1=some l.length:=by rw[h1];simp
 rw[Q3 m 1];exact Vwp l r 1 m h2
theorem gIn{α:Type}{l:List α}{i:Nat}{x:α}(h:l[i]? = some x):getI l (i:Int)=some x:=by
 unfold getI;rw[show decide ((0:Int)<=(i:Int))=true by simp];exact h
theorem Va7{α:Type}{l:List α}{i:Nat}{x:α}(h:l[i]? = some x):i<l.length:=(List.getElem?_eq_some_iff.mp h).1
theorem Vb0{i:Nat}(h:i<9000000000000000000):Qa .i64 ((i:Int)+1)=((i+1:Nat):Int):=by
 rw[Va1 (by omega) (by omega)];rfl
theorem Vh9{α:Type}{l:List α}{i:Nat}{x:α}(h:l[i]? = some x):decide ((i:Int)<(l.length:Int))=true:=by
 have:=Va7 h;simp;omega
theorem Via{σ β α:Type}{f:σ->Option (σ⊕β)}{l:List α}{p:α->Bool}{mk:Nat->σ}{bad good:β}
  (h:∀(i:Nat) (x:α),l[i]? = some x->f (mk i)=some (bif p x then .inl (mk (i+1)) else .inr bad))
  (he:f (mk l.length)=some (.inr good)):∀(k n j:Nat),j+k=l.length->k<n->iter f n (mk j)=some (bif (l.drop j).all p then good else bad)
 |0,n+1,j,hj,hn=>by
  have:j=l.length:=by omega
  subst this;rw[Vac,he];simp
 |k+1,n+1,j,hj,hn=>by
  have hlt:j<l.length:=by omega
  have hx:l[j]? = some l[j]:=Qd hlt;rw[Vac,h j _ hx,Q0 hlt,List.all_cons];cases hp:p l[j]
  ·rfl
  ·show iter f n (mk (j+1))=_;rw[Via h he k n (j+1) (by omega) (by omega)];rfl
theorem Vk6{σ β α:Type}{f:σ->Option (σ⊕β)}(l:List α)(p:α->Bool)(mk:Nat->σ)(bad good:β)(hl:l.length<9000000000000000000)
  (h:∀(i:Nat) (x:α),l[i]? = some x->f (mk i)=some (bif p x then .inl (mk (i+1)) else .inr bad))
  (he:f (mk l.length)=some (.inr good)):iter f rounds (mk 0)=some (bif l.all p then good else bad):=by
 rw[Via h he l.length rounds 0 (by omega) (by rw[Vaa];omega)];rfl
theorem Vjq{σ β α τ:Type}{f:σ->Option (σ⊕β)}{l:List α}{g:Nat->τ->α->τ}{mk:Nat->τ->σ}{out:τ->β}{P:Nat->τ->Prop}
  (h:∀(i:Nat) (t:τ) (x:α),P i t->l[i]? = some x->f (mk i t)=some (.inl (mk (i+1) (g i t x)))/\P (i+1) (g i t x))
  (he:∀t,P l.length t->f (mk l.length t)=some (.inr (out t))):∀(k n j:Nat) (t:τ),P j t->j+k=l.length->k<n->∃t',P l.length t'/\iter f n (mk j t)=some (out t')
 |0,n+1,j,t,hp,hj,hn=>by
  have:j=l.length:=by omega
  subst this;exact⟨t,hp,by rw[Vac,he t hp];rfl⟩
 |k+1,n+1,j,t,hp,hj,hn=>by
  have hlt:j<l.length:=by omega
  obtain⟨e,hp2⟩:=h j t _ hp (Qd hlt);obtain⟨t',h1,h2⟩:=Vjq h he k n (j+1) _ hp2 (by omega) (by omega);exact⟨t',h1,by rw[Vac,e];exact h2⟩
theorem Vef{σ β α τ:Type}{f:σ->Option (σ⊕β)}(l:List α)(g:Nat->τ->α->τ)(mk:Nat->τ->σ)(out:τ->β)(P:Nat->τ->Prop)(hl:l.length<9000000000000000000)(t0:τ)(h0:P 0 t0)
  (h:∀(i:Nat) (t:τ) (x:α),P i t->l[i]? = some x->f (mk i t)=some (.inl (mk (i+1) (g i t x)))/\P (i+1) (g i t x))
  (he:∀t,P l.length t->f (mk l.length t)=some (.inr (out t))):∃t',P l.length t'/\iter f rounds (mk 0 t0)=some (out t'):=
 Vjq h he l.length rounds 0 t0 h0 (by omega) (by rw[Vaa];omega)
def smallI(n:Int):Bool:=decide (0<=n)&&decide (n<=255)
theorem Voa(l:List Int)(hl:l.length<9000000000000000000):Zgb l=some ((),(l.all smallI,())):=by
 unfold Zgb Zgb_L0 i3;rw[show ((0:Int))=((0:Nat):Int) from rfl,Vk6 l smallI (λi=>(l,(l.length:Int),(i:Int),())) (Qv (false,())) (Qx ()) hl]
 ·cases l.all smallI<;>rfl
 ·intro i x hx;have h1:=Va7 hx;simp only[Zgb_L0b,Vh9 hx,gIn hx,Q7,Ui,Vb0 (i:=i) (by omega),smallI];by_cases a:x<0
  ·simp[a,show ¬ (0:Int)<=x by omega]
  ·by_cases b:255<x
   ·simp[a,b,show ¬ x<=255 by omega]
   ·simp[a,b,show (0:Int)<=x by omega,show x<=255 by omega]
 ·simp[Zgb_L0b]
theorem Vib{σ β α τ:Type}{f:σ->Option (σ⊕β)}{l:List α}{g:τ->α->τ}{mk:Nat->τ->σ}{out:τ->β}
  (h:∀(i:Nat) (t:τ) (x:α),l[i]? = some x->f (mk i t)=some (.inl (mk (i+1) (g t x))))
  (he:∀t,f (mk l.length t)=some (.inr (out t))):∀(k n j:Nat) (t:τ),j+k=l.length->k<n->iter f n (mk j t)=some (out ((l.drop j).foldl g t))
 |0,n+1,j,t,hj,hn=>by
  have:j=l.length:=by omega
  subst this;rw[Vac,he t];simp
 |k+1,n+1,j,t,hj,hn=>by
  have hlt:j<l.length:=by omega
  rw[Vac,h j t _ (Qd hlt),Q0 hlt];exact Vib h he k n (j+1) _ (by omega) (by omega)
theorem Vre{σ β α τ:Type}{f:σ->Option (σ⊕β)}(l:List α)(g:τ->α->τ)(mk:Nat->τ->σ)(out:τ->β)(hl:l.length<9000000000000000000)(t0:τ)
  (h:∀(i:Nat) (t:τ) (x:α),l[i]? = some x->f (mk i t)=some (.inl (mk (i+1) (g t x))))
  (he:∀t,f (mk l.length t)=some (.inr (out t))):iter f rounds (mk 0 t0)=some (out (l.foldl g t0)):=
 Vib h he l.length rounds 0 t0 (by omega) (by rw[Vaa];omega)
theorem Vdwa(l:List Bool)(hl:l.length<=31):∃t:BitVec 32,Zil l=some ((),t,())/\∀k,t.getLsbD k=(decide (1<=k)&&l.getD (k-1) false):=by
 unfold Zil Zil_L0 i4;obtain⟨t,h1,h2⟩:=Vef (f:=λ(y:((BitVec 32)×(List (Bool))×Int×Int×Unit))=>Zil_L0b y.1 y.2.1 y.2.2.1 y.2.2.2.1) l (λi (t:BitVec 32) x=>bif x then t|||(1#32<<<(i+1)) else t)
  (λi t=>(t,l,(l.length:Int),(i:Int),())) (λt=>(t,()))
  (λi t=>∀k,t.getLsbD k=(decide (1<=k)&&decide (k<=i)&&l.getD (k-1) false)) (by omega) 0#32
  (by intro k;by_cases h:1<=k<;>simp[h];omega)
  (by
   intro i t x hp hx;have h1:=Va7 hx;refine⟨?_,?_⟩
   ·simp only[Zil_L0b,Vh9 hx,gIn hx,Q7,Ui,Vb0 (i:=i) (by omega)];cases x
    ·rfl
    ·rw[dT ((0:Int)<=((i+1:Nat):Int)) (Int.natCast_nonneg _)];rfl
   ·intro k;have hget:l.getD i false=x:=by simp[hx]
    cases x
    ·simp only[Uj,hp k];by_cases hk:k=i+1
     ·subst hk;simp[hx]
     ·by_cases h:k<=i
      ·simp[h,show k<=i+1 by omega]
      ·simp[h,show ¬ k<=i+1 by omega]
    ·simp only[Ui,BitVec.getLsbD_or,hp k];by_cases hk:k=i+1
     ·subst hk;simp[hx,Qz];omega
     ·have:(1#32<<<(i+1)).getLsbD k=false:=by
       rw[Qz,BitVec.getLsbD_one];by_cases h:k<i+1
       ·simp[h]
       ·simp;omega
      rw[this,Bool.or_false];by_cases h:k<=i
      ·simp[h,show k<=i+1 by omega]
      ·simp[h,show ¬ k<=i+1 by omega])
  (by intro t _;simp[Zil_L0b])
 refine⟨t,?_,?_⟩
 ·have e:=congrArg (λo=>o.bind (λ(z3:((BitVec 32)×Unit))=>some ((),(z3.1,())))) h2;exact e
 ·intro k;rw[h1 k];by_cases h:k<=l.length
  ·simp[h]
  ·have:l.getD (k-1) false=false:=by
    rw[Qh,List.getElem?_eq_none (by omega)];rfl
   rw[this];simp
structure Sane(r:Jj):Prop where
 c:r.jq.length<1000000
 e:r.jy.length<1000000
 n:r.name.length<1000000
 x:∀x∈r.jy,x.rP.length<1000000/\x.name.length<1000000
theorem Sane.at{r:Jj}(h:Sane r){i:Nat}{x:Ju}(hx:r.jy[i]? = some x):x.rP.length<1000000/\x.name.length<1000000:=
 h.x x (Qt hx)
theorem Vg1{l:Ua}(h:l.length<1000000):Zhf l=some ((),Lib.validD l,()):=by
 unfold Zhf;rw[dT (l.length<=9223372036854775807) (by omega)];rfl
theorem Vob(a b c:Int):Zdf a b c=some ((),decide (b<=a)&&decide (a<=c),()):=by
 unfold Zdf;cases decide (b<=a)<;>rfl
theorem Vdxa{α:Type}[DecidableEq α](l:List α):(!decide ((0:Int)<(l.length:Int)))=decide (l=[]):=by
 cases l with
 |nil=>rfl
 |cons a l=>rw[dT ((0:Int)<(((a::l).length:Nat):Int)) (by rw[Qf];omega)];rfl
end Go.Proofs.YtnfhkhlbdgbkjaaGreatDoor

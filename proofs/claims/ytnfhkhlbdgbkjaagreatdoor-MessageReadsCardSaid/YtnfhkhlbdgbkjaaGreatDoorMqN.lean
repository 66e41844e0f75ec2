/- The device's flash: what is total (begun). -/
import Derived.Test.YtnfhkhlbdgbkjaaGreatDoorMqJ
set_option linter.unusedVariables false
set_option linter.unusedSimpArgs false
set_option maxRecDepth 100000
namespace Go.Proofs.YtnfhkhlbdgbkjaaGreatDoor
open Go Go.Abs
open _root_.List renaming getElem?_eq_getElem → Qa, length_cons → Qb, length_nil → Qc, length_append → Qg, getElem_mem → Qh, length_drop → Qk, take → Qm, length_take → Qo, mem_singleton → Qp, drop → Qq, length_set → Qt, take_succ_eq_append_getElem → Qw, take_of_length_le → Qy, take_append_drop → Q1
open Go.IntKind renaming wrap → Qd, bits → Qe
open _root_.BitVec renaming ofInt → Qf, setWidth → Qj, ofInt_natCast → Qz, toNat_ofNat → Q2
open _root_.UInt8 renaming ofBitVec → Qi
open _root_.Bool renaming not_true → Ql, not_false → Qu, and_self → Qx, eq_iff_iff → Q4
open _root_.Int renaming toNat_natCast → Qn, mul_tdiv_cancel → Q3
open _root_.Sum renaming inr → Qr, inl → Qs, elim_inr → Q0
open _root_.Nat renaming mul_le_mul → Qv
structure FOk(f:Jk):Prop where
 lo:512<=f.ja
 hi:f.ja<=8192
 ln:(f.bytes.length:Int)=2*f.ja
theorem Vab{n w:Nat}(h1:n<=1000000)(h2:w<=100):small n w=true:=by
 unfold small;have:=Qv (show 2*n+192<=2000192 by omega) h2;simp;omega
theorem Vba(f:Jk)(h:FOk f):Zak f=some ((),0,()):=by
 have h1:=h.lo;have h2:=h.hi;have h3:=h.ln;unfold Zak;rw[h3,Un (by omega),Un (by omega),Un (by omega),Un (by omega)];simp only[Uj];rw[show Int.tmod (2*f.ja) f.ja=0 from by rw[Int.mul_tmod_left],show Int.tdiv (2*f.ja) f.ja=2 from Q3 _ (by omega)];rfl
def w8(a:Ub):Ua:=[Qi (Qj 8 (a>>>56)),Qi (Qj 8 (a>>>48)),Qi (Qj 8 (a>>>40)),Qi (Qj 8 (a>>>32)),Qi (Qj 8 (a>>>24)),Qi (Qj 8 (a>>>16)),Qi (Qj 8 (a>>>8)),Qi (Qj 8 (a>>>0))]
theorem rW1(a0:Ub):passkeyref1_Words [a0]=some ((),([a0]:List Ub).flatMap w8,()):=by kernel_rfl
theorem rW2(a0 a1:Ub):passkeyref1_Words [a0,a1]=some ((),([a0,a1]:List Ub).flatMap w8,()):=by kernel_rfl
theorem rW3(a0 a1 a2:Ub):passkeyref1_Words [a0,a1,a2]=some ((),([a0,a1,a2]:List Ub).flatMap w8,()):=by kernel_rfl
theorem rW4(a0 a1 a2 a3:Ub):passkeyref1_Words [a0,a1,a2,a3]=some ((),([a0,a1,a2,a3]:List Ub).flatMap w8,()):=by kernel_rfl
theorem Vc9(l:Ua):Ok (Zgv l) λ_=>True:=by
 unfold Zgv Zgv_L0 Yi3;refine Ok.bm (Ok.iter (Q:=λ_=>True) (λs=>∃(k:Nat) (y:Ub),k<=8/\s=(l,y,(k:Int),())) (λs=>(8-s.2.2.1).toNat) ⟨0,_,by omega,rfl⟩ (by rw[Vaa];dsimp only;omega) ?_) λ_ _=>Ok.some trivial;rintro s ⟨k,y,hk,rfl⟩;dsimp only;unfold Zgv_L0b;refine Ok.cond (λhc=>?_) (λhc=>Ok.some trivial);have hc:=Uo hc;refine Ok.cond (λhd=>?_) (λhd=>Ok.some trivial);have hd:=Uo hd;rw[gIn (Qa (by omega:k<l.length)),bindU,wI ((k:Int)+1) (by omega)];refine Ok.some ⟨⟨k+1,_,by omega,rfl⟩,?_⟩;dsimp only;omega
theorem Vx0(g:Int):Ok (Zey g) λr=>r.2.1.length=16:=by
 unfold Zey;rw[rW1,bindU];rw[rHash _ _ (by simp[w8]),bindU];rw[rW2,bindU];exact Ok.some (by simp[w8])
theorem Vf3(f:Jk)(h:FOk f)(p:Int)(h0:0<=p)(h1:p<=1):Ok (Zbm f p) λr=>0<=r.2.1/\r.2.1<=1099511627776:=by
 have a1:=h.lo;have a2:=h.hi;have a3:=h.ln;unfold Zbm;have hp:0<=p*f.ja/\p*f.ja<=f.ja:=by
  rcases (by omega:p=0\/p=1) with rfl|rfl<;>omega
 generalize p*f.ja=x at hp;rw[wI (x) (by omega),wI (x+16) (by omega)];dsimp only;rw[Um (by omega:0<=x+16),Um (by omega:x+16<=(f.bytes.length:Int)),Um (by omega:0<=x),Um (by omega:x<=((x+16).toNat:Int))];simp only[Qx,Ui];have hl:(Qq x.toNat (Qm (x+16).toNat f.bytes)).length=16:=by
  rw[Qk,Qo];omega
 rw[Um (by omega),Ui];refine Ok.bm (Vc9 _) ?_;rintro⟨_,w,_⟩ _;dsimp only;have hz:Ok (some ((),((0:Int),())):Option (Unit×(Int×Unit))) λr=>0<=r.2.1/\r.2.1<=1099511627776:=Ok.some ⟨by dsimp only;omega,by dsimp only;omega⟩;refine Ok.cond (λ_=>hz) λc1=>Ok.cond (λ_=>hz) λc2=>?_;have c2:=Up c2;have hw:w.toNat<=1099511627776:=by
  rw[show (1099511627776#64).toNat=1099511627776 from rfl]at c2;omega
 refine Ok.bm (Vx0 _) ?_;rintro⟨_,hd,_⟩ _;dsimp only;refine Ok.cond (λ_=>hz) λ_=>Ok.some ?_;dsimp only;rw[Vaw (by omega) (by omega)];omega
theorem frame_ok(g:Int)(l:Ua)(hl:l.length<=100000):Ok (Zfx g l) λr=>r.2.1.length=l.length+10:=by
 unfold Zfx;dsimp only;rw[Vab (by simp;omega) (by omega),Ui,rMac _ _ _ (by omega),bindU];rw[rW1,bindU];rw[Vab (by simp[w8];omega) (by omega),Ui];exact Ok.some (by simp[w8])
theorem Vfha(at_ len:Int)(d:Ua)(b:Int)(hb:b<0)(hb2:-9223372036854775808<=b)(ps:Int)(l0:Ua)(z:Jk)(h0:0<=at_)(h1:at_+len<=(l0.length:Int))(h2:(l0.length:Int)<=100000)(hd:d=[]\/len<=(d.length:Int)) :
  Ok (Zex_L0 (at_,len,d,b,(ps,l0,()),(z,()),(0:Int),())) λq=>∃l:Ua,l.length=l0.length/\q=Qr (b,(ps,l,()),(z,()),()):=by
 unfold Zex_L0 Yi7;refine Ok.iter (λs=>∃(k:Nat) (l:Ua),l.length=l0.length/\s=(at_,len,d,b,(ps,l,()),(z,()),(k:Int),())/\((k:Int)<=len\/k=0)) (λs=>(len-s.2.2.2.2.2.2.1).toNat) ⟨0,l0,rfl,rfl,.inr rfl⟩ (by rw[Vaa];dsimp only;omega) ?_;rintro s ⟨k,l,hl,rfl,hk⟩;dsimp only;unfold Zex_L0b;refine Ok.cond (λhc=>?_) (λhc=>Ok.some ⟨l,hl,rfl⟩);have hc:=Uo hc;rw[Un (by omega:¬ b=0),Uj];rw[wI (at_+(k:Int)) (by omega),wI ((k:Int)+1) (by omega)];dsimp only;have hlt:(at_+(k:Int)).toNat<l.length:=by omega
 rw[Um (by omega:0<=at_+(k:Int)),Um (by omega:at_+(k:Int)<(l.length:Int)),show (true&&true)=true from rfl,Qa hlt];simp only[Ui,bindU];refine Ok.cond (λhe=>?_) (λhe=>?_)
 ·rw[Un (by omega:¬ 0<b),Uj];refine Ok.some ⟨⟨k+1,_,by rw[Qt];exact hl,rfl,by omega⟩,?_⟩;dsimp only;omega
 ·have he:=Up he;have hdl:len<=(d.length:Int):=by
   rcases hd with rfl|hd
   ·simp at he
   ·exact hd
  rw[gIn (Qa (by omega:k<d.length)),bindU,Un (by omega:¬ 0<b),Uj];refine Ok.some ⟨⟨k+1,_,by rw[Qt];exact hl,rfl,by omega⟩,?_⟩;dsimp only;omega
def Chg(f:Jk)(b:Int)(r:Unit×(Jk×Int×Int×Unit)):Prop:=FOk r.2.1/\r.2.1.ja=f.ja/\r.2.2.1=b/\r.2.2.2.1=0
theorem Vnm(f:Jk)(h:FOk f)(at_ len:Int)(d:Ua)(b:Int)(hb:b<0)(hb2:-9223372036854775808<=b)(h0:0<=at_)(h1:at_+len<=(f.bytes.length:Int))(hd:d=[]\/len<=(d.length:Int)):Ok (Zex f at_ len d b) (Chg f b):=by
 have a1:=h.lo;have a2:=h.hi;have a3:=h.ln;unfold Zex;rw[Vab (by omega) (by omega),Ui];refine Ok.bm (Vfha at_ len d b hb hb2 f.ja f.bytes _ h0 h1 (by omega) hd) ?_;rintro q ⟨l,hl,rfl⟩;exact Ok.some ⟨⟨a1,a2,by dsimp only;omega⟩,rfl,rfl,rfl⟩
theorem Vls(f:Jk)(h:FOk f)(p off len:Int)(h0:0<=p)(h1:p<=1)(h2:0<=off)(h3:0<=len)(h4:off+len<=f.ja):Zhh f p off len=some ((),0,()):=by
 have a1:=h.lo;have a2:=h.hi;have a3:=h.ln;unfold Zhh;rw[Vba f h,bindU];dsimp only;rw[a3,show Int.tdiv (2*f.ja) f.ja=2 from Q3 _ (by omega),wI (2) (by omega),wI (f.ja-off) (by omega),Un (by omega:¬ p<0),Un (by omega:¬ f.ja=0),Un (by omega:¬ 2<=p),Un (by omega:¬ off<0),Un (by omega:¬ len<0),Un (by omega:¬ f.ja<off),Un (by omega:¬ f.ja-off<len)];rfl
theorem Vava(f:Jk)(h:FOk f)(p b:Int)(hb:b<0)(hb2:-9223372036854775808<=b)(h0:0<=p)(h1:p<=1):Ok (Zfv f p b) (Chg f b):=by
 have a1:=h.lo;have a2:=h.hi;have a3:=h.ln;have hp:0<=p*f.ja/\p*f.ja<=f.ja:=by
  rcases (by omega:p=0\/p=1) with rfl|rfl<;>omega
 unfold Zfv;rw[Vls f h p 0 0 h0 h1 (by omega) (by omega) (by omega),bindU];simp only[Uk,Ql,Uj];rw[Vaw (by omega) (by omega)];refine Ok.bm (Vnm f h _ _ [] b hb hb2 hp.1 (by omega) (.inl rfl)) ?_;rintro⟨_,g,c,e,_⟩ hg;exact Ok.some hg
theorem Vew(f:Jk)(h:FOk f)(p off:Int)(d:Ua)(b:Int)(hb:b<0)(hb2:-9223372036854775808<=b)(h0:0<=p)(h1:p<=1)(h2:0<=off)(h4:off+(d.length:Int)<=f.ja):Ok (Zdo f p off d b) (Chg f b):=by
 have a1:=h.lo;have a2:=h.hi;have a3:=h.ln;have hp:0<=p*f.ja/\p*f.ja<=f.ja:=by
  rcases (by omega:p=0\/p=1) with rfl|rfl<;>omega
 unfold Zdo;rw[Vls f h p off _ h0 h1 h2 (by omega) h4,bindU];simp only[Uk,Ql,Uj];rw[wI (p*f.ja) (by omega),Vaw (by omega) (by omega)];refine Ok.bm (Vnm f h _ _ d b hb hb2 (by omega) (by omega) (.inr (Int.le_refl _))) ?_;rintro⟨_,g,c,e,_⟩ hg;exact Ok.some hg
def Recs(l:List Ua):Prop:=∀x∈l,1<=x.length/\x.length<=256
theorem scanL(g:Int)(d:Ua)(ps:Int)(h1:512<=ps)(h2:ps<=8192)(hd:(d.length:Int)=ps):Ok (Zhj_L0 (g,d,[],(16:Int),())) λz=>Recs z.1/\(z.1.length:Int)*11<=z.2.1/\16<=z.2.1/\z.2.1<=ps:=by
 unfold Zhj_L0 Yi4;refine Ok.iter (λs=>∃(l:List Ua) (k:Nat),Recs l/\l.length*11<=k/\16<=k/\(k:Int)<=ps/\s=(g,d,l,(k:Int),())) (λs=>(ps-s.2.2.2.1).toNat) ⟨[],16,(λx hx=>by cases hx),by simp,by omega,by omega,rfl⟩ (by rw[Vaa];dsimp only;omega) ?_;rintro s ⟨l,k,hr,hl,hk,hp,rfl⟩;dsimp only;have stop:Recs l/\(l.length:Int)*11<=(k:Int)/\16<=(k:Int)/\(k:Int)<=ps:=⟨hr,by omega,by omega,by omega⟩;unfold Zhj_L0b;rw[wI ((k:Int)+10) (by omega),wI ((k:Int)+1) (by omega),wI ((k:Int)+2) (by omega)];refine Ok.cond (λhc=>?_) (λhc=>Ok.some stop);have hc:=Uo hc;rw[gIn (Qa (by omega:k<d.length)),bindU];rw[show (k:Int)+1=((k+1:Nat):Int) by omega,gIn (Qa (by omega:k+1<d.length)),bindU];generalize Qd .i64 ((Qf (Qe .i64) _|||_).toNat:Int)=n;dsimp only;refine Ok.cond (λ_=>Ok.some stop) λc1=>Ok.cond (λ_=>Ok.some stop) λc2=>?_;have c1:=Up c1;have c2:=Up c2;rw[wI ((k:Int)+10+n) (by omega),wI ((k:Int)+2+n) (by omega)];refine Ok.cond (λ_=>Ok.some stop) λc3=>?_;have c3:=Up c3;rw[Um (by omega:0<=(k:Int)+2+n),Um (by omega:(k:Int)+2+n<=(d.length:Int)),Um (by omega:0<=(k:Int)+2),Um (by omega:(k:Int)+2<=(((k:Int)+2+n).toNat:Int)),Um (by omega:0<=(k:Int)+10+n),Um (by omega:(k:Int)+10+n<=(d.length:Int)),Um (by omega:0<=(k:Int)),Um (by omega:(k:Int)<=(((k:Int)+10+n).toNat:Int)),show (true&&true)=true from rfl];simp only[Ui];have hlen:(Qq ((k:Int)+2).toNat (Qm ((k:Int)+2+n).toNat d)).length=n.toNat:=by
  rw[Qk,Qo];omega
 generalize Qq ((k:Int)+2).toNat (Qm ((k:Int)+2+n).toNat d)=v at hlen;rw[Vab (by omega) (by omega),Ui];refine Ok.bm (frame_ok g v (by omega)) ?_;rintro⟨_,fr,_⟩ _;dsimp only;refine Ok.cond (λ_=>Ok.some stop) λ_=>?_;rw[Vab (by simp;omega) (by omega),Ui];refine Ok.some ⟨⟨l++[v],((k:Int)+10+n).toNat,λx hx=>?_,by simp;omega,by omega,by omega,?_⟩,?_⟩
 ·rcases List.mem_append.1 hx with hx|hx
  ·exact hr x hx
  ·rw[Qp]at hx;subst hx;omega
 ·rw[Int.toNat_of_nonneg (by omega)]
 ·dsimp only;omega
theorem Vx1(f:Jk)(h:FOk f)(p g:Int)(h0:0<=p)(h1:p<=1):Ok (Zhj f p g) λr=>Recs r.2.1/\(r.2.1.length:Int)*11<=r.2.2.1/\16<=r.2.2.1/\r.2.2.1<=f.ja:=by
 have a1:=h.lo;have a2:=h.hi;have a3:=h.ln;have hp:0<=p*f.ja/\p*f.ja<=f.ja/\(p+1)*f.ja=p*f.ja+f.ja:=by
  rcases (by omega:p=0\/p=1) with rfl|rfl<;>omega
 unfold Zhj;rw[wI (p+1) (by omega),hp.2.2];generalize p*f.ja=x at hp;rw[wI (x+f.ja) (by omega),wI (x) (by omega)];dsimp only;rw[Um (by omega:0<=x+f.ja),Um (by omega:x+f.ja<=(f.bytes.length:Int)),Um (by omega:0<=x),Um (by omega:x<=((x+f.ja).toNat:Int))];simp only[Qx,Ui];refine Ok.bm (scanL g _ f.ja a1 a2 (by rw[Qk,Qo];omega)) ?_;rintro⟨l,t,_⟩ hz;exact Ok.some hz
structure JOk(j:Jh):Prop where
 fl:FOk j.jf
 p0:0<=j.jak
 p1:j.jak<=1
 g0:0<=j.jr
 g1:j.jr<=1099511627776
 t0:16<=j.tail
 t1:j.tail<=j.jf.ja
theorem Vhta(f:Jk)(h:FOk f)(q:Jh×Unit)(p g t:Int)(b:Bool)(hp0:0<=p)(hp1:p<=1)(i:Nat)(hi:(i:Int)<=f.ja):Ok (Zfw_L0 ((f,()),q,(f.ja,f.bytes,p,g,t,b,()),(i:Int),())) λz=>∃b':Bool,z=(q,(f.ja,f.bytes,p,g,t,b',()),()):=by
 have a1:=h.lo;have a2:=h.hi;have a3:=h.ln;have hp:0<=p*f.ja/\p*f.ja<=f.ja:=by
  rcases (by omega:p=0\/p=1) with rfl|rfl<;>omega
 unfold Zfw_L0 Yi4;refine Ok.iter (λs=>∃(k:Nat) (b':Bool),(k:Int)<=f.ja/\s=((f,()),q,(f.ja,f.bytes,p,g,t,b',()),(k:Int),())) (λs=>(f.ja-s.2.2.2.1).toNat) ⟨i,b,hi,rfl⟩ (by rw[Vaa];dsimp only;omega) ?_;rintro s ⟨k,b',hk,rfl⟩;dsimp only;unfold Zfw_L0b;dsimp only;refine Ok.cond (λhc=>?_) (λhc=>Ok.some ⟨b',rfl⟩);have hc:=Uo hc;rw[wI ((k:Int)+1) (by omega)];refine Ok.cond (λhb=>?_) (λhb=>?_)
 ·refine Ok.some ⟨⟨k+1,true,by omega,rfl⟩,?_⟩;dsimp only;omega
 ·generalize p*f.ja=x at hp;rw[wI (x) (by omega),wI (x+(k:Int)) (by omega),show x+(k:Int)=(((x+(k:Int)).toNat:Nat):Int) by omega,gIn (Qa (by omega:(x+(k:Int)).toNat<f.bytes.length)),bindU];refine Ok.some ⟨⟨k+1,_,by omega,rfl⟩,?_⟩;dsimp only;omega
theorem Vawa(f:Jk)(h:FOk f):Ok (Zfw f) λr=>(r.2.2.1=0/\JOk r.2.1/\r.2.1.jf=f)\/(r.2.2.1=11/\Zbm f 0=some ((),0,())):=by
 have a1:=h.lo;have a2:=h.hi;have a3:=h.ln;have fin:∀p g:Int,0<=p->p<=1->0<=g->g<=1099511627776->Ok ((Zhj f p g).bind λr5=>((Zfw_L0 ((f,()),((⟨⟨(0:Int),[]⟩,(0:Int),(0:Int),(0:Int),false⟩:Jh),()),(f.ja,f.bytes,p,g,r5.2.2.1,false,()),r5.2.2.1,())).bind (λ(z8:((Jh×Unit)×(Int×Ua×Int×Int×Int×Bool×Unit)×Unit))=>(some ((),((⟨⟨z8.2.1.1,z8.2.1.2.1⟩,z8.2.1.2.2.1,z8.2.1.2.2.2.1,z8.2.1.2.2.2.2.1,z8.2.1.2.2.2.2.2.1⟩:Jh),(0:Int),())):Option (Unit×(Jh×Int×Unit)))))) λr=>(r.2.2.1=0/\JOk r.2.1/\r.2.1.jf=f)\/(r.2.2.1=11/\Zbm f 0=some ((),0,())):=by
  intro p g p0 p1 g0 g1;refine Ok.bm (Vx1 f h p g p0 p1) ?_;rintro⟨_,l,t,_⟩ ⟨_,_,t0,t1⟩;dsimp only at *;obtain⟨n,rfl⟩:∃n:Nat,t=(n:Int):=⟨t.toNat,by omega⟩;refine Ok.bm (Vhta f h _ p g _ false p0 p1 n t1) ?_;rintro z ⟨b,rfl⟩;exact Ok.some (.inl ⟨rfl,⟨h,p0,p1,g0,g1,t0,t1⟩,rfl⟩)
 unfold Zfw;rw[Vba f h,bindU];simp only[Uk,Ql,Uj];rw[wI (2*f.ja) (by omega),Un (by omega),Uj];obtain⟨⟨_,g2,_⟩,e2,hg2⟩:=Vf3 f h 0 (by omega) (by omega);rw[e2,bindU];rw[e2]at fin
 refine Ok.bm (Vf3 f h 1 (by omega) (by omega)) ?_;rintro⟨_,g3,_⟩ hg3;dsimp only at *;have bd:small f.bytes.length 1=true:=Vab (by omega) (by omega);refine Ok.cond (λhz=>Ok.cond (λ_=>Ok.some (.inr ⟨rfl,by rw[Uo hz]⟩)) λ_=>?_) λ_=>?_;all_goals
  rw[bd,Ui];refine Ok.bind ?_;refine Ok.cond (λ_=>Ok.some ?_) λ_=>Ok.some ?_
  ·exact fin 1 g3 (by omega) (by omega) hg3.1 hg3.2
  ·exact fin 0 g2 (by omega) (by omega) hg2.1 hg2.2
def updB(d:Ua)(x:UInt8)(i:Nat):UInt8:=bif decide ((d.length:Int)=0) then 255 else Qi (x.toBitVec&&&(d.getD i 0).toBitVec)
def Wr(at_:Nat)(d l0 l:Ua)(k:Nat):Prop:=∀j,l[j]? = if at_<=j/\j<at_+k then (l0[j]?).map (λx=>updB d x (j-at_)) else l0[j]?
theorem Wr.step{at_:Nat}{d l0 l:Ua}{k:Nat}(h:Wr at_ d l0 l k)(hl:l.length=l0.length)(hk:at_+k<l.length):Wr at_ d l0 (l.set (at_+k) (updB d l[at_+k] k)) (k+1):=by
 intro j;rw[List.getElem?_set];have hx:l0[at_+k]? = some l[at_+k]:=by
  have:=h (at_+k);rw[if_neg (by omega),Qa hk]at this;exact this.symm
 by_cases e:at_+k=j
 ·subst e;rw[if_pos rfl,if_pos hk,if_pos (by omega),hx,show at_+k-at_=k by omega];rfl
 ·rw[if_neg e,h j];by_cases e2:at_<=j/\j<at_+k
  ·rw[if_pos e2,if_pos (by omega)]
  ·rw[if_neg e2,if_neg (by omega)]
theorem Vfia(at_:Nat)(len:Int)(d:Ua)(b:Int)(hb:b<0)(hb2:-9223372036854775808<=b)(ps:Int)(l0:Ua)(z:Jk)(hn:0<=len)(h1:(at_:Int)+len<=(l0.length:Int))(h2:(l0.length:Int)<=100000)(hd:d=[]\/len<=(d.length:Int)) :
  Ok (Zex_L0 ((at_:Int),len,d,b,(ps,l0,()),(z,()),(0:Int),())) λq=>∃l:Ua,l.length=l0.length/\Wr at_ d l0 l len.toNat/\q=Qr (b,(ps,l,()),(z,()),()):=by
 unfold Zex_L0 Yi7;refine Ok.iter (λs=>∃(k:Nat) (l:Ua),l.length=l0.length/\Wr at_ d l0 l k/\s=((at_:Int),len,d,b,(ps,l,()),(z,()),(k:Int),())/\(k:Int)<=len) (λs=>(len-s.2.2.2.2.2.2.1).toNat) ⟨0,l0,rfl,λj=>by rw[if_neg (by omega)],rfl,hn⟩ (by rw[Vaa];dsimp only;omega) ?_;rintro s ⟨k,l,hl,hw,rfl,hk⟩;dsimp only;unfold Zex_L0b;refine Ok.cond (λhc=>?_) (λhc=>Ok.some ⟨l,hl,by have:=Up hc;rw[show len.toNat=k by omega];exact hw,rfl⟩);have hc:=Uo hc;rw[Un (by omega:¬ b=0),Uj];rw[wI ((at_:Int)+(k:Int)) (by omega),wI ((k:Int)+1) (by omega)];dsimp only;have hlt:at_+k<l.length:=by omega
 have st:=hw.step hl hlt;rw[Um (by omega:0<=(at_:Int)+(k:Int)),Um (by omega:(at_:Int)+(k:Int)<(l.length:Int)),show (true&&true)=true from rfl,show ((at_:Int)+(k:Int)).toNat=at_+k by omega,Qa hlt];simp only[Ui,bindU];unfold updB at st;refine Ok.cond (λhe=>?_) (λhe=>?_)
 ·rw[Un (by omega:¬ 0<b),Uj];rw[he,Ui]at st;refine Ok.some ⟨⟨k+1,_,by rw[Qt];exact hl,st,rfl,by omega⟩,?_⟩;dsimp only;omega
 ·rw[he,Uj]at st;have he:=Up he;have hdl:len<=(d.length:Int):=by
   rcases hd with rfl|hd
   ·simp at he
   ·exact hd
  have hkd:k<d.length:=by omega
  rw[gIn (Qa hkd),bindU,Un (by omega:¬ 0<b),Uj];rw[show d.getD k 0=d[k] from by rw[List.getD_eq_getElem?_getD,Qa hkd];rfl]at st;refine Ok.some ⟨⟨k+1,_,by rw[Qt];exact hl,st,rfl,by omega⟩,?_⟩;dsimp only;omega
theorem Vj7(f:Jk)(h:FOk f)(at_:Nat)(len:Int)(d:Ua)(b:Int)(hb:b<0)(hb2:-9223372036854775808<=b)(hn:0<=len)(h1:(at_:Int)+len<=(f.bytes.length:Int))(hd:d=[]\/len<=(d.length:Int)):Ok (Zex f (at_:Int) len d b) λr=>Chg f b r/\Wr at_ d f.bytes r.2.1.bytes len.toNat:=by
 have a1:=h.lo;have a2:=h.hi;have a3:=h.ln;unfold Zex;rw[Vab (by omega) (by omega),Ui];refine Ok.bm (Vfia at_ len d b hb hb2 f.ja f.bytes _ hn h1 (by omega) hd) ?_;rintro q ⟨l,hl,hw,rfl⟩;exact Ok.some ⟨⟨⟨a1,a2,by dsimp only;omega⟩,rfl,rfl,rfl⟩,hw⟩
theorem Vc4a(f:Jk)(h:FOk f)(p:Nat)(b:Int)(hb:b<0)(hb2:-9223372036854775808<=b)(h1:p<=1):Ok (Zfv f (p:Int) b) λr=>Chg f b r/\Wr (p*f.ja.toNat) [] f.bytes r.2.1.bytes f.ja.toNat:=by
 have a1:=h.lo;have a2:=h.hi;have a3:=h.ln;obtain⟨m,hm⟩:∃m:Nat,f.ja=(m:Int):=⟨f.ja.toNat,by omega⟩;have hp:p*m<=m:=by
  rcases (by omega:p=0\/p=1) with rfl|rfl<;>omega
 unfold Zfv;rw[Vls f h p 0 0 (by omega) (by omega) (by omega) (by omega) (by omega),bindU];simp only[Uk,Ql,Uj];rw[hm,show (p:Int)*(m:Int)=((p*m:Nat):Int) by rw[Int.natCast_mul],Vaw (by omega) (by omega),Qn];refine Ok.bm (Vj7 f h (p*m) (m:Int) [] b hb hb2 (by omega) (by omega) (.inl rfl)) ?_;rintro⟨_,g,c,e,_⟩ hg;rw[Qn]at hg;exact Ok.some hg
theorem Vaxa(f:Jk)(h:FOk f)(d:Ua)(b:Int)(hb:b<0)(hb2:-9223372036854775808<=b)(h4:(d.length:Int)<=f.ja):Ok (Zdo f 0 0 d b) λr=>Chg f b r/\Wr 0 d f.bytes r.2.1.bytes d.length:=by
 have a1:=h.lo;have a2:=h.hi;have a3:=h.ln;unfold Zdo;rw[Vls f h 0 0 _ (by omega) (by omega) (by omega) (by omega) (by omega),bindU];simp only[Uk,Ql,Uj];rw[Int.zero_mul,show Qd .i64 (Qd .i64 0+0)=((0:Nat):Int) from rfl];refine Ok.bm (Vj7 f h 0 (d.length:Int) d b hb hb2 (by omega) (by omega) (.inr (Int.le_refl _))) ?_;rintro⟨_,g,c,e,_⟩ hg;rw[Qn]at hg;exact Ok.some hg
def hdrF(g:Int):Ua:=[Qf 64 g,hsh 7 ([Qf 64 g].flatMap w8)>>>1].flatMap w8
theorem Viu(g:Int):Zey g=some ((),hdrF g,()):=by
 unfold Zey;rw[rW1,bindU];rw[rHash _ _ (by simp[w8]),bindU];rw[rW2,bindU];rfl
theorem Vav(g:Int):(hdrF g).length=16:=by simp[hdrF,w8]
theorem Vfja(f:Jk)(h:FOk f)(e:Qm 16 f.bytes=hdrF 1):Zbm f 0=some ((),1,()):=by
 have a1:=h.lo;have a2:=h.hi;have a3:=h.ln;unfold Zbm;rw[Int.zero_mul,show Qd .i64 (Qd .i64 0+16)=16 from rfl,show Qd .i64 0=0 from rfl];dsimp only;rw[Um (by omega:(0:Int)<=16),Um (by omega:(16:Int)<=(f.bytes.length:Int)),Um (by omega:(0:Int)<=0),Um (by decide:(0:Int)<=((16:Int).toNat:Int)),show (16:Int).toNat=16 from rfl,show (0:Int).toNat=0 from rfl,List.drop_zero,e,Vav];rw[show Zgv (Qm 8 (hdrF 1))=some ((),1#64,()) from by
  rw[show Qm 8 (hdrF 1)=w8 1#64 from rfl];kernel_rfl]
 simp only[Qx,Ui,bindU];rw[show Qd .i64 ((1#64).toNat:Int)=1 from rfl,Viu,bindU];simp
theorem Vhua(x:UInt8):Qi ((255:UInt8).toBitVec&&&x.toBitVec)=x:=by
 apply UInt8.eq_of_toBitVec_eq;show (255#8&&&x.toBitVec)=x.toBitVec;rw[show (255#8:BitVec 8)=BitVec.allOnes 8 from rfl,BitVec.allOnes_and]
theorem Vnn(a b:Jk):Zcb a b=some ((),decide (a=b),()):=by
 have e:decide (a=b)=(decide (a.ja=b.ja)&&decide (a.bytes=b.bytes)):=by
  rw[Q4];cases a;cases b;simp
 unfold Zcb;rw[e];cases decide (a.ja=b.ja)<;>rfl
theorem Ve4(a b:Jh):Zbd a b=some ((),decide (a=b),()):=by
 have e:decide (a=b)=(decide (a.jf=b.jf)&&(decide (a.jak=b.jak)&&(decide (a.jr=b.jr)&&(decide (a.tail=b.tail)&&(a.jat==b.jat))))):=by
  rw[Q4];cases a;cases b;simp
 unfold Zbd;rw[Vnn,bindU,e];dsimp only;cases decide (a.jf=b.jf)
 ·rfl
 cases decide (a.jak=b.jak)
 ·rfl
 cases decide (a.jr=b.jr)
 ·rfl
 cases decide (a.tail=b.tail)<;>rfl
theorem Vdg(j:Jh)(h:FOk j.jf):Ok (Zdn j) λr=>r.2.1=true->JOk j:=by
 unfold Zdn;refine Ok.bm (Vawa j.jf h) ?_;rintro⟨_,k,e,_⟩ hk;dsimp only at *;refine Ok.cond (λhc=>?_) (λ_=>Ok.some λh=>by cases h);have hc:=Uo hc;rw[Ve4,bindU];refine Ok.some λhs=>?_;have hs:j=k:=Uo hs;rcases hk with⟨_,hk,_⟩|⟨h1,_⟩
 ·rw[hs];exact hk
 ·omega
theorem Vrz(j:Jh)(h:FOk j.jf):Ok (Zdp j) λr=>Recs r.2.1/\r.2.1.length<=800:=by
 have a2:=h.hi;unfold Zdp;refine Ok.bm (Vdg j h) ?_;rintro⟨_,g,_⟩ hg;dsimp only at *;refine Ok.cond (λ_=>Ok.some ⟨(λx hx=>by cases hx),by simp⟩) λhc=>?_;have hj:=hg (by revert hc;cases g<;>simp);refine Ok.bm (Vx1 j.jf h j.jak j.jr hj.p0 hj.p1) ?_;rintro⟨_,l,t,_⟩ ⟨h1,h2,h3,h4⟩;dsimp only at *;exact Ok.some ⟨h1,by dsimp only;omega⟩
theorem word2(x y:UInt8):0<=Qd .i64 ((Qf (Qe .i64) (Qd .i64 ((x.toBitVec.toNat:Int)*2^(min 8 (Qe .i64))))|||Qf (Qe .i64) (y.toBitVec.toNat:Int)).toNat:Int)/\Qd .i64 ((Qf (Qe .i64) (Qd .i64 ((x.toBitVec.toNat:Int)*2^(min 8 (Qe .i64))))|||Qf (Qe .i64) (y.toBitVec.toNat:Int)).toNat:Int)<=65535:=by
 have hx:x.toBitVec.toNat<256:=x.toBitVec.isLt;have hy:y.toBitVec.toNat<256:=y.toBitVec.isLt;generalize x.toBitVec.toNat=a at hx;generalize y.toBitVec.toNat=c at hy;have e:(2:Int)^(min 8 (Qe .i64))=256:=rfl;rw[e,wI ((a:Int)*256) (by omega)];have h1:(Qf (Qe .i64) ((a:Int)*256)).toNat=a*256:=by
  show (Qf 64 ((a:Int)*256)).toNat=_;rw[show (a:Int)*256=((a*256:Nat):Int) by omega,Qz,Q2];omega
 have h2:(Qf (Qe .i64) (c:Int)).toNat=c:=by
  show (Qf 64 (c:Int)).toNat=_;rw[Qz,Q2];omega
 rw[BitVec.toNat_or,h1,h2];have h3:a*256|||c<2^16:=Nat.or_lt_two_pow (by omega) (by omega);rw[Vaw (by omega) (by omega)];omega
theorem Vaya(l:Ua)(hl:l.length<=100000):Ok (Zfy l) λr=>r.2.1.length*3<=l.length/\∀p∈r.2.1,p.value.length<=l.length:=by
 unfold Zfy Zfy_L0 Yi2;refine Ok.bm (Ok.iter (Q:=λz=>(∃b,z=Qs ([],b,()))\/∃q:List Jf,z=Qr (q,())/\q.length*3<=l.length/\∀p∈q,p.value.length<=l.length) (λs=>∃(r:Ua) (q:List Jf),q.length*3+r.length<=l.length/\(∀p∈q,p.value.length<=l.length)/\s=(r,q,())) (λs=>s.1.length) ⟨l,[],by simp,(λp hp=>by cases hp),rfl⟩ (by rw[Vaa];dsimp only;omega) ?_) ?_
 ·rintro s ⟨r,q,hq,hv,rfl⟩;dsimp only;unfold Zfy_L0b;refine Ok.cond (λhc=>?_) (λ_=>Ok.some (.inr ⟨q,rfl,by omega,hv⟩));refine Ok.cond (λ_=>Ok.some (.inl ⟨false,rfl⟩)) (λhd=>?_);have hd:=Up hd;have g0:getI r 0=some (r[0]'(by omega)):=gIn (i:=0) (Qa (by omega));have g1:getI r 1=some (r[1]'(by omega)):=gIn (i:=1) (Qa (by omega));have g2:getI r 2=some (r[2]'(by omega)):=gIn (i:=2) (Qa (by omega));simp only[g0,g1,g2,bindU];have hw:=word2 r[1] r[2];generalize Qd .i64 ((Qf (Qe .i64) (Qd .i64 ((r[1].toBitVec.toNat:Int)*2^(min 8 (Qe .i64))))|||Qf (Qe .i64) (r[2].toBitVec.toNat:Int)).toNat:Int)=n at hw |-;rw[wI ((r.length:Int)-3) (by omega),wI ((3:Int)+n) (by omega)];refine Ok.cond (λ_=>Ok.some (.inl ⟨false,rfl⟩)) (λhn=>?_);have hn:=Up hn;rw[Um (by omega:0<=(3:Int)+n),Um (by omega:(3:Int)+n<=(r.length:Int)),Um (by omega:(3:Int)<=(((3:Int)+n).toNat:Int)),show (true&&true)=true from rfl];simp only[Ui];have hlen:(Qq 3 (Qm ((3:Int)+n).toNat r)).length=n.toNat:=by
   rw[Qk,Qo];omega
  generalize Qq 3 (Qm ((3:Int)+n).toNat r)=v at hlen;rw[Vab (by omega) (by omega),Ui,Vab (by simp;omega) (by omega),Ui];refine Ok.some ⟨⟨_,_,?_,?_,rfl⟩,?_⟩
  ·rw[Qg,Qk];simp only[Qb,Qc];omega
  ·intro p hp;rcases List.mem_append.1 hp with hp|hp
   ·exact hv p hp
   ·rw[Qp]at hp;subst hp;show v.length<=l.length;omega
  ·dsimp only;rw[Qk];omega
 ·rintro z (⟨b,rfl⟩|⟨q,rfl,h1,h2⟩)
  ·exact Ok.some ⟨by simp,λp hp=>by cases hp⟩
  ·exact Ok.some ⟨h1,h2⟩
def Vals(n:Nat)(l:List Jf):Prop:=∀p∈l,p.value.length<=n
theorem Vals.app{n:Nat}{l m:List Jf}(h:Vals n l)(h2:Vals n m):Vals n (l++m):=λp hp=>(List.mem_append.1 hp).elim (h p) (h2 p)
theorem Vals.one{n:Nat}{p:Jf}(h:p.value.length<=n):Vals n [p]:=λq hq=>by rw[Qp]at hq;subst hq;exact h
theorem Vhva(n:Nat)(y0 y1:List Jf)(k:Nat)(hk:k<y1.length)(h0:Vals n y0)(h1:Vals n y1)(hl:y0.length<=200000)(b:Bool):Ok (Zhg_L2 (y0,y1,(k:Int),[],b,(0:Int),())) λz=>∃(q:List Jf) (c:Bool),z=(y1,(k:Int),q,c,())/\Vals n q/\q.length<=y0.length+(bif c then 1 else 0):=by
 unfold Zhg_L2 Yi6;refine Ok.iter (λs=>∃(q:List Jf) (c:Bool) (j:Nat),j<=y0.length/\Vals n q/\q.length<=j+(bif c then 1 else 0)/\s=(y0,y1,(k:Int),q,c,(j:Int),())) (λs=>((y0.length:Int)-s.2.2.2.2.2.1).toNat) ⟨[],b,0,by omega,(λp hp=>by cases hp),by simp,rfl⟩ (by rw[Vaa];dsimp only;omega) ?_;rintro s ⟨q,c,j,hj,hv,hq,rfl⟩;dsimp only;unfold Zhg_L2b;refine Ok.cond (λhc=>?_) (λhc=>Ok.some ⟨q,c,rfl,hv,by have:=Up hc;omega⟩);have hc:=Uo hc;have hjl:j<y0.length:=by omega
 have gj:getI y0 (j:Int)=some y0[j]:=gIn (Qa hjl);have gk:getI y1 (k:Int)=some y1[k]:=gIn (Qa hk);have fin:∀(q:List Jf) (c:Bool),Vals n q->q.length<=j+(bif c then 1 else 0)->Ok ((some (y0,y1,(k:Int),q,c,(j:Int),()):Option (List Jf×List Jf×Int×List Jf×Bool×Int×Unit)).bind (λ(j5:((List (Jf))×(List (Jf))×Int×(List (Jf))×Bool×Int×Unit))=>((getI j5.1 j5.2.2.2.2.2.1).bind λx6=>((getI j5.2.1 j5.2.2.1).bind λx7=>(bif (!decide (x6.key=x7.key)) then ((getI j5.1 j5.2.2.2.2.2.1).bind λx8=>(bif small ((j5.2.2.2.1).length+(([x8]:List (Jf)):List (Jf)).length) 32 then (some (Qs (j5.1,j5.2.1,j5.2.2.1,(j5.2.2.2.1++([x8]:List (Jf))),j5.2.2.2.2.1,(Qd .i64 (j5.2.2.2.2.2.1+(1:Int))),())):Option (Y_Zhg_L2⊕Z_Zhg_L2)) else none)) else (some (Qs (j5.1,j5.2.1,j5.2.2.1,j5.2.2.2.1,j5.2.2.2.2.1,(Qd .i64 (j5.2.2.2.2.2.1+(1:Int))),())))))))) (λr=>match r with|.inl t=>(∃(q:List Jf) (c:Bool) (j:Nat),j<=y0.length/\Vals n q/\q.length<=j+(bif c then 1 else 0)/\t=(y0,y1,(k:Int),q,c,(j:Int),()))/\((y0.length:Int)-t.2.2.2.2.2.1).toNat<((y0.length:Int)-(j:Int)).toNat|.inr z=>∃(q:List Jf) (c:Bool),z=(y1,(k:Int),q,c,())/\Vals n q/\q.length<=y0.length+(bif c then 1 else 0)):=by
  intro q c hv hq;rw[bindU];dsimp only;have hb:(bif c then 1 else 0)<=1:=by cases c<;>decide
  rw[gj,bindU,gk,bindU,bindU,wI ((j:Int)+1) (by omega)];rw[Vab (by simp;omega) (by omega),Ui];refine Ok.cond (λ_=>Ok.some ⟨⟨q++[y0[j]],c,j+1,hjl,hv.app (Vals.one (h0 _ (Qh hjl))),by rw[Qg];simp only[Qb,Qc];omega,rfl⟩,by dsimp only;omega⟩) (λ_=>Ok.some ⟨⟨q,c,j+1,hjl,hv,by omega,rfl⟩,by dsimp only;omega⟩)
 cases c
 ·rw[Qu,Ui,gj,bindU,gk,bindU];cases hd:decide (y1[k].key<=y0[j].key)
  ·rw[Uj];exact Ok.mono (fin q false hv hq) (by rintro (t|z) h<;>exact h)
  ·rw[Ui,bindU,Vab (by simp only[Qb,Qc];simp only[Uj]at hq;omega) (by omega),Ui];exact Ok.mono (fin (q++[y1[k]]) true (hv.app (Vals.one (h1 _ (Qh hk)))) (by rw[Qg];simp only[Qb,Qc,Ui];simp only[Uj]at hq;omega)) (by rintro (t|z) h<;>exact h)
 ·rw[Ql,Uj];exact Ok.mono (fin q true hv hq) (by rintro (t|z) h<;>exact h)
theorem Vx2(n:Nat)(a b:List Jf)(ha:Vals n a)(hb:Vals n b)(hl:a.length+b.length<=200000):Ok (Zhg a b) λr=>Vals n r.2.1/\r.2.1.length<=a.length+b.length:=by
 unfold Zhg Zhg_L0 Yi3;refine Ok.bm (Ok.iter (Q:=λz=>Vals n z.1/\z.1.length<=a.length+b.length) (λs=>∃(q:List Jf) (k:Nat),k<=b.length/\Vals n q/\q.length<=a.length+k/\s=(q,b,(k:Int),())) (λs=>((b.length:Int)-s.2.2.1).toNat) ⟨a,0,by omega,ha,by omega,rfl⟩ (by rw[Vaa];dsimp only;omega) ?_) ?_
 ·rintro s ⟨q,k,hk,hv,hq,rfl⟩;dsimp only;unfold Zhg_L0b;refine Ok.cond (λhc=>?_) (λ_=>Ok.some ⟨hv,by dsimp only;omega⟩);have hc:=Uo hc;have hkl:k<b.length:=by omega
  have gk:getI b (k:Int)=some b[k]:=gIn (Qa hkl);rw[gk,bindU];refine Ok.bm (Vhva n q b k hkl hv hb (by omega) _) ?_;rintro z ⟨q2,c,rfl,hv2,hq2⟩;dsimp only;rw[gk,wI ((k:Int)+1) (by omega)];cases c
  ·simp only[Uj]at hq2;rw[Qu,Ui,bindU,Vab (by simp only[Qb,Qc];omega) (by omega),Ui];refine Ok.some ⟨⟨q2++[b[k]],k+1,hkl,hv2.app (Vals.one (hb _ (Qh hkl))),by rw[Qg];simp only[Qb,Qc];omega,rfl⟩,?_⟩;dsimp only;omega
  ·simp only[Ui]at hq2;rw[Ql,Uj];refine Ok.some ⟨⟨q2,k+1,hkl,hv2,by omega,rfl⟩,?_⟩;dsimp only;omega
 ·rintro⟨q,_⟩ h;exact Ok.some h
theorem Viv(j:Jh)(h:FOk j.jf):Ok (Zev j) λr=>Vals 256 r.2.1/\r.2.1.length<=69000:=by
 unfold Zev;refine Ok.bm (Vrz j h) ?_;rintro⟨_,l,_⟩ ⟨hr,hl⟩;dsimp only at *;unfold Zev_L0 Yi3;refine Ok.bm (Ok.iter (Q:=λz=>Vals 256 z.1/\z.1.length<=69000) (λs=>∃(q:List Jf) (k:Nat),k<=l.length/\Vals 256 q/\q.length<=86*k/\s=(q,l,(k:Int),())) (λs=>((l.length:Int)-s.2.2.1).toNat) ⟨[],0,by omega,(λp hp=>by cases hp),by simp,rfl⟩ (by rw[Vaa];dsimp only;omega) ?_) ?_
 ·rintro s ⟨q,k,hk,hv,hq,rfl⟩;dsimp only;unfold Zev_L0b;refine Ok.cond (λhc=>?_) (λ_=>Ok.some ⟨hv,by dsimp only;omega⟩);have hc:=Uo hc;have hkl:k<l.length:=by omega
  rw[Um (by omega:0<=(k:Int)),Um hc,show (true&&true)=true from rfl,Ui,Qn,Qa hkl,bindU];have hx:=hr _ (Qh hkl);refine Ok.bm (Vaya l[k] (by omega)) ?_;rintro⟨_,ps,c,_⟩ ⟨h1,h2⟩;dsimp only at *;rw[wI ((k:Int)+1) (by omega)];refine Ok.cond (λ_=>?_) (λ_=>Ok.some ⟨⟨q,k+1,hkl,hv,by omega,rfl⟩,by dsimp only;omega⟩);refine Ok.bm (Vx2 256 q ps hv (λp hp=>Nat.le_trans (h2 p hp) hx.2) (by omega)) ?_;rintro⟨_,w,_⟩ ⟨w1,w2⟩;dsimp only at *;exact Ok.some ⟨⟨w,k+1,hkl,w1,by omega,rfl⟩,by dsimp only;omega⟩
 ·rintro⟨q,_⟩ hq;exact Ok.some hq
theorem Vno(n:Nat)(hn:n<=1000)(l:List Jf)(h:Vals n l)(hl:l.length<=500):Ok (Zez l) λr=>r.2.1.length<=(n+3)*l.length:=by
 unfold Zez Zez_L0 Yi3;refine Ok.bm (Ok.iter (Q:=λz=>z.1.length<=(n+3)*l.length) (λs=>∃(q:Ua) (k:Nat),k<=l.length/\q.length<=(n+3)*k/\s=(l,q,(k:Int),())) (λs=>((l.length:Int)-s.2.2.1).toNat) ⟨[],0,by omega,by simp,rfl⟩ (by rw[Vaa];dsimp only;omega) ?_) ?_
 ·rintro s ⟨q,k,hk,hq,rfl⟩;dsimp only;unfold Zez_L0b;refine Ok.cond (λhc=>?_) (λhc=>Ok.some (by
   have:=Up hc;dsimp only;rw[show l.length=k by omega];exact hq))
  have hc:=Uo hc;have hkl:k<l.length:=by omega
  have gk:getI l (k:Int)=some l[k]:=gIn (Qa hkl);have hv:=h _ (Qh hkl);have hb:(n+3)*k<=1003*500:=Qv (by omega) (by omega);have hs:(n+3)*(k+1)=(n+3)*k+(n+3):=Nat.mul_succ _ _;simp only[gk,bindU];rw[Vab (by simp only[Qb,Qc];omega) (by omega),Ui,Vab (by rw[Qg];simp only[Qb,Qc];omega) (by omega),Ui,wI ((k:Int)+1) (by omega)];refine Ok.some ⟨⟨_,k+1,hkl,?_,rfl⟩,by dsimp only;omega⟩;rw[Qg,Qg,hs];simp only[Qb,Qc];omega
 ·rintro⟨q,_⟩ hq;exact Ok.some hq
theorem Vo3(n:Nat)(hn:n<=1000)(l:List Jf)(h:Vals n l)(hl:l.length<=200000):Ok (Zcp l) λr=>r.2.1.length<=l.length/\∀x∈r.2.1,x.length<=n+3:=by
 unfold Zcp Zcp_L0 Yi3;refine Ok.bm (Ok.iter (Q:=λz=>z.1.length<=l.length/\∀x∈z.1,x.length<=n+3) (λs=>∃(q:List Ua) (k:Nat),k<=l.length/\q.length<=k/\(∀x∈q,x.length<=n+3)/\s=(l,q,(k:Int),())) (λs=>((l.length:Int)-s.2.2.1).toNat) ⟨[],0,by omega,by simp,(λx hx=>by cases hx),rfl⟩ (by rw[Vaa];dsimp only;omega) ?_) ?_
 ·rintro s ⟨q,k,hk,hq,hv,rfl⟩;dsimp only;unfold Zcp_L0b;refine Ok.cond (λhc=>?_) (λhc=>Ok.some ⟨by dsimp only;omega,hv⟩);have hc:=Uo hc;rw[wI ((k:Int)+1) (by omega),Um (by omega:0<=(k:Int)+1),Um (by omega:(k:Int)+1<=(l.length:Int)),Um (by omega:0<=(k:Int)),Um (by omega:(k:Int)<=(((k:Int)+1).toNat:Int)),show (true&&true)=true from rfl];simp only[Ui];have hlen:(Qq (k:Int).toNat (Qm ((k:Int)+1).toNat l)).length=1:=by
   rw[Qk,Qo];omega
  have hvv:Vals n (Qq (k:Int).toNat (Qm ((k:Int)+1).toNat l)):=λp hp=>h p (List.mem_of_mem_take (List.mem_of_mem_drop hp));refine Ok.bm (Vno n hn _ hvv (by omega)) ?_;rintro⟨_,w,_⟩ hw;dsimp only at *;rw[hlen,Nat.mul_one]at hw;rw[Vab (by simp only[Qb,Qc];omega) (by omega),Ui];refine Ok.some ⟨⟨_,k+1,by omega,by rw[Qg];simp only[Qb,Qc];omega,?_,rfl⟩,by dsimp only;omega⟩;intro x hx;rcases List.mem_append.1 hx with hx|hx
  ·exact hv x hx
  ·rw[Qp]at hx;subst hx;exact hw
 ·rintro⟨q,_⟩ hq;exact Ok.some hq
theorem Vel(f:Jk)(e:Int)(he:e≠16):Zew f e=some ((),⟨⟨0,[]⟩,0,0,0,false⟩,0,e,()):=by
 unfold Zew;rw[Un he];rfl
theorem Vlt(j:Jh)(e:Int)(he:e≠16):Zhi j e=some ((),⟨⟨⟨0,[]⟩,0,0,0,false⟩,[]⟩,0,e,()):=by
 unfold Zhi;rw[Un he];rfl
def szP(l:List Jf):Nat:=(l.map λp=>3+p.value.length).sum
theorem Vhwa(n:Nat)(l:List Jf)(h:Vals n l):szP l<=(n+3)*l.length:=by
 induction l with
 |nil=>simp[szP]
 |cons p l ih=>
  have h1:=ih λq hq=>h q (List.mem_cons_of_mem _ hq);have h2:=h p (List.mem_cons_self ..);have e:(n+3)*(l.length+1)=(n+3)*l.length+(n+3):=Nat.mul_succ _ _;show 3+p.value.length+szP l<=_;rw[Qb,e];omega
theorem Vfka(l:List Jf)(p:Jf)(h:p∈l):p.value.length+3<=szP l:=by
 induction l with
 |nil=>cases h
 |cons q l ih=>
  show _<=3+q.value.length+szP l;rcases List.mem_cons.1 h with rfl|h
  ·omega
  ·have:=ih h;omega
theorem Vfla(l:List Jf):3*l.length<=szP l:=by
 induction l with
 |nil=>simp
 |cons q l ih=>show _<=3+q.value.length+szP l;rw[Qb];omega
theorem Vx3(l m:List Jf):szP (l++m)=szP l+szP m:=by simp[szP]
theorem Vqt(n:Nat)(l:List Jf)(h:Vals n l)(hn:n<=1000000)(hl:l.length<=200000):Zhf l=some ((),(szP l:Int),()):=by
 have hb:szP l<=1000003*200000:=Nat.le_trans (Vhwa n l h) (Qv (by omega) hl);have key:Ok (Zhf l) λr=>r=((),(szP l:Int),()):=by
  unfold Zhf Zhf_L0 Yi3;refine Ok.bm (Ok.iter (Q:=λz=>z=((szP l:Int),())) (λs=>∃k:Nat,k<=l.length/\s=(l,(szP (l.take k):Int),(k:Int),())) (λs=>((l.length:Int)-s.2.2.1).toNat) ⟨0,by omega,rfl⟩ (by rw[Vaa];dsimp only;omega) ?_) ?_
  ·rintro s ⟨k,hk,rfl⟩;dsimp only;unfold Zhf_L0b;refine Ok.cond (λhc=>?_) (λhc=>Ok.some (by
    have:=Up hc;rw[Qy (by omega)]))
   have hc:=Uo hc;have hkl:k<l.length:=by omega
   have e:szP (l.take (k+1))=szP (l.take k)+(3+l[k].value.length):=by
    rw[Qw hkl,Vx3];simp[szP]
   have hv:=h _ (Qh hkl);have e2:szP l=szP (l.take k)+szP (l.drop k):=by rw[<-Vx3,Q1]
   rw[gIn (Qa hkl),bindU];dsimp only;rw[wI ((3:Int)+(l[k].value.length:Int)) (by omega),wI ((szP (l.take k):Int)+((3:Int)+(l[k].value.length:Int))) (by omega),wI ((k:Int)+1) (by omega)];refine Ok.some ⟨⟨k+1,hkl,?_⟩,by dsimp only;omega⟩;rw[e];simp
  ·rintro z rfl;exact Ok.some rfl
 obtain⟨r,h1,rfl⟩:=key;exact h1
def szR(l:List Ua):Nat:=(l.map λx=>10+x.length).sum
theorem Vx4(l m:List Ua):szR (l++m)=szR l+szR m:=by simp[szR]
theorem Vqu(l:List Ua)(k:Nat)(h:k<l.length):szR (l.take (k+1))=szR (l.take k)+(10+l[k].length):=by
 rw[Qw h,Vx4];simp[szR]
theorem Vc5a(l:List Ua)(k:Nat):szR (l.take k)<=szR l:=by
 have:szR l=szR (l.take k)+szR (l.drop k):=by rw[<-Vx4,Q1]
 omega
abbrev NoE(e:Int):Prop:=e≠0/\e≠16
theorem Vx5(l:List Ua)(b:Int)(j z:Jh)(hl:l.length<=200000):Ok (Zdq_L0 (l,b,(j,()),(z,()),16,0,())) λq=>(∃x c e,q=Qs (x,c,e,())/\NoE e)\/q=Qr (l,b,(j,()),(z,()),16,())/\Recs l:=by
 unfold Zdq_L0 Yi6;refine Ok.iter (λs=>∃k:Nat,k<=l.length/\(∀i,(h:i<l.length)->i<k->1<=l[i].length/\l[i].length<=256)/\s=(l,b,(j,()),(z,()),16,(k:Int),())) (λs=>((l.length:Int)-s.2.2.2.2.2.1).toNat) ⟨0,by omega,by intro i _ h;omega,rfl⟩ (by rw[Vaa];dsimp only;omega) ?_;rintro s ⟨k,hk,hr,rfl⟩;dsimp only;unfold Zdq_L0b;refine Ok.cond (λhc=>?_) (λhc=>Ok.some (.inr ⟨rfl,λx hx=>by
  have:=Up hc;obtain⟨i,hi,rfl⟩:=List.getElem_of_mem hx;exact hr i hi (by omega)⟩))
 have hc:=Uo hc;have hkl:k<l.length:=by omega
 rw[gIn (Qa hkl),bindU,Vel _ _ (by decide),bindU,bindU];refine Ok.cond (λ_=>Ok.some (.inl ⟨_,_,_,rfl,by decide,by decide⟩)) (λh1=>Ok.cond (λ_=>Ok.some (.inl ⟨_,_,_,rfl,by decide,by decide⟩)) (λh2=>?_));have h1:=Up h1;have h2:=Up h2;rw[wI ((k:Int)+1) (by omega)];refine Ok.some ⟨⟨k+1,hkl,λi hi hik=>?_,rfl⟩,by dsimp only;omega⟩;by_cases e:i=k
 ·subst e;omega
 ·exact hr i hi (by omega)
theorem Vx6(l:List Ua)(b:Int)(j z:Jh)(hl:l.length<=200000)(hr:Recs l)(h1:512<=j.jf.ja)(h2:j.jf.ja<=8192):Ok (Zdq_L2 (l,b,(j,()),(z,()),16,0,())) λq=>∃t:Int,q=(l,b,(j,()),(z,()),t,())/\(j.jf.ja<t\/t=16+(szR l:Int)):=by
 unfold Zdq_L2 Yi6;refine Ok.iter (λs=>∃k:Nat,k<=l.length/\(szR (l.take k):Int)<=10000/\s=(l,b,(j,()),(z,()),16+(szR (l.take k):Int),(k:Int),())) (λs=>((l.length:Int)-s.2.2.2.2.2.1).toNat) ⟨0,by omega,by simp[szR],rfl⟩ (by rw[Vaa];dsimp only;omega) ?_;rintro s ⟨k,hk,hs,rfl⟩;dsimp only;unfold Zdq_L2b;dsimp only;refine Ok.cond (λhc=>?_) (λhc=>Ok.some ⟨_,rfl,.inr (by
  have:=Up hc;rw[Qy (by omega)])⟩)
 have hc:=Uo hc;have hkl:k<l.length:=by omega
 have hx:=hr _ (Qh hkl);refine Ok.cond (λhd=>?_) (λhd=>Ok.some ⟨_,rfl,.inl (by have:=Up hd;omega)⟩);have hd:=Uo hd;rw[gIn (Qa hkl),bindU];have e:=Vqu l k hkl;rw[wI ((10:Int)+(l[k].length:Int)) (by omega),wI (16+(szR (l.take k):Int)+((10:Int)+(l[k].length:Int))) (by omega),wI ((k:Int)+1) (by omega)];refine Ok.some ⟨⟨k+1,hkl,by omega,?_⟩,by dsimp only;omega⟩;rw[show (16:Int)+(szR (l.take (k+1)):Int)=16+(szR (l.take k):Int)+((10:Int)+(l[k].length:Int)) by omega];rfl
theorem Vx7(l:List Ua)(b:Int)(hb:b<0)(hb2:-9223372036854775808<=b)(z:Jh)(p g:Int)(f:Jk)(hf:FOk f)(h0:0<=p)(h1:p<=1)(hr:Recs l)(hl:l.length<=200000)(hs:16+(szR l:Int)<=f.ja):Ok (Zdq_L4 (l,b,(z,()),p,g,16,(f,()),0,0,())) λq=>∃(t:Int) (f2:Jk),q=(b,(z,()),p,g,t,(f2,()),0,())/\FOk f2/\f2.ja=f.ja/\16<=t/\t<=f.ja:=by
 have a1:=hf.lo;have a2:=hf.hi;unfold Zdq_L4 Yi9;refine Ok.iter (λs=>∃(k:Nat) (f2:Jk),k<=l.length/\FOk f2/\f2.ja=f.ja/\s=(l,b,(z,()),p,g,16+(szR (l.take k):Int),(f2,()),0,(k:Int),())) (λs=>((l.length:Int)-s.2.2.2.2.2.2.2.2.1).toNat) ⟨0,f,by omega,hf,rfl,rfl⟩ (by rw[Vaa];dsimp only;omega) ?_;rintro s ⟨k,f2,hk,hf2,hp,rfl⟩;dsimp only;have hle:=Vc5a l k;have fin:∃(t:Int) (f3:Jk),(b,(z,()),p,g,16+(szR (l.take k):Int),(f2,()),0,())=((b,(z,()),p,g,t,(f3,()),0,()):Z_Zdq_L4)/\FOk f3/\f3.ja=f.ja/\16<=t/\t<=f.ja:=⟨_,f2,rfl,hf2,hp,by omega,by omega⟩;unfold Zdq_L4b;dsimp only;rw[show decide ((0:Int)=0)=true from rfl];simp only[Ui];refine Ok.cond (λhc=>?_) (λhc=>Ok.some fin);have hc:=Uo hc;have hkl:k<l.length:=by omega
 have hx:=hr _ (Qh hkl);have e:=Vqu l k hkl;have hle2:=Vc5a l (k+1);rw[gIn (Qa hkl),bindU];refine Ok.bm (frame_ok g l[k] (by omega)) ?_;rintro⟨_,fr,_⟩ hfr;dsimp only at *;refine Ok.bm (Vew f2 hf2 p _ fr b hb hb2 h0 h1 (by omega) (by omega)) ?_;rintro⟨_,f3,c,e3,_⟩ ⟨k1,k2,k3,k4⟩;dsimp only at *;subst k3;subst k4;rw[bindU];rw[wI ((10:Int)+(l[k].length:Int)) (by omega),wI (16+(szR (l.take k):Int)+((10:Int)+(l[k].length:Int))) (by omega),wI ((k:Int)+1) (by omega)];refine Ok.some ⟨⟨k+1,f3,hkl,k1,by omega,?_⟩,by dsimp only;omega⟩;rw[show (16:Int)+(szR (l.take (k+1)):Int)=16+(szR (l.take k):Int)+((10:Int)+(l[k].length:Int)) by omega];rfl
def JChg(j:Jh)(b:Int)(r:Unit×(Jh×Int×Int×Unit)):Prop:=NoE r.2.2.2.1\/(FOk r.2.1.jf/\r.2.1.jf.ja=j.jf.ja/\r.2.2.1=b/\r.2.2.2.1=0)
theorem Vr0(j:Jh)(h:FOk j.jf)(l:List Ua)(hl:l.length<=200000)(b:Int)(hb:b<0)(hb2:-9223372036854775808<=b):Ok (Zdq j l b) (JChg j b):=by
 have a1:=h.lo;have a2:=h.hi;unfold Zdq;refine Ok.bm (Vdg j h) ?_;rintro⟨_,g,_⟩ hg;dsimp only at *;refine Ok.cond (λ_=>?_) λhc=>?_
 ·rw[Vel _ _ (by decide),bindU];exact Ok.some (.inl ⟨by decide,by decide⟩)
 have hj:=hg (by revert hc;cases g<;>simp);refine Ok.bm (Vx5 l b j _ hl) ?_;rintro q (⟨x,c,e,rfl,he⟩|⟨rfl,hr⟩)
 ·exact Ok.some (.inl he)
 simp only[Q0];refine Ok.bm (Vx6 l b j _ hl hr a1 a2) ?_;rintro q ⟨t,rfl,ht⟩;dsimp only;refine Ok.cond (λ_=>?_) λhc=>?_
 ·rw[Vel _ _ (by decide),bindU];exact Ok.some (.inl ⟨by decide,by decide⟩)
 have hc:=Up hc;refine Ok.cond (λ_=>?_) λhd=>?_
 ·rw[Vel _ _ (by decide),bindU];exact Ok.some (.inl ⟨by decide,by decide⟩)
 have hd:=Up hd;have p0:=hj.p0;have p1:=hj.p1;have g0:=hj.g0;rw[wI ((1:Int)-j.jak) (by omega),wI (j.jr+1) (by omega)];refine Ok.bm (Vava j.jf h _ b hb hb2 (by omega) (by omega)) ?_;rintro⟨_,f,c,e,_⟩ ⟨k1,k2,k3,k4⟩;dsimp only at *;subst k3;subst k4;refine Ok.bm (Vx7 l _ hb hb2 _ _ _ f k1 (by omega) (by omega) hr hl (by omega)) ?_;rintro q ⟨t2,f2,rfl,m1,m2,m3,m4⟩;dsimp only;rw[show decide ((0:Int)=0)=true from rfl,Ui];refine Ok.bind ?_;rw[Viu,bindU];refine Ok.bm (Vew f2 m1 _ 0 _ _ hb hb2 (by omega) (by omega) (by omega) (by rw[Vav];have:=m1.lo;omega)) ?_;rintro⟨_,f3,c3,e3,_⟩ ⟨n1,n2,n3,n4⟩;dsimp only at *;subst n3;subst n4;refine Ok.some ?_;dsimp only;rw[show (!decide ((0:Int)=0))=false from rfl,Uj];exact Ok.some (.inr ⟨n1,by dsimp only;omega,rfl,rfl⟩)
theorem Vx8(j:Jh)(h:FOk j.jf):Ok (Zhe j) λr=>0<=r.2.1/\r.2.1<=256/\(0<r.2.1->r.2.1<=j.jf.ja-j.tail-10):=by
 have a1:=h.lo;have a2:=h.hi;unfold Zhe;refine Ok.bm (Vdg j h) ?_;rintro⟨_,g,_⟩ hg;dsimp only at *;have z:Ok (some ((),((0:Int),())):Option (Unit×(Int×Unit))) λr=>0<=r.2.1/\r.2.1<=256/\(0<r.2.1->r.2.1<=j.jf.ja-j.tail-10):=Ok.some ⟨by dsimp only;omega,by dsimp only;omega,λh=>by dsimp only at h;omega⟩;refine Ok.cond (λ_=>z) λhc=>Ok.cond (λ_=>z) λ_=>?_;have hj:=hg (by revert hc;cases g<;>simp);have t0:=hj.t0;have t1:=hj.t1;rw[wI (j.jf.ja-j.tail) (by omega),wI (j.jf.ja-j.tail-10) (by omega)];refine Ok.some ?_;dsimp only;generalize j.jf.ja-j.tail-10=x;by_cases h1:x<256
 ·rw[Um h1,Ui];by_cases h2:x<0
  ·rw[Um h2,Ui];omega
  ·rw[Un h2,Uj];omega
 ·rw[Un h1,Uj];rw[show decide ((256:Int)<0)=false from rfl,Uj];omega
theorem Vx9(j:Jh)(h:FOk j.jf)(l:Ua)(hl:l.length<=100000)(b:Int)(hb:b<0)(hb2:-9223372036854775808<=b):Ok (Zet j l b) (JChg j b):=by
 have a1:=h.lo;have a2:=h.hi;unfold Zet;refine Ok.bm (Vdg j h) ?_;rintro⟨_,g,_⟩ hg;dsimp only at *;have bad:∀e:Int,NoE e->Ok ((Zew j.jf e).bind λr2=>(some ((),(r2.2.1,r2.2.2.1,r2.2.2.2.1,())):Option (Unit×(Jh×Int×Int×Unit)))) (JChg j b):=by
  intro e he;rw[Vel _ _ he.2,bindU];exact Ok.some (.inl he)
 refine Ok.cond (λ_=>bad _ ⟨by decide,by decide⟩) λhc=>Ok.cond (λ_=>bad _ ⟨by decide,by decide⟩) λc1=>Ok.cond (λ_=>bad _ ⟨by decide,by decide⟩) λc2=>Ok.cond (λ_=>bad _ ⟨by decide,by decide⟩) λc3=>?_;have hj:=hg (by revert hc;cases g<;>simp);have c1:=Up c1;refine Ok.bm (Vx8 j h) ?_;rintro⟨_,r,_⟩ ⟨r0,r1,r2⟩;dsimp only at *;refine Ok.cond (λ_=>bad _ ⟨by decide,by decide⟩) λc4=>?_;have c4:=Up c4;have r2:=r2 (by omega);have t0:=hj.t0;have t1:=hj.t1;refine Ok.bm (frame_ok j.jr l hl) ?_;rintro⟨_,fr,_⟩ hfr;dsimp only at *;refine Ok.bm (Vew j.jf h j.jak j.tail fr b hb hb2 hj.p0 hj.p1 (by omega) (by omega)) ?_;rintro⟨_,f3,c3,e3,_⟩ ⟨n1,n2,n3,n4⟩;dsimp only at *;subst n3;subst n4;rw[show (!decide ((0:Int)=0))=false from rfl,Uj];exact Ok.some (.inr ⟨n1,n2,rfl,rfl⟩)
theorem Vj8(n:Nat)(hn:n<=1000000)(v:Jm)(h:Vals n v.jw)(hl:v.jw.length<=200000)(k:Int):Ok (Zic v k) λr=>r.2.1.length<=n:=by
 unfold Zic Zic_L0 Yi3;refine Ok.bm (Ok.iter (Q:=λz=>(∃l:Ua,z=Qs (l,())/\l.length<=n)\/z=Qr ()) (λs=>∃i:Nat,i<=v.jw.length/\s=(k,(v,()),(i:Int),())) (λs=>((v.jw.length:Int)-s.2.2.1).toNat) ⟨0,by omega,rfl⟩ (by rw[Vaa];dsimp only;omega) ?_) ?_
 ·rintro s ⟨i,hi,rfl⟩;dsimp only;unfold Zic_L0b;dsimp only;refine Ok.cond (λhc=>?_) (λ_=>Ok.some (.inr rfl));have hc:=Uo hc;have hil:i<v.jw.length:=by omega
  have hv:=h _ (Qh hil);rw[gIn (Qa hil),bindU,bindU,Vab (by omega) (by omega),Ui,wI ((i:Int)+1) (by omega)];exact Ok.cond (λ_=>Ok.some (.inl ⟨_,rfl,hv⟩)) (λ_=>Ok.some ⟨⟨i+1,hil,rfl⟩,by dsimp only;omega⟩)
 ·rintro z (⟨l,rfl,h1⟩|rfl)
  ·exact Ok.some h1
  ·exact Ok.some (Nat.zero_le _)
structure VOk(v:Jm):Prop where
 fl:FOk v.jh.jf
 vl:Vals 256 v.jw
 ln:v.jw.length<=69000
def VChg(v:Jk)(b:Int)(r:Unit×(Jm×Int×Int×Unit)):Prop:=NoE r.2.2.2.1\/(VOk r.2.1/\r.2.1.jh.jf.ja=v.ja/\r.2.2.1=b/\r.2.2.2.1=0)
theorem Vnp(a b:List Jf)(ha:a.length<=1000000):Ok (Zcc a b) λ_=>True:=by
 unfold Zcc;refine Ok.cond (λ_=>Ok.some trivial) λhl=>?_;have hl:a.length=b.length:=by
  have:decide ((a.length:Int)=(b.length:Int))=true:=by revert hl;cases decide ((a.length:Int)=(b.length:Int))<;>simp
  have:=Uo this;omega
 unfold Zcc_L0 Yi3;refine Ok.bm (Ok.iter (Q:=λz=>(∃c,z=Qs (c,()))\/z=Qr ()) (λs=>∃i:Nat,i<=a.length/\s=(a,b,(i:Int),())) (λs=>((a.length:Int)-s.2.2.1).toNat) ⟨0,by omega,rfl⟩ (by rw[Vaa];dsimp only;omega) ?_) ?_
 ·rintro s ⟨i,hi,rfl⟩;dsimp only;unfold Zcc_L0b;refine Ok.cond (λhc=>?_) (λ_=>Ok.some (.inr rfl));have hc:=Uo hc;have hia:i<a.length:=by omega
  have hib:i<b.length:=by omega
  simp only[gIn (Qa hia),gIn (Qa hib),bindU];rw[wI ((i:Int)+1) (by omega)];exact Ok.cond (λ_=>Ok.some (.inl ⟨_,rfl⟩)) λ_=>Ok.cond (λ_=>Ok.some (.inl ⟨_,rfl⟩)) λ_=>Ok.some ⟨⟨i+1,hia,rfl⟩,by dsimp only;omega⟩
 ·rintro z (⟨c,rfl⟩|rfl)
  ·exact Ok.some trivial
  ·exact Ok.some trivial
theorem Viw(v:Jm)(h:VOk v):Ok (Zas v) λ_=>True:=by
 have hl:=h.ln;unfold Zas;refine Ok.bm (Vdg _ h.fl) ?_;rintro⟨_,g,_⟩ _;refine Ok.cond (λ_=>?_) λ_=>Ok.some trivial;refine Ok.bm (Viv _ h.fl) ?_;rintro⟨_,s,_⟩ _;refine Ok.bm (Vnp _ _ (by omega)) ?_;rintro⟨_,c,_⟩ _;exact Ok.some trivial
theorem putL2(l:List Jf)(b:Int)(v z:Jm)(hl:l.length<=200000)(k:Nat)(hk:k<l.length):Ok (Zid_L2 (l,b,(v,()),(z,()),(k:Int),0,())) λq=>(∃x c e,q=Qs (x,c,e,())/\NoE e)\/q=Qr (l,b,(v,()),(z,()),(k:Int),()):=by
 unfold Zid_L2 Yi6;refine Ok.iter (λs=>∃i:Nat,i<=k/\s=(l,b,(v,()),(z,()),(k:Int),(i:Int),())) (λs=>((k:Int)-s.2.2.2.2.2.1).toNat) ⟨0,by omega,rfl⟩ (by rw[Vaa];dsimp only;omega) ?_;rintro s ⟨i,hi,rfl⟩;dsimp only;unfold Zid_L2b;refine Ok.cond (λhc=>?_) (λ_=>Ok.some (.inr rfl));have hc:=Uo hc;have hil:i<l.length:=by omega
 simp only[gIn (Qa hil),gIn (Qa hk),bindU];rw[Vlt _ _ (by decide),bindU,wI ((i:Int)+1) (by omega)];exact Ok.cond (λ_=>Ok.some (.inl ⟨_,_,_,rfl,by decide,by decide⟩)) λ_=>Ok.some ⟨⟨i+1,by omega,rfl⟩,by dsimp only;omega⟩
theorem putL0(l:List Jf)(b:Int)(v z:Jm)(hl:l.length<=200000):Ok (Zid_L0 (l,b,(v,()),(z,()),0,())) λq=>(∃x c e,q=Qs (x,c,e,())/\NoE e)\/q=Qr (l,b,(v,()),(z,()),()):=by
 unfold Zid_L0 Yi5;refine Ok.iter (λs=>∃i:Nat,i<=l.length/\s=(l,b,(v,()),(z,()),(i:Int),())) (λs=>((l.length:Int)-s.2.2.2.2.1).toNat) ⟨0,by omega,rfl⟩ (by rw[Vaa];dsimp only;omega) ?_;rintro s ⟨i,hi,rfl⟩;dsimp only;unfold Zid_L0b;refine Ok.cond (λhc=>?_) (λ_=>Ok.some (.inr rfl));have hc:=Uo hc;have hil:i<l.length:=by omega
 simp only[gIn (Qa hil),bindU];rw[Vlt _ _ (by decide),bindU];refine Ok.cond (λ_=>Ok.some (.inl ⟨_,_,_,rfl,by decide,by decide⟩)) λ_=>Ok.cond (λ_=>Ok.some (.inl ⟨_,_,_,rfl,by decide,by decide⟩)) λ_=>?_;refine Ok.bm (putL2 l b v z hl i hil) ?_;rintro q (⟨x,c,e,rfl,he⟩|rfl)
 ·exact Ok.some (.inl ⟨_,_,_,rfl,he⟩)
 ·simp only[Q0];rw[wI ((i:Int)+1) (by omega)];exact Ok.some ⟨⟨i+1,hil,rfl⟩,by dsimp only;omega⟩
theorem Vhxa(v:Jm)(h:VOk v)(n:Nat)(hn:n<=1000000)(l:List Jf)(hv:Vals n l)(hl:l.length<=100000)(b:Int)(hb:b<0)(hb2:-9223372036854775808<=b):Ok (Zid v l b) (VChg v.jh.jf b):=by
  have a1:=h.fl.lo;have a2:=h.fl.hi;have hpl:=h.ln;have bad:∀e:Int,NoE e->Ok ((Zhi v.jh e).bind λr2=>(some ((),(r2.2.1,r2.2.2.1,r2.2.2.2.1,())):Option (Unit×(Jm×Int×Int×Unit)))) (VChg v.jh.jf b):=by
    intro e he;rw[Vlt _ _ he.2,bindU];exact Ok.some (.inl he)
  have fin:∀(z:Jm) (j:Jh) (c e:Int),JChg v.jh b ((),j,c,e,())->Ok ((λ(j24:(Int×(Jm×Unit)×(Jh×Unit)×Int×Unit))=>(bif (!decide (j24.2.2.2.1=(0:Int))) then ((Zhi j24.2.2.1.1 j24.2.2.2.1).bind λr25=>(some ((),(r25.2.1,r25.2.2.1,r25.2.2.2.1,()))))
 else ((Zev j24.2.2.1.1).bind λr26=>(some ((),((⟨j24.2.2.1.1,r26.2.1⟩:Jm),j24.1,(0:Int),())):Option (Unit×(Jm×Int×Int×Unit)))))) (c,(z,()),(j,()),e,())) (VChg v.jh.jf b):=by
    intro z j c e hj;dsimp only;rcases hj with hj|⟨k1,k2,k3,k4⟩
    · dsimp only at hj
      rw[Un hj.1,Qu,Ui,Vlt _ _ hj.2,bindU];exact Ok.some (.inl hj)
    · dsimp only at *
      subst k3;subst k4;rw[show (!decide ((0:Int)=0))=false from rfl,Uj];refine Ok.bm (Viv j k1) ?_;rintro⟨_,s,_⟩ ⟨s1,s2⟩;exact Ok.some (.inr ⟨⟨k1,s1,s2⟩,k2,rfl,rfl⟩)
  unfold Zid;refine Ok.bm (Viw v h) ?_;rintro⟨_,g,_⟩ _;refine Ok.cond (λ_=>bad _ ⟨by decide,by decide⟩) λ_=>Ok.cond (λ_=>bad _ ⟨by decide,by decide⟩) λ_=>?_;refine Ok.bm (putL0 l b v _ (by omega)) ?_;rintro q (⟨x,c,e,rfl,he⟩|rfl)
  · exact Ok.some (.inl he)
  simp only[Q0];have hs:=Vqt n l hv hn (by omega);rw[hs,bindU];refine Ok.cond (λ_=>bad _ ⟨by decide,by decide⟩) λc1=>?_;have c1:=Up c1;dsimp only at c1;have hlen:=Vfla l;have hv2:Vals 256 l:=λp hp=>by have:=Vfka l p hp;omega
  refine Ok.bm (Vx2 256 v.jw l h.vl hv2 (by omega)) ?_;rintro⟨_,w,_⟩ ⟨w1,w2⟩;dsimp only at *;rw[Vqt 256 w w1 (by omega) (by omega),bindU];refine Ok.cond (λ_=>bad _ ⟨by decide,by decide⟩) λ_=>?_;refine Ok.bind ?_;rw[bindU];refine Ok.bm (Vx8 v.jh h.fl) ?_;rintro⟨_,r,_⟩ _;refine Ok.cond (λ_=>?_) λ_=>?_
  · refine Ok.bm (Vno 256 (by omega) l hv2 (by omega)) ?_
    rintro⟨_,rc,_⟩ hrc;dsimp only at *;refine Ok.bm (Vx9 v.jh h.fl rc (by have:(256+3)*l.length<=259*100:=Qv (by omega) (by omega);omega) b hb hb2) ?_;rintro⟨_,j,c,e,_⟩ hj;exact Ok.some (fin _ j c e hj)
  · refine Ok.bm (Vo3 256 (by omega) w w1 (by omega)) ?_
    rintro⟨_,sn,_⟩ ⟨n1,n2⟩;dsimp only at *;refine Ok.bm (Vr0 v.jh h.fl sn (by omega) b hb hb2) ?_;rintro⟨_,j,c,e,_⟩ hj;exact Ok.some (fin _ j c e hj)
theorem Vaza(v:Jm)(h:VOk v):Ok (Zeg v) λ_=>True:=by
 unfold Zeg;refine Ok.bm (Vj8 256 (by omega) v h.vl (by have:=h.ln;omega) 2) ?_;rintro⟨_,l,_⟩ hl;dsimp only at *;unfold Zeg_L0 Yi3;refine Ok.bm (Ok.iter (Q:=λ_=>True) (λs=>∃(x:Int) (i:Nat),i<=l.length/\s=(x,l,(i:Int),())) (λs=>((l.length:Int)-s.2.2.1).toNat) ⟨0,0,by omega,rfl⟩ (by rw[Vaa];dsimp only;omega) ?_) λ_ _=>Ok.some trivial;rintro s ⟨x,i,hi,rfl⟩;dsimp only;unfold Zeg_L0b;refine Ok.cond (λhc=>?_) (λ_=>Ok.some trivial);have hc2:=Uo hc;have hil:i<l.length:=by omega
 rw[hc,Um (by omega:0<=(i:Int)),show (true&&true)=true from rfl,Ui,Qn,Qa hil,bindU,wI ((i:Int)+1) (by omega)];exact Ok.some ⟨⟨_,i+1,hil,rfl⟩,by dsimp only;omega⟩
theorem Vf4(a:Ub)(l:Ua)(n:Int)(hl:l.length<=1000):Ok (Zej a l n) λ_=>True:=by
 unfold Zej;rw[Vab (by simp only[Qb,Qc];omega) (by omega),Ui,rW1,bindU,Vab (by simp[w8];omega) (by omega),Ui];dsimp only;rw[rMac _ _ _ (by simp[w8];omega),bindU];exact Ok.some trivial
theorem Vf5(d:Jd)(h:VOk d.jo):Ok (Zdi d) λ_=>True:=by
 unfold Zdi;refine Ok.bm (Vj8 256 (by omega) _ h.vl (by have:=h.ln;omega) 1) ?_;rintro⟨_,l,_⟩ _;refine Ok.bm (Vc9 _) ?_;rintro⟨_,x,_⟩ _;exact Ok.some trivial
theorem Vya(d:Jd)(h:VOk d.jo):Ok (Zfl d) λr=>∃n,r.2.1 = { d with jao:=n }:=by
 unfold Zfl;refine Ok.bm (Vf5 d h) ?_;rintro⟨_,m,_⟩ _;refine Ok.bm (Vaza _ h) ?_;rintro⟨_,b,_⟩ _;dsimp only;refine Ok.bm (Vf4 _ _ _ (by decide)) ?_;rintro⟨_,x,_⟩ _;exact Ok.some ⟨_,rfl⟩
theorem Vyb(d:Jd)(v:Jm)(e:Int)(he:e≠16):Zdl d v e=some ((),d,0,e,()):=by
 unfold Zdl;rw[Un he];rfl
theorem Vqv(d:Jd)(hon:d.on=true)(h:VOk d.jo)(n:Nat)(hn:n<=1000000)(l:List Jf)(hv:Vals n l)(hl:l.length<=100000)(b:Int)(hb:b<0)(hb2:-9223372036854775808<=b):Ok (Zed d l b) λr=>(r.2.1=d/\NoE r.2.2.2.1)\/(∃v,VOk v/\r.2.1 = { d with jo:=v }/\r.2.2.1=b/\r.2.2.2.1=0):=by
 unfold Zed;rw[hon,Ql,Uj];refine Ok.bm (Vhxa d.jo h n hn l hv hl b hb hb2) ?_;rintro⟨_,v,c,e,_⟩ (he|⟨k1,k2,k3,k4⟩)
 ·dsimp only at *;rw[Un he.1,Qu,Ui,Vyb _ _ _ he.2,bindU];exact Ok.some (.inl ⟨rfl,he⟩)
 ·dsimp only at *;subst k3;subst k4;rw[show (!decide ((0:Int)=0))=false from rfl,Uj];exact Ok.some (.inr ⟨v,k1,by rw[<-hon],rfl,rfl⟩)
theorem Vgn(x:Jp):Ok (Zeb x) λr=>r.2.1=true->0<=x.jau/\x.jau<=x.next/\x.next<=x.to_/\x.to_<=16:=by
 unfold Zeb;refine Ok.cond (λh1=>Ok.cond (λh2=>Ok.cond (λh3=>Ok.some λh4=>⟨Uo h1,Uo h2,Uo h3,Uo h4⟩) (λ_=>?_)) (λ_=>?_)) (λ_=>?_);all_goals exact Ok.some λh=>by cases h
theorem Vjb(x:Jp):Ok (Zan x) λr=>r.2.1.length<=11:=by
 unfold Zan;refine Ok.bm (Vgn x) ?_;rintro⟨_,b,_⟩ _;refine Ok.cond (λ_=>Ok.some (Nat.zero_le _)) λ_=>?_;rw[rW1,bindU];dsimp only;rw[Vab (by simp[w8]) (by omega),Ui];exact Ok.some (by simp[w8])
theorem Vjc(l:Ua):Ok (Zam l) λr=>r.2.2.1=0->0<=r.2.1.jau/\r.2.1.jau<=r.2.1.next/\r.2.1.next<=r.2.1.to_/\r.2.1.to_<=16:=by
 unfold Zam;refine Ok.cond (λ_=>Ok.some λh=>by cases h) λh=>?_;have h:l.length=11:=by
  have:decide ((l.length:Int)=(11:Int))=true:=by revert h;cases decide ((l.length:Int)=(11:Int))<;>simp
  have:=Uo this;omega
 rw[Um (by omega),Ui];refine Ok.bm (Vc9 _) ?_;rintro⟨_,x,_⟩ _;have g8:getI l 8=some (l[8]'(by omega)):=gIn (i:=8) (Qa (by omega));have g9:getI l 9=some (l[9]'(by omega)):=gIn (i:=9) (Qa (by omega));have g10:getI l 10=some (l[10]'(by omega)):=gIn (i:=10) (Qa (by omega));rw[g8,bindU,g9,bindU,g10,bindU];refine Ok.bm (Vgn _) ?_;rintro⟨_,b,_⟩ hb;refine Ok.cond (λ_=>Ok.some λh=>by cases h) λhc=>Ok.some λ_=>?_;exact hb (by revert hc;cases b<;>simp)
theorem Vqw(d:Jd)(h:VOk d.jo)(k:Int):Ok (Zeh d k) λr=>r.2.2.1=true->0<=r.2.1.jau/\r.2.1.jau<=r.2.1.next/\r.2.1.next<=r.2.1.to_/\r.2.1.to_<=16:=by
 unfold Zeh;refine Ok.bm (Vj8 256 (by omega) _ h.vl (by have:=h.ln;omega) _) ?_;rintro⟨_,l,_⟩ _;refine Ok.bm (Vjc l) ?_;rintro⟨_,x,e,_⟩ hx;exact Ok.some λh=>hx (Uo h)
theorem Vqx(d:Jd)(h:VOk d.jo):Ok (Zgr d) λr=>0<=r.2.1.jy/\r.2.1.jy<=255:=by
 unfold Zgr;refine Ok.bm (Vj8 256 (by omega) _ h.vl (by have:=h.ln;omega) _) ?_;rintro⟨_,l,_⟩ _;refine Ok.cond (λ_=>Ok.some ⟨by dsimp only;omega,by dsimp only;omega⟩) λ_=>?_;refine Ok.bm (Vc9 _) ?_;rintro⟨_,x,_⟩ _;refine Ok.bm (Vj8 256 (by omega) _ h.vl (by have:=h.ln;omega) _) ?_;rintro⟨_,m,_⟩ _;refine Ok.cond (λhc=>?_) λ_=>Ok.some ⟨by dsimp only;omega,by dsimp only;omega⟩;have hc:=Uo hc;dsimp only at *;rw[Um (by omega),Ui,Qa (by omega:0<m.length),bindU];have:=(m[0]'(by omega)).toBitVec.isLt;exact Ok.some ⟨by dsimp only;omega,by dsimp only;omega⟩
theorem Vc6a(l:Ua)(hl:l.length<=1000000):Ok (Zgm l) λ_=>True:=by
 unfold Zgm;rw[rHash _ _ (by omega),bindU];exact Ok.some trivial
theorem Vnq(d:Jd)(h:VOk d.jo)(id:Ua)(hl:id.length<=1000000):Ok (Zdj d id) λr=>0<=r.2.1/\r.2.1<=15:=by
 unfold Zdj Zdj_L0 Yi3;refine Ok.bm (Ok.iter (Q:=λz=>(∃n c,z=Qs (n,c,())/\0<=n/\n<=15)\/z=Qr ()) (λs=>∃i:Nat,i<=16/\s=(id,(d,()),(i:Int),())) (λs=>((16:Int)-s.2.2.1).toNat) ⟨1,by omega,rfl⟩ (by rw[Vaa];dsimp only;omega) ?_) ?_
 ·rintro s ⟨i,hi,rfl⟩;dsimp only;unfold Zdj_L0b;dsimp only;refine Ok.cond (λhc=>?_) (λ_=>Ok.some (.inr rfl));have hc:=Uo hc;rw[wI ((i:Int)+1) (by omega)];have nx:∃i2:Nat,i2<=16/\(id,(d,()),(i:Int)+1,())=(id,(d,()),(i2:Int),()):=⟨i+1,by omega,rfl⟩;refine Ok.bm (Vqw d h _) ?_;rintro⟨_,x,c,_⟩ _;refine Ok.cond (λ_=>?_) λ_=>Ok.some ⟨nx,by dsimp only;omega⟩;refine Ok.bm (Vc6a id hl) ?_;rintro⟨_,t,_⟩ _;refine Ok.cond (λ_=>Ok.some (.inl ⟨_,_,rfl,by omega,by omega⟩)) λ_=>Ok.some ⟨nx,by dsimp only;omega⟩
 ·rintro z (⟨n,c,rfl,h1,h2⟩|rfl)
  ·exact Ok.some ⟨h1,h2⟩
  ·exact Ok.some ⟨by dsimp only;omega,by dsimp only;omega⟩
structure DevOk(d:Jd):Prop where
 on:d.on=true
 v:VOk d.jo
 n0:0<=d.now
 n1:d.now<=1099511627776
end Go.Proofs.YtnfhkhlbdgbkjaaGreatDoor

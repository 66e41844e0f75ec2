/- The device's flash: what is total (begun). -/
import Derived.Test.YtnfhkhlbdgbkjaaGreatDoorMqJ
set_option linter.unusedVariables false
set_option linter.unusedSimpArgs false
set_option maxRecDepth 100000
namespace Go.Proofs.YtnfhkhlbdgbkjaaGreatDoor
open Go Go.Abs
open _root_.List renaming getElem?_eq_getElem → Qa, length_set → Qf, take → Qg, length_take → Qi, length_drop → Qj, drop → Qn
open _root_.UInt8 renaming ofBitVec → Qb
open _root_.BitVec renaming setWidth → Qc, ofInt → Ql
open Go.IntKind renaming wrap → Qd
open _root_.Bool renaming not_true → Qe, and_self → Qk
open _root_.Int renaming toNat_natCast → Qh, mul_tdiv_cancel → Qm
structure FOk(f:Jk):Prop where
 lo:512<=f.ja
 hi:f.ja<=8192
 ln:(f.bytes.length:Int)=2*f.ja
theorem Vab{n w:Nat}(h1:n<=1000000)(h2:w<=100):small n w=true:=by
 unfold small;have:=Nat.mul_le_mul (show 2*n+192<=2000192 by omega) h2;simp;omega
theorem Va8(f:Jk)(h:FOk f):Zai f=some ((),0,()):=by
 have h1:=h.lo;have h2:=h.hi;have h3:=h.ln;unfold Zai;rw[h3,Un (by omega),Un (by omega),Un (by omega),Un (by omega)];simp only[Uj];rw[show Int.tmod (2*f.ja) f.ja=0 from by rw[Int.mul_tmod_left],show Int.tdiv (2*f.ja) f.ja=2 from Qm _ (by omega)];rfl
def w8(a:Ub):Ua:=[Qb (Qc 8 (a>>>56)),Qb (Qc 8 (a>>>48)),Qb (Qc 8 (a>>>40)),Qb (Qc 8 (a>>>32)),Qb (Qc 8 (a>>>24)),Qb (Qc 8 (a>>>16)),Qb (Qc 8 (a>>>8)),Qb (Qc 8 (a>>>0))]
theorem rW1(a0:Ub):passkeyref1_Words [a0]=some ((),([a0]:List Ub).flatMap w8,()):=by kernel_rfl
theorem rW2(a0 a1:Ub):passkeyref1_Words [a0,a1]=some ((),([a0,a1]:List Ub).flatMap w8,()):=by kernel_rfl
theorem rW3(a0 a1 a2:Ub):passkeyref1_Words [a0,a1,a2]=some ((),([a0,a1,a2]:List Ub).flatMap w8,()):=by kernel_rfl
theorem rW4(a0 a1 a2 a3:Ub):passkeyref1_Words [a0,a1,a2,a3]=some ((),([a0,a1,a2,a3]:List Ub).flatMap w8,()):=by kernel_rfl
theorem Vc4(l:Ua):Ok (Zgq l) λ_=>True:=by
 unfold Zgq Zgq_L0 i3;refine Ok.bm (Ok.iter (Q:=λ_=>True) (λs=>∃(k:Nat) (y:Ub),k<=8/\s=(l,y,(k:Int),())) (λs=>(8-s.2.2.1).toNat) ⟨0,_,by omega,rfl⟩ (by rw[Vaa];dsimp only;omega) ?_) λ_ _=>Ok.some trivial;rintro s ⟨k,y,hk,rfl⟩;dsimp only;unfold Zgq_L0b;refine Ok.cond (λhc=>?_) (λhc=>Ok.some trivial);have hc:=Uo hc;refine Ok.cond (λhd=>?_) (λhd=>Ok.some trivial);have hd:=Uo hd;rw[gIn (Qa (by omega:k<l.length)),bindU,wI ((k:Int)+1) (by omega)];refine Ok.some ⟨⟨k+1,_,by omega,rfl⟩,?_⟩;dsimp only;omega
theorem Vw2(g:Int):Ok (Zeu g) λr=>r.2.1.length=16:=by
 unfold Zeu;rw[rW1,bindU];rw[rHash _ _ (by simp[w8]),bindU];rw[rW2,bindU];exact Ok.some (by simp[w8])
theorem Vft(f:Jk)(h:FOk f)(p:Int)(h0:0<=p)(h1:p<=1):Ok (Zbl f p) λr=>0<=r.2.1/\r.2.1<=1099511627776:=by
 have a1:=h.lo;have a2:=h.hi;have a3:=h.ln;unfold Zbl;have hp:0<=p*f.ja/\p*f.ja<=f.ja:=by
  rcases (by omega:p=0\/p=1) with rfl|rfl<;>omega
 generalize p*f.ja=x at hp;rw[wI (x) (by omega),wI (x+16) (by omega)];dsimp only;rw[Um (by omega:0<=x+16),Um (by omega:x+16<=(f.bytes.length:Int)),Um (by omega:0<=x),Um (by omega:x<=((x+16).toNat:Int))];simp only[Qk,Ui];have hl:(Qn x.toNat (Qg (x+16).toNat f.bytes)).length=16:=by
  rw[Qj,Qi];omega
 rw[Um (by omega),Ui];refine Ok.bm (Vc4 _) ?_;rintro⟨_,w,_⟩ _;dsimp only;have hz:Ok (some ((),((0:Int),())):Option (Unit×(Int×Unit))) λr=>0<=r.2.1/\r.2.1<=1099511627776:=Ok.some ⟨by dsimp only;omega,by dsimp only;omega⟩;refine Ok.cond (λ_=>hz) λc1=>Ok.cond (λ_=>hz) λc2=>?_;have c2:=Up c2;have hw:w.toNat<=1099511627776:=by
  rw[show (1099511627776#64).toNat=1099511627776 from rfl]at c2;omega
 refine Ok.bm (Vw2 _) ?_;rintro⟨_,hd,_⟩ _;dsimp only;refine Ok.cond (λ_=>hz) λ_=>Ok.some ?_;dsimp only;rw[Va1 (by omega) (by omega)];omega
theorem frame_ok(g:Int)(l:Ua)(hl:l.length<=100000):Ok (Zft g l) λr=>r.2.1.length=l.length+10:=by
 unfold Zft;dsimp only;rw[Vab (by simp;omega) (by omega),Ui,rMac _ _ _ (by omega),bindU];rw[rW1,bindU];rw[Vab (by simp[w8];omega) (by omega),Ui];exact Ok.some (by simp[w8])
theorem Vega(at_ len:Int)(d:Ua)(b:Int)(hb:b<0)(hb2:-9223372036854775808<=b)(ps:Int)(l0:Ua)(z:Jk)(h0:0<=at_)(h1:at_+len<=(l0.length:Int))(h2:(l0.length:Int)<=100000)(hd:d=[]\/len<=(d.length:Int)) :
  Ok (Zet_L0 (at_,len,d,b,(ps,l0,()),(z,()),(0:Int),())) λq=>∃l:Ua,l.length=l0.length/\q=Sum.inr (b,(ps,l,()),(z,()),()):=by
 unfold Zet_L0 i7;refine Ok.iter (λs=>∃(k:Nat) (l:Ua),l.length=l0.length/\s=(at_,len,d,b,(ps,l,()),(z,()),(k:Int),())/\((k:Int)<=len\/k=0)) (λs=>(len-s.2.2.2.2.2.2.1).toNat) ⟨0,l0,rfl,rfl,.inr rfl⟩ (by rw[Vaa];dsimp only;omega) ?_;rintro s ⟨k,l,hl,rfl,hk⟩;dsimp only;unfold Zet_L0b;refine Ok.cond (λhc=>?_) (λhc=>Ok.some ⟨l,hl,rfl⟩);have hc:=Uo hc;rw[Un (by omega:¬ b=0),Uj];rw[wI (at_+(k:Int)) (by omega),wI ((k:Int)+1) (by omega)];dsimp only;have hlt:(at_+(k:Int)).toNat<l.length:=by omega
 rw[Um (by omega:0<=at_+(k:Int)),Um (by omega:at_+(k:Int)<(l.length:Int)),show (true&&true)=true from rfl,Qa hlt];simp only[Ui,bindU];refine Ok.cond (λhe=>?_) (λhe=>?_)
 ·rw[Un (by omega:¬ 0<b),Uj];refine Ok.some ⟨⟨k+1,_,by rw[Qf];exact hl,rfl,by omega⟩,?_⟩;dsimp only;omega
 ·have he:=Up he;have hdl:len<=(d.length:Int):=by
   rcases hd with rfl|hd
   ·simp at he
   ·exact hd
  rw[gIn (Qa (by omega:k<d.length)),bindU,Un (by omega:¬ 0<b),Uj];refine Ok.some ⟨⟨k+1,_,by rw[Qf];exact hl,rfl,by omega⟩,?_⟩;dsimp only;omega
def Chg(f:Jk)(b:Int)(r:Unit×(Jk×Int×Int×Unit)):Prop:=FOk r.2.1/\r.2.1.ja=f.ja/\r.2.2.1=b/\r.2.2.2.1=0
theorem Vm3(f:Jk)(h:FOk f)(at_ len:Int)(d:Ua)(b:Int)(hb:b<0)(hb2:-9223372036854775808<=b)(h0:0<=at_)(h1:at_+len<=(f.bytes.length:Int))(hd:d=[]\/len<=(d.length:Int)):Ok (Zet f at_ len d b) (Chg f b):=by
 have a1:=h.lo;have a2:=h.hi;have a3:=h.ln;unfold Zet;rw[Vab (by omega) (by omega),Ui];refine Ok.bm (Vega at_ len d b hb hb2 f.ja f.bytes _ h0 h1 (by omega) hd) ?_;rintro q ⟨l,hl,rfl⟩;exact Ok.some ⟨⟨a1,a2,by dsimp only;omega⟩,rfl,rfl,rfl⟩
theorem Vla(f:Jk)(h:FOk f)(p off len:Int)(h0:0<=p)(h1:p<=1)(h2:0<=off)(h3:0<=len)(h4:off+len<=f.ja):Zhc f p off len=some ((),0,()):=by
 have a1:=h.lo;have a2:=h.hi;have a3:=h.ln;unfold Zhc;rw[Va8 f h,bindU];dsimp only;rw[a3,show Int.tdiv (2*f.ja) f.ja=2 from Qm _ (by omega),wI (2) (by omega),wI (f.ja-off) (by omega),Un (by omega:¬ p<0),Un (by omega:¬ f.ja=0),Un (by omega:¬ 2<=p),Un (by omega:¬ off<0),Un (by omega:¬ len<0),Un (by omega:¬ f.ja<off),Un (by omega:¬ f.ja-off<len)];rfl
theorem Vzv(f:Jk)(h:FOk f)(p b:Int)(hb:b<0)(hb2:-9223372036854775808<=b)(h0:0<=p)(h1:p<=1):Ok (Zfr f p b) (Chg f b):=by
 have a1:=h.lo;have a2:=h.hi;have a3:=h.ln;have hp:0<=p*f.ja/\p*f.ja<=f.ja:=by
  rcases (by omega:p=0\/p=1) with rfl|rfl<;>omega
 unfold Zfr;rw[Vla f h p 0 0 h0 h1 (by omega) (by omega) (by omega),bindU];simp only[Uk,Qe,Uj];rw[Va1 (by omega) (by omega)];refine Ok.bm (Vm3 f h _ _ [] b hb hb2 hp.1 (by omega) (.inl rfl)) ?_;rintro⟨_,g,c,e,_⟩ hg;exact Ok.some hg
theorem Veq(f:Jk)(h:FOk f)(p off:Int)(d:Ua)(b:Int)(hb:b<0)(hb2:-9223372036854775808<=b)(h0:0<=p)(h1:p<=1)(h2:0<=off)(h4:off+(d.length:Int)<=f.ja):Ok (Zdm f p off d b) (Chg f b):=by
 have a1:=h.lo;have a2:=h.hi;have a3:=h.ln;have hp:0<=p*f.ja/\p*f.ja<=f.ja:=by
  rcases (by omega:p=0\/p=1) with rfl|rfl<;>omega
 unfold Zdm;rw[Vla f h p off _ h0 h1 h2 (by omega) h4,bindU];simp only[Uk,Qe,Uj];rw[wI (p*f.ja) (by omega),Va1 (by omega) (by omega)];refine Ok.bm (Vm3 f h _ _ d b hb hb2 (by omega) (by omega) (.inr (Int.le_refl _))) ?_;rintro⟨_,g,c,e,_⟩ hg;exact Ok.some hg
def Recs(l:List Ua):Prop:=∀x∈l,1<=x.length/\x.length<=256
theorem scanL(g:Int)(d:Ua)(ps:Int)(h1:512<=ps)(h2:ps<=8192)(hd:(d.length:Int)=ps):Ok (Zhe_L0 (g,d,[],(16:Int),())) λz=>Recs z.1/\(z.1.length:Int)*11<=z.2.1/\16<=z.2.1/\z.2.1<=ps:=by
 unfold Zhe_L0 i4;refine Ok.iter (λs=>∃(l:List Ua) (k:Nat),Recs l/\l.length*11<=k/\16<=k/\(k:Int)<=ps/\s=(g,d,l,(k:Int),())) (λs=>(ps-s.2.2.2.1).toNat) ⟨[],16,(λx hx=>by cases hx),by simp,by omega,by omega,rfl⟩ (by rw[Vaa];dsimp only;omega) ?_;rintro s ⟨l,k,hr,hl,hk,hp,rfl⟩;dsimp only;have stop:Recs l/\(l.length:Int)*11<=(k:Int)/\16<=(k:Int)/\(k:Int)<=ps:=⟨hr,by omega,by omega,by omega⟩;unfold Zhe_L0b;rw[wI ((k:Int)+10) (by omega),wI ((k:Int)+1) (by omega),wI ((k:Int)+2) (by omega)];refine Ok.cond (λhc=>?_) (λhc=>Ok.some stop);have hc:=Uo hc;rw[gIn (Qa (by omega:k<d.length)),bindU];rw[show (k:Int)+1=((k+1:Nat):Int) by omega,gIn (Qa (by omega:k+1<d.length)),bindU];generalize Qd .i64 ((Ql (IntKind.bits .i64) _|||_).toNat:Int)=n;dsimp only;refine Ok.cond (λ_=>Ok.some stop) λc1=>Ok.cond (λ_=>Ok.some stop) λc2=>?_;have c1:=Up c1;have c2:=Up c2;rw[wI ((k:Int)+10+n) (by omega),wI ((k:Int)+2+n) (by omega)];refine Ok.cond (λ_=>Ok.some stop) λc3=>?_;have c3:=Up c3;rw[Um (by omega:0<=(k:Int)+2+n),Um (by omega:(k:Int)+2+n<=(d.length:Int)),Um (by omega:0<=(k:Int)+2),Um (by omega:(k:Int)+2<=(((k:Int)+2+n).toNat:Int)),Um (by omega:0<=(k:Int)+10+n),Um (by omega:(k:Int)+10+n<=(d.length:Int)),Um (by omega:0<=(k:Int)),Um (by omega:(k:Int)<=(((k:Int)+10+n).toNat:Int)),show (true&&true)=true from rfl];simp only[Ui];have hlen:(Qn ((k:Int)+2).toNat (Qg ((k:Int)+2+n).toNat d)).length=n.toNat:=by
  rw[Qj,Qi];omega
 generalize Qn ((k:Int)+2).toNat (Qg ((k:Int)+2+n).toNat d)=v at hlen;rw[Vab (by omega) (by omega),Ui];refine Ok.bm (frame_ok g v (by omega)) ?_;rintro⟨_,fr,_⟩ _;dsimp only;refine Ok.cond (λ_=>Ok.some stop) λ_=>?_;rw[Vab (by simp;omega) (by omega),Ui];refine Ok.some ⟨⟨l++[v],((k:Int)+10+n).toNat,λx hx=>?_,by simp;omega,by omega,by omega,?_⟩,?_⟩
 ·rcases List.mem_append.1 hx with hx|hx
  ·exact hr x hx
  ·rw[List.mem_singleton]at hx;subst hx;omega
 ·rw[Int.toNat_of_nonneg (by omega)]
 ·dsimp only;omega
theorem Vw3(f:Jk)(h:FOk f)(p g:Int)(h0:0<=p)(h1:p<=1):Ok (Zhe f p g) λr=>Recs r.2.1/\(r.2.1.length:Int)*11<=r.2.2.1/\16<=r.2.2.1/\r.2.2.1<=f.ja:=by
 have a1:=h.lo;have a2:=h.hi;have a3:=h.ln;have hp:0<=p*f.ja/\p*f.ja<=f.ja/\(p+1)*f.ja=p*f.ja+f.ja:=by
  rcases (by omega:p=0\/p=1) with rfl|rfl<;>omega
 unfold Zhe;rw[wI (p+1) (by omega),hp.2.2];generalize p*f.ja=x at hp;rw[wI (x+f.ja) (by omega),wI (x) (by omega)];dsimp only;rw[Um (by omega:0<=x+f.ja),Um (by omega:x+f.ja<=(f.bytes.length:Int)),Um (by omega:0<=x),Um (by omega:x<=((x+f.ja).toNat:Int))];simp only[Qk,Ui];refine Ok.bm (scanL g _ f.ja a1 a2 (by rw[Qj,Qi];omega)) ?_;rintro⟨l,t,_⟩ hz;exact Ok.some hz
structure JOk(j:Jh):Prop where
 fl:FOk j.jf
 p0:0<=j.jal
 p1:j.jal<=1
 g0:0<=j.jr
 g1:j.jr<=1099511627776
 t0:16<=j.tail
 t1:j.tail<=j.jf.ja
theorem Vgqa(f:Jk)(h:FOk f)(q:Jh×Unit)(p g t:Int)(b:Bool)(hp0:0<=p)(hp1:p<=1)(i:Nat)(hi:(i:Int)<=f.ja):Ok (Zfs_L0 ((f,()),q,(f.ja,f.bytes,p,g,t,b,()),(i:Int),())) λz=>∃b':Bool,z=(q,(f.ja,f.bytes,p,g,t,b',()),()):=by
 have a1:=h.lo;have a2:=h.hi;have a3:=h.ln;have hp:0<=p*f.ja/\p*f.ja<=f.ja:=by
  rcases (by omega:p=0\/p=1) with rfl|rfl<;>omega
 unfold Zfs_L0 i4;refine Ok.iter (λs=>∃(k:Nat) (b':Bool),(k:Int)<=f.ja/\s=((f,()),q,(f.ja,f.bytes,p,g,t,b',()),(k:Int),())) (λs=>(f.ja-s.2.2.2.1).toNat) ⟨i,b,hi,rfl⟩ (by rw[Vaa];dsimp only;omega) ?_;rintro s ⟨k,b',hk,rfl⟩;dsimp only;unfold Zfs_L0b;dsimp only;refine Ok.cond (λhc=>?_) (λhc=>Ok.some ⟨b',rfl⟩);have hc:=Uo hc;rw[wI ((k:Int)+1) (by omega)];refine Ok.cond (λhb=>?_) (λhb=>?_)
 ·refine Ok.some ⟨⟨k+1,true,by omega,rfl⟩,?_⟩;dsimp only;omega
 ·generalize p*f.ja=x at hp;rw[wI (x) (by omega),wI (x+(k:Int)) (by omega),show x+(k:Int)=(((x+(k:Int)).toNat:Nat):Int) by omega,gIn (Qa (by omega:(x+(k:Int)).toNat<f.bytes.length)),bindU];refine Ok.some ⟨⟨k+1,_,by omega,rfl⟩,?_⟩;dsimp only;omega
theorem Vzw(f:Jk)(h:FOk f):Ok (Zfs f) λr=>(r.2.2.1=0/\JOk r.2.1/\r.2.1.jf=f)\/(r.2.2.1=11/\Zbl f 0=some ((),0,())):=by
 have a1:=h.lo;have a2:=h.hi;have a3:=h.ln;have fin:∀p g:Int,0<=p->p<=1->0<=g->g<=1099511627776->Ok ((Zhe f p g).bind λr5=>((Zfs_L0 ((f,()),((⟨⟨(0:Int),[]⟩,(0:Int),(0:Int),(0:Int),false⟩:Jh),()),(f.ja,f.bytes,p,g,r5.2.2.1,false,()),r5.2.2.1,())).bind (λ(z8:((Jh×Unit)×(Int×Ua×Int×Int×Int×Bool×Unit)×Unit))=>(some ((),((⟨⟨z8.2.1.1,z8.2.1.2.1⟩,z8.2.1.2.2.1,z8.2.1.2.2.2.1,z8.2.1.2.2.2.2.1,z8.2.1.2.2.2.2.2.1⟩:Jh),(0:Int),())):Option (Unit×(Jh×Int×Unit)))))) λr=>(r.2.2.1=0/\JOk r.2.1/\r.2.1.jf=f)\/(r.2.2.1=11/\Zbl f 0=some ((),0,())):=by
  intro p g p0 p1 g0 g1;refine Ok.bm (Vw3 f h p g p0 p1) ?_;rintro⟨_,l,t,_⟩ ⟨_,_,t0,t1⟩;dsimp only at *;obtain⟨n,rfl⟩:∃n:Nat,t=(n:Int):=⟨t.toNat,by omega⟩;refine Ok.bm (Vgqa f h _ p g _ false p0 p1 n t1) ?_;rintro z ⟨b,rfl⟩;exact Ok.some (.inl ⟨rfl,⟨h,p0,p1,g0,g1,t0,t1⟩,rfl⟩)
 unfold Zfs;rw[Va8 f h,bindU];simp only[Uk,Qe,Uj];rw[wI (2*f.ja) (by omega),Un (by omega),Uj];obtain⟨⟨_,g2,_⟩,e2,hg2⟩:=Vft f h 0 (by omega) (by omega);rw[e2,bindU];rw[e2]at fin
 refine Ok.bm (Vft f h 1 (by omega) (by omega)) ?_;rintro⟨_,g3,_⟩ hg3;dsimp only at *;have bd:small f.bytes.length 1=true:=Vab (by omega) (by omega);refine Ok.cond (λhz=>Ok.cond (λ_=>Ok.some (.inr ⟨rfl,by rw[Uo hz]⟩)) λ_=>?_) λ_=>?_;all_goals
  rw[bd,Ui];refine Ok.bind ?_;refine Ok.cond (λ_=>Ok.some ?_) λ_=>Ok.some ?_
  ·exact fin 1 g3 (by omega) (by omega) hg3.1 hg3.2
  ·exact fin 0 g2 (by omega) (by omega) hg2.1 hg2.2
def updB(d:Ua)(x:UInt8)(i:Nat):UInt8:=bif decide ((d.length:Int)=0) then 255 else Qb (x.toBitVec&&&(d.getD i 0).toBitVec)
def Wr(at_:Nat)(d l0 l:Ua)(k:Nat):Prop:=∀j,l[j]? = if at_<=j/\j<at_+k then (l0[j]?).map (λx=>updB d x (j-at_)) else l0[j]?
theorem Wr.step{at_:Nat}{d l0 l:Ua}{k:Nat}(h:Wr at_ d l0 l k)(hl:l.length=l0.length)(hk:at_+k<l.length):Wr at_ d l0 (l.set (at_+k) (updB d l[at_+k] k)) (k+1):=by
 intro j;rw[List.getElem?_set];have hx:l0[at_+k]? = some l[at_+k]:=by
  have:=h (at_+k);rw[if_neg (by omega),Qa hk]at this;exact this.symm
 by_cases e:at_+k=j
 ·subst e;rw[if_pos rfl,if_pos hk,if_pos (by omega),hx,show at_+k-at_=k by omega];rfl
 ·rw[if_neg e,h j];by_cases e2:at_<=j/\j<at_+k
  ·rw[if_pos e2,if_pos (by omega)]
  ·rw[if_neg e2,if_neg (by omega)]
theorem Veha(at_:Nat)(len:Int)(d:Ua)(b:Int)(hb:b<0)(hb2:-9223372036854775808<=b)(ps:Int)(l0:Ua)(z:Jk)(hn:0<=len)(h1:(at_:Int)+len<=(l0.length:Int))(h2:(l0.length:Int)<=100000)(hd:d=[]\/len<=(d.length:Int)) :
  Ok (Zet_L0 ((at_:Int),len,d,b,(ps,l0,()),(z,()),(0:Int),())) λq=>∃l:Ua,l.length=l0.length/\Wr at_ d l0 l len.toNat/\q=Sum.inr (b,(ps,l,()),(z,()),()):=by
 unfold Zet_L0 i7;refine Ok.iter (λs=>∃(k:Nat) (l:Ua),l.length=l0.length/\Wr at_ d l0 l k/\s=((at_:Int),len,d,b,(ps,l,()),(z,()),(k:Int),())/\(k:Int)<=len) (λs=>(len-s.2.2.2.2.2.2.1).toNat) ⟨0,l0,rfl,λj=>by rw[if_neg (by omega)],rfl,hn⟩ (by rw[Vaa];dsimp only;omega) ?_;rintro s ⟨k,l,hl,hw,rfl,hk⟩;dsimp only;unfold Zet_L0b;refine Ok.cond (λhc=>?_) (λhc=>Ok.some ⟨l,hl,by have:=Up hc;rw[show len.toNat=k by omega];exact hw,rfl⟩);have hc:=Uo hc;rw[Un (by omega:¬ b=0),Uj];rw[wI ((at_:Int)+(k:Int)) (by omega),wI ((k:Int)+1) (by omega)];dsimp only;have hlt:at_+k<l.length:=by omega
 have st:=hw.step hl hlt;rw[Um (by omega:0<=(at_:Int)+(k:Int)),Um (by omega:(at_:Int)+(k:Int)<(l.length:Int)),show (true&&true)=true from rfl,show ((at_:Int)+(k:Int)).toNat=at_+k by omega,Qa hlt];simp only[Ui,bindU];unfold updB at st;refine Ok.cond (λhe=>?_) (λhe=>?_)
 ·rw[Un (by omega:¬ 0<b),Uj];rw[he,Ui]at st;refine Ok.some ⟨⟨k+1,_,by rw[Qf];exact hl,st,rfl,by omega⟩,?_⟩;dsimp only;omega
 ·rw[he,Uj]at st;have he:=Up he;have hdl:len<=(d.length:Int):=by
   rcases hd with rfl|hd
   ·simp at he
   ·exact hd
  have hkd:k<d.length:=by omega
  rw[gIn (Qa hkd),bindU,Un (by omega:¬ 0<b),Uj];rw[show d.getD k 0=d[k] from by rw[List.getD_eq_getElem?_getD,Qa hkd];rfl]at st;refine Ok.some ⟨⟨k+1,_,by rw[Qf];exact hl,st,rfl,by omega⟩,?_⟩;dsimp only;omega
theorem Vjt(f:Jk)(h:FOk f)(at_:Nat)(len:Int)(d:Ua)(b:Int)(hb:b<0)(hb2:-9223372036854775808<=b)(hn:0<=len)(h1:(at_:Int)+len<=(f.bytes.length:Int))(hd:d=[]\/len<=(d.length:Int)):Ok (Zet f (at_:Int) len d b) λr=>Chg f b r/\Wr at_ d f.bytes r.2.1.bytes len.toNat:=by
 have a1:=h.lo;have a2:=h.hi;have a3:=h.ln;unfold Zet;rw[Vab (by omega) (by omega),Ui];refine Ok.bm (Veha at_ len d b hb hb2 f.ja f.bytes _ hn h1 (by omega) hd) ?_;rintro q ⟨l,hl,hw,rfl⟩;exact Ok.some ⟨⟨⟨a1,a2,by dsimp only;omega⟩,rfl,rfl,rfl⟩,hw⟩
theorem Vb4a(f:Jk)(h:FOk f)(p:Nat)(b:Int)(hb:b<0)(hb2:-9223372036854775808<=b)(h1:p<=1):Ok (Zfr f (p:Int) b) λr=>Chg f b r/\Wr (p*f.ja.toNat) [] f.bytes r.2.1.bytes f.ja.toNat:=by
 have a1:=h.lo;have a2:=h.hi;have a3:=h.ln;obtain⟨m,hm⟩:∃m:Nat,f.ja=(m:Int):=⟨f.ja.toNat,by omega⟩;have hp:p*m<=m:=by
  rcases (by omega:p=0\/p=1) with rfl|rfl<;>omega
 unfold Zfr;rw[Vla f h p 0 0 (by omega) (by omega) (by omega) (by omega) (by omega),bindU];simp only[Uk,Qe,Uj];rw[hm,show (p:Int)*(m:Int)=((p*m:Nat):Int) by rw[Int.natCast_mul],Va1 (by omega) (by omega),Qh];refine Ok.bm (Vjt f h (p*m) (m:Int) [] b hb hb2 (by omega) (by omega) (.inl rfl)) ?_;rintro⟨_,g,c,e,_⟩ hg;rw[Qh]at hg;exact Ok.some hg
theorem Vzx(f:Jk)(h:FOk f)(d:Ua)(b:Int)(hb:b<0)(hb2:-9223372036854775808<=b)(h4:(d.length:Int)<=f.ja):Ok (Zdm f 0 0 d b) λr=>Chg f b r/\Wr 0 d f.bytes r.2.1.bytes d.length:=by
 have a1:=h.lo;have a2:=h.hi;have a3:=h.ln;unfold Zdm;rw[Vla f h 0 0 _ (by omega) (by omega) (by omega) (by omega) (by omega),bindU];simp only[Uk,Qe,Uj];rw[Int.zero_mul,show Qd .i64 (Qd .i64 0+0)=((0:Nat):Int) from rfl];refine Ok.bm (Vjt f h 0 (d.length:Int) d b hb hb2 (by omega) (by omega) (.inr (Int.le_refl _))) ?_;rintro⟨_,g,c,e,_⟩ hg;rw[Qh]at hg;exact Ok.some hg
def hdrF(g:Int):Ua:=[Ql 64 g,hsh 7 ([Ql 64 g].flatMap w8)>>>1].flatMap w8
theorem Vij(g:Int):Zeu g=some ((),hdrF g,()):=by
 unfold Zeu;rw[rW1,bindU];rw[rHash _ _ (by simp[w8]),bindU];rw[rW2,bindU];rfl
theorem Vav(g:Int):(hdrF g).length=16:=by simp[hdrF,w8]
theorem Veia(f:Jk)(h:FOk f)(e:Qg 16 f.bytes=hdrF 1):Zbl f 0=some ((),1,()):=by
 have a1:=h.lo;have a2:=h.hi;have a3:=h.ln;unfold Zbl;rw[Int.zero_mul,show Qd .i64 (Qd .i64 0+16)=16 from rfl,show Qd .i64 0=0 from rfl];dsimp only;rw[Um (by omega:(0:Int)<=16),Um (by omega:(16:Int)<=(f.bytes.length:Int)),Um (by omega:(0:Int)<=0),Um (by decide:(0:Int)<=((16:Int).toNat:Int)),show (16:Int).toNat=16 from rfl,show (0:Int).toNat=0 from rfl,List.drop_zero,e,Vav];rw[show Zgq (Qg 8 (hdrF 1))=some ((),1#64,()) from by
  rw[show Qg 8 (hdrF 1)=w8 1#64 from rfl];kernel_rfl]
 simp only[Qk,Ui,bindU];rw[show Qd .i64 ((1#64).toNat:Int)=1 from rfl,Vij,bindU];simp
theorem Vgra(x:UInt8):Qb ((255:UInt8).toBitVec&&&x.toBitVec)=x:=by
 apply UInt8.eq_of_toBitVec_eq;show (255#8&&&x.toBitVec)=x.toBitVec;rw[show (255#8:BitVec 8)=BitVec.allOnes 8 from rfl,BitVec.allOnes_and]
end Go.Proofs.YtnfhkhlbdgbkjaaGreatDoor

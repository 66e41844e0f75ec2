/- The device of the reference: the steps of a request are total. -/
import Derived.Test.YtnfhkhlbdgbkjaaGreatDoorMqR
set_option linter.unusedVariables false
set_option linter.unusedSimpArgs false
set_option maxRecDepth 100000
namespace Go.Proofs.YtnfhkhlbdgbkjaaGreatDoor
open Go Go.Abs
open Go.IntKind renaming bits → Qa, wrap → Qd
open _root_.List renaming length_cons → Qb, length_nil → Qc, getElem?_eq_getElem → Qh, length_append → Qi, length_replicate → Qk, getElem_mem → Ql
open _root_.BitVec renaming ofInt → Qe
open _root_.Int renaming toNat_natCast → Qf, fdiv → Qg, tmod → Qp
open _root_.Nat renaming zero_le → Qj
open _root_.UInt8 renaming ofBitVec → Qm
open _root_.Bool renaming not_true → Qn
open _root_.Sum renaming inr → Qo
theorem DevOk.jao{d:Jd}(h:DevOk d)(n:Int):DevOk { d with jao:=n }:=⟨h.on,h.v,h.n0,h.n1⟩
structure RepOk(p:Jj):Prop where
 a:p.jaf.length<=10000
 i:p.iD.length<=10000
structure WOk(r:Jb)(g:List Jl)(w:Je):Prop where
 d:DevOk w.d
 b:w.jaa = -1
 p:RepOk w.ji
 r:w.r=r
 g:w.g=g
def fl(w:Je)(e:Int):Je:=bif decide (w.err=0) then { w with err:=e } else w
theorem Vbh(w:Je)(e:Int):Zbj (w,()) e=some (((fl w e,()),()),(!decide ((fl w e).err=0)),()):=by
 unfold Zbj fl;dsimp only;cases h:decide (w.err=0)
 ·rw[Uj,Uj,h]
 ·rfl
theorem WOk.fl{r:Jb}{g:List Jl}{w:Je}(h:WOk r g w)(e:Int):WOk r g (fl w e):=by
 unfold Proofs.YtnfhkhlbdgbkjaaGreatDoor.fl;cases decide (w.err=0)
 ·exact h
 ·exact⟨h.d,h.b,h.p,h.r,h.g⟩
theorem Vh0a{r:Jb}{g:List Jl}{w:Je}(h:WOk r g w):Ok (Zby (w,())) λq=>DevOk q.2.1/\RepOk q.2.2.1:=by
 unfold Zby;exact Ok.cond (λ_=>Ok.some ⟨h.d,by simp,by simp⟩) (λ_=>Ok.some ⟨h.d,h.p⟩)
theorem Vc4{r:Jb}{g:List Jl}{w:Je}(h:WOk r g w):Ok ((Zby (w,())).bind λr4=>(some ((),(r4.2.1,r4.2.2.1,r4.2.2.2.1,())):Option (Unit×(Jd×Jj×Int×Unit)))) λq=>DevOk q.2.1/\RepOk q.2.2.1:=by
 refine Ok.bm (Vh0a h) ?_;rintro⟨_,d,p,b,_⟩ hq;exact Ok.some hq
theorem Vf7{r:Jb}{g:List Jl}{w:Je}(h:WOk r g w):Ok (Zbi (w,())) λq=>WOk r g q.1.1.1:=by
 unfold Zbi;refine Ok.bm (Vya w.d h.d.v) ?_;rintro⟨_,d,x,_⟩ ⟨n,rfl⟩;exact Ok.some ⟨h.d.jao n,h.b,h.p,h.r,h.g⟩
theorem Vnw(r:Jb)(h:SaneQ r):Ok (Zdc r) λ_=>True:=by
 rw[Vo2 r h];exact Ok.some trivial
theorem Vly{r:Jb}{g:List Jl}{w:Je}(h:WOk r g w)(hs:SaneQ r)(n:Int)(l:Ua):Ok (Zae (w,()) n l) λq=>WOk r g q.1.1.1:=by
 unfold Zae;refine Ok.cond (λ_=>Ok.some h) λ_=>?_;refine Ok.bm (Vnw _ (by dsimp only;rw[h.r];exact hs)) λ_ _=>?_;refine Ok.bm (Vjd _ _ _ _ _ _) ?_;rintro⟨_,e,_⟩ _;dsimp only;rw[Vbh,bindU];exact Ok.some (h.fl e)
theorem Vyq{r:Jb}{g:List Jl}{w:Je}(h:WOk r g w)(hg:g.length<=1000000)(v:Bool):Ok (Zax (w,()) v) λq=>WOk r g q.1.1.1:=by
 unfold Zax;refine Ok.cond (λ_=>Ok.some h) λ_=>?_;refine Ok.bm (Va3a _ _ _ _ (by dsimp only;rw[h.g];exact hg) h.d.n0 h.d.n1) ?_;rintro⟨_,c,e,_⟩ hc;dsimp only at *;refine Ok.cond (λhe=>?_) λ_=>?_
 ·have he:=hc (Uo he);rw[Vbh,bindU];refine Ok.some (WOk.fl (w:=⟨⟨w.d.jl,w.d.jo,w.d.on,c.at_,w.d.jay,w.d.jao,w.d.jac,w.d.ju,w.d.next⟩,w.r,w.g,w.jaa,w.ji,w.err⟩) ⟨⟨h.d.on,h.d.v,he.1,he.2⟩,h.b,h.p,h.r,h.g⟩ _)
 ·rw[Vbh,bindU];exact Ok.some (h.fl e)
theorem Vo8{r:Jb}{g:List Jl}{w:Je}(h:WOk r g w)(d:Jd)(n e:Int)(hd:DevOk d)(he:e≠16)(hn:e=0->n = -1):Ok (Zbk (w,()) d n e) λq=>WOk r g q.1.1.1:=by
 unfold Zbk;refine Ok.cond (λh0=>?_) λ_=>?_
 ·rw[Vbh,bindU];exact Ok.some (WOk.fl (w:=⟨d,w.r,w.g,n,w.ji,w.err⟩) ⟨hd,hn (Uo h0),h.p,h.r,h.g⟩ _)
 ·rw[Un he,Uj,Vbh,bindU];exact Ok.some (WOk.fl (w:=⟨d,w.r,w.g,w.jaa,w.ji,w.err⟩) ⟨hd,h.b,h.p,h.r,h.g⟩ _)
theorem Vi3{r:Jb}{g:List Jl}{w:Je}(h:WOk r g w)(l:List Jf)(hv:Vals 1000 l)(hl:l.length<=1000):Ok (Zba (w,()) l) λq=>WOk r g q.1.1.1:=by
 unfold Zba;refine Ok.cond (λ_=>Ok.some h) λ_=>?_;rw[h.b];refine Ok.bm (Vqv w.d h.d.on h.d.v 1000 (by omega) l hv (by omega) (-1) (by omega) (by omega)) ?_;rintro⟨_,d,c,e,_⟩ (⟨rfl,he⟩|⟨v,k1,rfl,k2,k3⟩)
 ·refine Ok.bm (Vo8 h _ _ _ h.d he.2 λh0=>absurd h0 he.1) ?_;rintro⟨⟨⟨w2,_⟩,_⟩,_⟩ hw;exact Ok.some hw
 ·dsimp only at *;subst k2;subst k3;refine Ok.bm (Vo8 h _ _ _ ⟨h.d.on,k1,h.d.n0,h.d.n1⟩ (by decide) λ_=>rfl) ?_;rintro⟨⟨⟨w2,_⟩,_⟩,_⟩ hw;exact Ok.some hw
theorem Va8a{r:Jb}{g:List Jl}{w:Je}(h:WOk r g w)(n:Int):Ok (Zaz (w,()) n) λq=>WOk r g q.1.1.1:=by
 unfold Zaz;refine Ok.cond (λ_=>Ok.cond (λ_=>?_) λ_=>Ok.some h) λ_=>Ok.some h;refine Ok.bm (Vhya _ _) λq _=>?_;exact Ok.some ⟨⟨h.d.on,h.d.v,h.d.n0,h.d.n1⟩,h.b,h.p,h.r,h.g⟩
theorem Vkb{r:Jb}{g:List Jl}{w:Je}(h:WOk r g w):Ok (Zar (w,())) λq=>WOk r g q.1.1.1:=by
 unfold Zar;refine Ok.cond (λ_=>Ok.some h) λ_=>?_;refine Ok.bm (Vns _ _) ?_;rintro⟨_,x,e,_⟩ _;dsimp only;rw[Vbh,bindU];refine Ok.cond (λ_=>Ok.some (h.fl e)) λ_=>?_;refine Ok.bm (Vf7 (h.fl e)) ?_;rintro⟨⟨⟨w2,_⟩,_⟩,x2,_⟩ hw;exact Ok.some ⟨⟨hw.d.on,hw.d.v,hw.d.n0,hw.d.n1⟩,hw.b,hw.p,hw.r,hw.g⟩
theorem Vyr{r:Jb}{g:List Jl}{w:Je}(h:WOk r g w)(l:Ua)(hl:l.length<=100000):Ok (Zay (w,()) l) λq=>WOk r g q.1.1.1/\q.2.1.value.length=8:=by
 unfold Zay;refine Ok.bm (Vf5 _ h.d.v) λ_ _=>?_;refine Ok.bm (Vgo l hl) λ_ _=>?_;refine Ok.bm (Vi0 _ _) λ_ _=>?_;rw[rW1,bindU];exact Ok.some ⟨h,by simp[w8]⟩
theorem Vo9(n:Int):Zfo n=some ((),⟨4,[Qm (Qe 8 n)]⟩,()):=rfl
theorem Vr7{r:Jb}{g:List Jl}{w:Je}(h:WOk r g w)(x:Ub):Ok (Zaj (w,()) x) λq=>WOk r g q.1.1.1:=by
 unfold Zaj ZajG;refine Ok.bm (Vqx _ h.d.v) λp _=>?_;refine Ok.bm (Vym _) λq _=>?_;rw[Vbh,bindU];refine Ok.cond (λ_=>Ok.some (h.fl _)) λ_=>?_;rw[Vo9,bindU];refine Ok.bm (Vi3 (h.fl _) _ (Vals.one (by simp)) (by simp)) ?_;rintro⟨⟨⟨w2,_⟩,_⟩,b,_⟩ hw;refine Ok.cond (λ_=>Ok.some hw) λ_=>?_;refine Ok.bm (Vf5 _ hw.d.v) λ_ _=>?_;refine Ok.bm (Vi0 _ _) λ_ _=>?_;refine Ok.bm (Vyn _ _) λs _=>?_;rw[Vbh,bindU];exact Ok.some (WOk.fl (w:=⟨⟨w2.d.jl,w2.d.jo,w2.d.on,w2.d.now,w2.d.jay,w2.d.jao,s.2.1.jac,w2.d.ju,w2.d.next⟩,w2.r,w2.g,w2.jaa,w2.ji,w2.err⟩) ⟨⟨hw.d.on,hw.d.v,hw.d.n0,hw.d.n1⟩,hw.b,hw.p,hw.r,hw.g⟩ _)
theorem Vlz(d:Jd)(h:DevOk d)(now:Int)(h0:0<=now)(h1:now<=1099511627776)(r:Jb)(g:List Jl)(k:Int)(hk:r.kind=k)(hk4:k≠4)(hv:Zbx r=some ((),0,())):Ok (Zef d now r g (-1) k) λq=>WOk r g q.2.1/\q.2.2.1=0:=by
 unfold Zef;rw[h.on,Qn,Uj,Un (by omega),Uj,Un (by omega),Uj,Um hk,Qn,Uj,hv,bindU,bindU];dsimp only;rw[show (!decide ((0:Int)=0))=false from rfl,Uj,Un hk4,Bool.not_false,Ui];have hx:0<=(bif decide (d.now<now) then now else d.now)/\(bif decide (d.now<now) then now else d.now)<=1099511627776:=by
  have:=h.n0;have:=h.n1;by_cases hc:d.now<now
  ·rw[Um hc,Ui];omega
  ·rw[Un hc,Uj];omega
 exact Ok.some ⟨⟨⟨h.on,h.v,hx.1,hx.2⟩,rfl,⟨by simp,by simp⟩,rfl,rfl⟩,rfl⟩
theorem weakL(x:Int)(l:Ua)(hl:l.length<=1000):Ok (Zfe_L0 (x,true,(l,0),())) λ_=>True:=by
 unfold Zfe_L0 Yi3;refine Ok.iter (λs=>∃(b:Bool) (p:Nat),p<=l.length+4/\s=(x,b,(l,p),())) (λs=>l.length+4-s.2.2.1.2) ⟨true,0,by omega,rfl⟩ (by rw[Vaa];dsimp only;omega) ?_;rintro s ⟨b,p,hp,rfl⟩;dsimp only;unfold Zfe_L0b;refine Ok.cond (λhc=>?_) (λ_=>Ok.some trivial);have hc:=Uo hc;have hw:1<=(Utf8.decode (⟨l.toArray⟩:ByteArray) p).2/\(Utf8.decode (⟨l.toArray⟩:ByteArray) p).2<=4:=by
  unfold Utf8.decode;simp only[];repeat' split
  all_goals simp
 dsimp only at *;refine Ok.cond (λ_=>Ok.some trivial) λ_=>Ok.cond (λ_=>?_) λ_=>?_;all_goals exact Ok.some ⟨⟨_,_,by omega,rfl⟩,by dsimp only;omega⟩
theorem Vfya(l:Ua):Ok (Zfe l) λ_=>True:=by
 unfold Zfe;refine Ok.cond (λ_=>Ok.some trivial) λ_=>Ok.cond (λ_=>Ok.some trivial) λh=>?_;have h:=Up h;unfold Zhk Zbn Zbf;rw[Um (by omega:l.length<=9223372036854775807),Ui,bindU];refine Ok.cond (λ_=>Ok.some trivial) λ_=>?_;rw[Um (by omega:l.length<9223372036854775807),Ui,bindU];refine Ok.cond (λ_=>Ok.some trivial) λ_=>?_;rw[bindU];refine Ok.bm (weakL _ l (by omega)) ?_;rintro (⟨b,_⟩|⟨b,_⟩) _
 ·exact Ok.some trivial
 ·exact Ok.some trivial
theorem Vys(d:Jd)(h:DevOk d)(now:Int)(h0:0<=now)(h1:now<=1099511627776)(r:Jb)(g:List Jl)(hk:r.kind=7)(hv:Zbx r=some ((),0,())):Ok (Zdk d now r g (-1)) λq=>DevOk q.2.1/\RepOk q.2.2.1:=by
 unfold Zdk;refine Ok.bm (Vlz d h now h0 h1 r g 7 hk (by decide) hv) ?_;rintro⟨_,w,e,_⟩ ⟨hw,he⟩;dsimp only at *;subst he;rw[show (!decide ((0:Int)=0))=false from rfl,Uj];refine Ok.bm (Q:=λ(j:(Jb×Unit)×(Jd×Unit)×(Jj×Unit)×(Je×Unit)×Unit)=>j.1.1=r/\WOk r g j.2.2.2.1.1) (Ok.bm (Vqx _ hw.d.v) λp _=>Ok.cond (λ_=>by rw[Vbh,bindU];exact Ok.some ⟨rfl,hw.fl _⟩) λ_=>Ok.some ⟨rfl,hw⟩) ?_;rintro⟨⟨r',_⟩,⟨z1,_⟩,⟨z2,_⟩,⟨w1,_⟩,_⟩ ⟨rfl,hw1⟩;dsimp only at *;refine Ok.bm (Vkb hw1) ?_;rintro⟨⟨⟨w2,_⟩,_⟩,x,_⟩ hw2;refine Ok.cond (λ_=>Vc4 hw2) λ_=>?_;refine Ok.bm (Vr2 _ _) ?_;rintro⟨_,t,e2,_⟩ ht;dsimp only at *;rw[Vbh,bindU];refine Ok.cond (λ_=>Vc4 (hw2.fl _)) λ_=>?_;refine Ok.bm (Vfya _) λb _=>?_;refine Ok.cond (λ_=>?_) λ_=>?_
 ·rw[Vbh,bindU];exact Vc4 ((hw2.fl _).fl _)
 refine Ok.bm (Vyr (hw2.fl _) t (by omega)) ?_;rintro⟨⟨⟨w3,_⟩,_⟩,pr,_⟩ ⟨hw3,hp⟩;rw[Vo9,bindU];dsimp only at *;refine Ok.bm (Vi3 hw3 [pr,⟨4,[Qm (Qe 8 8)]⟩] (Vals.app (Vals.one (by omega)) (Vals.one (by simp))) (by simp)) ?_;rintro⟨⟨⟨w4,_⟩,_⟩,b4,_⟩ hw4;refine Ok.cond (λ_=>?_) λ_=>Vc4 hw4;exact Vc4 (w:=⟨⟨w4.d.jl,w4.d.jo,w4.d.on,w4.d.now,w4.d.jay,w4.d.jao,0,w4.d.ju,w4.d.next⟩,w4.r,w4.g,w4.jaa,w4.ji,w4.err⟩) ⟨⟨hw4.d.on,hw4.d.v,hw4.d.n0,hw4.d.n1⟩,hw4.b,hw4.p,hw4.r,hw4.g⟩
theorem Va9a(d:Jd)(h:DevOk d)(now:Int)(h0:0<=now)(h1:now<=1099511627776)(r:Jb)(g:List Jl)(hk:r.kind=9)(hv:Zbx r=some ((),0,())):Ok (Zee d now r g (-1)) λq=>DevOk q.2.1/\RepOk q.2.2.1:=by
 unfold Zee;refine Ok.bm (Vlz d h now h0 h1 r g 9 hk (by decide) hv) ?_;rintro⟨_,w,e,_⟩ ⟨hw,he⟩;dsimp only at *;subst he;rw[show (!decide ((0:Int)=0))=false from rfl,Uj];refine Ok.bm (Q:=λ(j:(Jb×Unit)×(Jd×Unit)×(Jj×Unit)×(Je×Unit)×Unit)=>j.1.1=r/\WOk r g j.2.2.2.1.1) (Ok.cond (λ_=>by rw[Vbh,bindU];exact Ok.some ⟨rfl,hw.fl _⟩) λ_=>Ok.cond (λ_=>by rw[Vbh,bindU];exact Ok.some ⟨rfl,hw.fl _⟩) λ_=>Ok.some ⟨rfl,hw⟩) ?_;rintro⟨⟨r',_⟩,⟨z1,_⟩,⟨z2,_⟩,⟨w1,_⟩,_⟩ ⟨rfl,hw1⟩;dsimp only at *;refine Ok.bm (Q:=λ(j:(Jb×Unit)×(Jd×Unit)×(Jj×Unit)×(Je×Unit)×Unit)=>j.1.1=r'/\WOk r' g j.2.2.2.1.1) (Ok.bm (Vqx _ hw1.d.v) λp _=>Ok.cond (λ_=>by rw[Vbh,bindU];exact Ok.some ⟨rfl,hw1.fl _⟩) λ_=>Ok.some ⟨rfl,hw1⟩) ?_;rintro⟨⟨r'',_⟩,⟨z1,_⟩,⟨z2,_⟩,⟨w1,_⟩,_⟩ ⟨rfl,hw1⟩;dsimp only at *;refine Ok.bm (Vkb hw1) ?_;rintro⟨⟨⟨w2,_⟩,_⟩,x,_⟩ hw2;refine Ok.cond (λ_=>Vc4 hw2) λ_=>?_;refine Ok.bm (Vo5 _ _) ?_;rintro⟨_,t,e2,_⟩ _;dsimp only at *;rw[Vbh,bindU];refine Ok.cond (λ_=>Vc4 (hw2.fl _)) λ_=>?_;refine Ok.bm (Vr7 (hw2.fl _) _) ?_;rintro⟨⟨⟨w3,_⟩,_⟩,_⟩ hw3;refine Ok.cond (λ_=>Vc4 hw3) λ_=>?_;rw[Vo9,bindU];dsimp only at *;refine Ok.bm (Vi3 hw3 [⟨4,[Qm (Qe 8 8)]⟩] (Vals.one (by simp)) (by simp)) ?_;rintro⟨⟨⟨w4,_⟩,_⟩,b4,_⟩ hw4;refine Ok.cond (λ_=>Vc4 hw4) λ_=>?_;dsimp only at *;refine Ok.bm (Vf7 hw4) ?_;rintro⟨⟨⟨w5,_⟩,_⟩,x5,_⟩ hw5;dsimp only at *;refine Ok.bm (Va2a _ _ _ _ _) λq _=>?_;have hw6:WOk r'' g ⟨⟨w5.d.jl,w5.d.jo,w5.d.on,w5.d.now,w5.d.jay,w5.d.jao,w5.d.jac,q.2.1,w5.d.next⟩,w5.r,w5.g,w5.jaa,w5.ji,w5.err⟩:=⟨⟨hw5.d.on,hw5.d.v,hw5.d.n0,hw5.d.n1⟩,hw5.b,hw5.p,hw5.r,hw5.g⟩;refine Ok.bm (Vf7 hw6) ?_;rintro⟨⟨⟨w7,_⟩,_⟩,x7,_⟩ hw7;dsimp only at *;refine Ok.bm (Vfg _ _ _) λq2 _=>?_;exact Vc4 (w:=⟨w7.d,w7.r,w7.g,w7.jaa,⟨w7.ji.err,w7.ji.jaf,w7.ji.jad,w7.ji.jp,w7.ji.jk,w7.ji.iD,w7.ji.user,w7.ji.name,w7.ji.count,w7.ji.jv,q2.2.1,w7.ji.jae,w7.ji.jy,w7.ji.jaz,w7.ji.jaw,w7.ji.jax,w7.ji.jal,w7.ji.jz⟩,w7.err⟩) ⟨hw7.d,hw7.b,⟨hw7.p.a,hw7.p.i⟩,hw7.r,hw7.g⟩
structure CLt(c:Jg):Prop where
 r:c.rP.length<1000000
 n:c.name.length<1000000
theorem Vpa(c:Jg)(h:CLt c):Ok (Zad c) λr=>r.2.1.length<=160:=by
 rw[Vi2 c h.r h.n];exact Ok.some (Vq2 c)
theorem Vbaa(b:Ua)(hb:b.length<1000000):Ok (Zfh b) λr=>CLt r.2.1:=by
 unfold Zfh;refine Ok.bm (Va4a b hb) ?_;rintro⟨_,l,n,e,_⟩ ⟨n0,n1,hd⟩;dsimp only at n0 n1 hd |-;refine Ok.cond (λ_=>Ok.some ⟨by simp,by simp⟩) λhe=>?_;refine Ok.cond (λ_=>Ok.some ⟨by simp,by simp⟩) λh19=>?_;have hlen:l.length=19:=by
  have:decide ((l.length:Int)=19)=true:=by revert h19;cases decide ((l.length:Int)=19)<;>simp
  have:=Uo this;omega
 have g:∀i,i<19->∃x,l[i]? = some x/\x.data.length<1000000:=λi h=>⟨l[i],Qh (by omega),hd _ (Ql (by omega))⟩;obtain⟨x2,f2,d2⟩:=g 2 (by omega);obtain⟨x4,f4,d4⟩:=g 4 (by omega);obtain⟨x6,f6,d6⟩:=g 6 (by omega);obtain⟨x8,f8,d8⟩:=g 8 (by omega);obtain⟨x10,f10,d10⟩:=g 10 (by omega);obtain⟨x12,f12,d12⟩:=g 12 (by omega);obtain⟨x14,f14,d14⟩:=g 14 (by omega);obtain⟨x16,f16,d16⟩:=g 16 (by omega);obtain⟨x18,f18,d18⟩:=g 18 (by omega);rw[f2,f4,f6,f8,f10,f12,f14,f16,f18,hlen];simp only[bindU,Va7a,show decide ((2:Int)<((19:Nat):Int))=true from rfl,show decide ((4:Int)<((19:Nat):Int))=true from rfl,show decide ((6:Int)<((19:Nat):Int))=true from rfl,show decide ((8:Int)<((19:Nat):Int))=true from rfl,show decide ((10:Int)<((19:Nat):Int))=true from rfl,show decide ((12:Int)<((19:Nat):Int))=true from rfl,show decide ((14:Int)<((19:Nat):Int))=true from rfl,show decide ((16:Int)<((19:Nat):Int))=true from rfl,show decide ((18:Int)<((19:Nat):Int))=true from rfl,Ui];refine Ok.bm (Vpa _ ⟨by dsimp only;omega,by dsimp only;omega⟩) λq _=>?_;refine Ok.cond (λ_=>?_) λ_=>Ok.some ⟨by dsimp only;omega,by dsimp only;omega⟩;rw[Um n0,Um n1,show (true&&true)=true from rfl,Ui];exact Ok.some ⟨by dsimp only;omega,by dsimp only;omega⟩
theorem decC_ok(b:Ua)(hb:b.length<1000000):Ok (Zac b) λr=>CLt r.2.1:=by
 unfold Zac;refine Ok.bm (Vbaa b hb) ?_;rintro⟨_,c,n,ok,_⟩ hc;exact Ok.cond (λ_=>Ok.some ⟨by simp,by simp⟩) λ_=>Ok.cond (λ_=>Ok.some ⟨by simp,by simp⟩) λ_=>Ok.some hc
theorem Vyt(d:Jd)(h:VOk d.jo)(k:Int):Ok (Zfp d k) λr=>CLt r.2.1:=by
 unfold Zfp;refine Ok.bm (Vj8 256 (by omega) _ h.vl (by have:=h.ln;omega) _) ?_;rintro⟨_,l,_⟩ hl;refine Ok.bm (decC_ok l (by dsimp only at *;omega)) ?_;rintro⟨_,c,e,_⟩ hc;exact Ok.some hc
theorem Vnx(l:Ua)(h:l.length<1000000):Ok (Zdd l) λ_=>True:=by
 unfold Zdd;rw[rHash _ _ (by omega),bindU];exact Ok.some trivial
theorem id_ok(a b:Ub)(c:Jg)(h:CLt c):Ok (Zhu a b c) λr=>r.2.1.length<=1040:=by
 unfold Zhu;refine Ok.bm (Vpa c h) ?_;rintro⟨_,l,e,_⟩ hl;dsimp only at *;refine Ok.cond (λ_=>Ok.some (Qj _)) λ_=>Ok.cond (λ_=>?_) λ_=>?_
 ·refine Ok.bm (Vf4 _ _ _ (by decide)) λq _=>?_;refine Ok.bm (Viy _ _ _) ?_;rintro⟨_,s,_⟩ hs;exact Ok.some (by dsimp only at *;omega)
 ·rw[Um (by simp;omega),Ui];unfold Zcl;refine Ok.bind (Ok.bm (Vf4 _ _ _ (by decide)) λq _=>Ok.some ?_);refine Ok.bm (Vnx _ h.r) λq _=>?_;rw[rW1,bindU];refine Ok.bm (Vlu _ _ _ _) ?_;rintro⟨_,s,e,_⟩ ⟨hs,_⟩;exact Ok.some hs
theorem Vfza(c:Jg)(h:CLt c):Ok (Zfn c) λr=>r.2.1.length<=1040:=by
 unfold Zfn;refine Ok.bm (id_ok _ _ c h) ?_;rintro⟨_,l,e,_⟩ hl;exact Ok.some hl
theorem addL0(l:Ua)(b:Int)(d z:Jd)(c:Jg)(e:Ua)(x:Jp)(h:VOk d.jo)(p n:Int):Ok (Zgo_L0 (l,b,(d,()),(c,()),(z,()),e,(x,()),p,n,7,())) λq=>∃p2:Int,q=(l,b,(d,()),(c,()),(z,()),e,(x,()),p2,n,()):=by
 unfold Zgo_L0 Yi10;refine Ok.iter (λs=>∃(p2 k:Int),-1<=k/\k<=7/\s=(l,b,(d,()),(c,()),(z,()),e,(x,()),p2,n,k,())) (λs=>(s.2.2.2.2.2.2.2.2.2.1+1).toNat) ⟨p,7,by omega,by omega,rfl⟩ (by rw[Vaa];dsimp only;omega) ?_;rintro s ⟨p2,k,hk,hk2,rfl⟩;dsimp only;unfold Zgo_L0b;refine Ok.cond (λhc=>Ok.cond (λ_=>?_) λ_=>Ok.some ⟨p2,rfl⟩) λ_=>Ok.some ⟨p2,rfl⟩;have hc:=Uo hc;refine Ok.bm (Vyt d h _) λq _=>?_;rw[wI (k-1) (by omega)];exact Ok.cond (λ_=>Ok.some ⟨⟨_,_,by omega,by omega,rfl⟩,by dsimp only;omega⟩) λ_=>Ok.some ⟨⟨_,_,by omega,by omega,rfl⟩,by dsimp only;omega⟩
theorem addL2(l:Ua)(b:Int)(d z:Jd)(c:Jg)(e:Ua)(x:Jp)(h:VOk d.jo)(p n:Int):Ok (Zgo_L2 (l,b,(d,()),(c,()),(z,()),e,(x,()),p,n,7,())) λq=>∃p2 n2:Int,q=(l,b,(d,()),(c,()),(z,()),e,(x,()),p2,n2,()):=by
 unfold Zgo_L2 Yi10;refine Ok.iter (λs=>∃(p2 n2 k:Int),-1<=k/\k<=7/\s=(l,b,(d,()),(c,()),(z,()),e,(x,()),p2,n2,k,())) (λs=>(s.2.2.2.2.2.2.2.2.2.1+1).toNat) ⟨p,n,7,by omega,by omega,rfl⟩ (by rw[Vaa];dsimp only;omega) ?_;rintro s ⟨p2,n2,k,hk,hk2,rfl⟩;dsimp only;unfold Zgo_L2b;refine Ok.cond (λhc=>Ok.cond (λ_=>?_) λ_=>Ok.some ⟨p2,n2,rfl⟩) λ_=>Ok.some ⟨p2,n2,rfl⟩;have hc:=Uo hc;refine Ok.bm (Vyt d h _) ?_;rintro⟨_,c2,ok,_⟩ hc2;rw[wI (k-1) (by omega)];dsimp only at *;refine Ok.cond (λ_=>Ok.cond (λ_=>Ok.cond (λ_=>?_) λ_=>?_) λ_=>?_) λ_=>?_
 ·refine Ok.bm (Vfza c2 hc2) ?_;rintro⟨_,i,_⟩ hi;refine Ok.bm (Vnq d h i (by dsimp only at *;omega)) λq _=>?_;exact Ok.some ⟨⟨_,_,_,by omega,by omega,rfl⟩,by dsimp only;omega⟩
 all_goals exact Ok.some ⟨⟨_,_,_,by omega,by omega,rfl⟩,by dsimp only;omega⟩
theorem addL4(b:Int)(d z:Jd)(c:Jg)(e:Ua)(x:Jp)(h:VOk d.jo)(p n:Int):Ok (Zgo_L4 (b,(d,()),(c,()),(z,()),e,(x,()),p,n,0,15,())) λq=>∃m:Int,q=(b,(d,()),(c,()),(z,()),e,(x,()),p,n,m,()):=by
 unfold Zgo_L4 Yi10;refine Ok.iter (λs=>∃(m k:Int),0<=k/\k<=15/\s=(b,(d,()),(c,()),(z,()),e,(x,()),p,n,m,k,())) (λs=>s.2.2.2.2.2.2.2.2.2.1.toNat) ⟨0,15,by omega,by omega,rfl⟩ (by rw[Vaa];dsimp only;omega) ?_;rintro s ⟨m,k,hk,hk2,rfl⟩;dsimp only;unfold Zgo_L4b;refine Ok.cond (λhc=>?_) λ_=>Ok.some ⟨m,rfl⟩;have hc:=Uo hc;refine Ok.bm (Vqw d h _) λq _=>?_;rw[wI (k-1) (by omega)];refine Ok.cond (λ_=>?_) λ_=>Ok.cond (λ_=>?_) λ_=>?_;all_goals exact Ok.some ⟨⟨_,_,by omega,by omega,rfl⟩,by dsimp only;omega⟩
def DChg(r:Unit×(Jd×Int×Int×Unit)):Prop:=DevOk r.2.1/\r.2.2.2.1≠16/\(r.2.2.2.1=0->r.2.2.1 = -1)
theorem Vi4(d:Jd)(h:DevOk d)(l:List Jf)(hv:Vals 1000 l)(hl:l.length<=1000):Ok ((Zed d l (-1)).bind λr26=>(some ((),(r26.2.1,r26.2.2.1,r26.2.2.2.1,())):Option (Unit×(Jd×Int×Int×Unit)))) DChg:=by
 refine Ok.bm (Vqv d h.on h.v 1000 (by omega) l hv (by omega) (-1) (by omega) (by omega)) ?_;rintro⟨_,d2,c,e,_⟩ (⟨rfl,he⟩|⟨v,k1,rfl,k2,k3⟩)
 ·exact Ok.some ⟨h,he.2,λh0=>absurd h0 he.1⟩
 ·dsimp only at *;subst k2;subst k3;exact Ok.some ⟨⟨h.on,k1,h.n0,h.n1⟩,by dsimp only;decide,λ_=>rfl⟩
theorem Vf0a(c:Jg):valC c≠16:=by
 unfold valC;generalize rngC c=a;generalize (Lib.validD c.rP&&Lib.validD c.name)=b;generalize ((c.jm&&!c.je)||(c.jai&&!c.jm))=e;cases a<;>cases b<;>cases e<;>decide
theorem Vf1a(c:Jg):(encP c).2≠16:=by
 unfold encP;cases decide (valC c=0)
 ·exact Vf0a c
 ·exact (by decide:(0:Int)≠16)
theorem Vh1a(d:Jd)(h:DevOk d)(c:Jg)(hc:CLt c)(id:Ua)(hi:id.length<=1000000)(a b n:Int):Ok (Zgo d c id a b n (-1)) DChg:=by
  unfold Zgo;have bad:∀e:Int,NoE e->Ok (some ((),(d,(0:Int),e,())):Option (Unit×(Jd×Int×Int×Unit))) DChg:=λe he=>Ok.some ⟨h,he.2,λh0=>absurd h0 he.1⟩;rw[h.on,Qn,Uj,Vi2 c hc.r hc.n,bindU];have hel:=Vq2 c;refine Ok.cond (λh0=>bad _ ⟨?_,Vf1a c⟩) λ_=>?_
  · have:decide ((encP c).2=0)=false:=by revert h0;dsimp only;cases decide ((encP c).2=0) <;> simp
    exact Up this
  refine Ok.bm (Vc6a id hi) λq _=>?_;refine Ok.bm (Vgn _) λq2 _=>?_;refine Ok.cond (λ_=>bad _ ⟨by decide,by decide⟩) λ_=>?_;refine Ok.bm (addL0 _ _ d _ _ _ _ h.v _ _) ?_;rintro z ⟨p2,rfl⟩;refine Ok.bm (addL2 _ _ d _ _ _ _ h.v _ _) ?_;rintro z ⟨p3,n3,rfl⟩;dsimp only;refine Ok.bm (Vnq d h.v id hi) λq3 _=>?_;refine Ok.cond (λ_=>bad _ ⟨by decide,by decide⟩) λ_=>?_;refine Ok.bm (addL4 _ d _ _ _ _ h.v _ _) ?_;rintro z ⟨m,rfl⟩;dsimp only;refine Ok.cond (λ_=>bad _ ⟨by decide,by decide⟩) λ_=>?_;have el:∀x:Jp,Ok (Zan x) λr=>r.2.1.length<=11:=Vjb;have vl:Vals 1000 ([]:List Jf):=λp hp=>by cases hp
  have tail:∀(zz:Jd) (x:Jp) (l:List Jf),Vals 1000 l->l.length<=1->Ok ((Zan x).bind λr15=>(let v16:List (Jf):=([(⟨(Qd .i64 ((16:Int)+m)),r15.2.1⟩:Jf)]:List (Jf))
 (bif small (l.length+(v16:List (Jf)).length) 32 then ((bif (!decide (n3=(0:Int))) then (bif (!decide (n3=m)) then (let v17:List (Jf):=([(⟨(Qd .i64 ((16:Int)+n3)),[]⟩:Jf)]:List (Jf))
 (bif small ((l++v16).length+(v17:List (Jf)).length) 32 then (some ((-1:Int),(d,()),(zz,()),((l++v16)++v17),()))
 else none))
 else (some ((-1:Int),(d,()),(zz,()),(l++v16),())))
 else (some ((-1:Int),(d,()),(zz,()),(l++v16),()))).bind (λ(j18:(Int×(Jd×Unit)×(Jd×Unit)×(List (Jf))×Unit))=>((Zed j18.2.1.1 j18.2.2.2.1 j18.1).bind λr19=>(some ((),(r19.2.1,r19.2.2.1,r19.2.2.2.1,())):Option (Unit×(Jd×Int×Int×Unit))))))
 else none))) DChg:=by
    intro zz x l hl hl1;refine Ok.bm (el x) ?_;rintro⟨_,eb,_⟩ heb;dsimp only at *;have hv:Vals 1000 (l++[⟨Qd .i64 (16+m),eb⟩]):=hl.app (Vals.one (by dsimp only;omega));have hln:(l++[(⟨Qd .i64 (16+m),eb⟩:Jf)]).length<=1000:=by simp;omega
    rw[Vab (by simp only[Qb,Qc];omega) (by omega),Ui];refine Ok.bind (Ok.cond (λ_=>Ok.cond (λ_=>?_) λ_=>Ok.some (Vi4 d h _ hv hln)) λ_=>Ok.some (Vi4 d h _ hv hln));rw[Vab (by simp only[Qi,Qb,Qc];omega) (by omega),Ui];exact Ok.some (Vi4 d h _ (hv.app (Vals.one (by simp))) (by simp;omega))
  have one:Vals 1000 [(⟨Qd .i64 (64+p3),(encP c).1⟩:Jf)]:=Vals.one (by dsimp only;omega);refine Ok.cond (λ_=>Ok.cond (λ_=>bad _ ⟨by decide,by decide⟩) λ_=>?_) λ_=>?_
  · refine Ok.bind (Ok.cond (λ_=>?_) λ_=>Ok.some (tail _ _ _ vl (by simp)))
    rw[Vab (by simp) (by omega),Ui];exact Ok.some (tail _ _ _ one (by simp))
  · refine Ok.bind (Ok.cond (λ_=>?_) λ_=>Ok.some (tail _ _ _ vl (by simp)))
    rw[Vab (by simp) (by omega),Ui];exact Ok.some (tail _ _ _ one (by simp))
theorem Vh2a(c:Jg)(hc:CLt c):Ok (Zgl c) λ_=>True:=by
 unfold Zgl;rw[Vdv c hc.r hc.n,bindU];exact Ok.cond (λ_=>Ok.some trivial) λ_=>Ok.bm (Vyl _ _) λ_ _=>Ok.some trivial
theorem Vi5(a b c:Int):Zdh a b c=some ((),(decide (b<=a)&&decide (a<=c)),()):=by
 unfold Zdh;cases decide (b<=a)<;>rfl
theorem Vkc(a:Jr):Ok (Zai a) λr=>r.2.1=0->a.iD.length<=176:=by
  unfold Zai;dsimp only;have bad:∀e:Int,e≠0->Ok (some ((),(e,())):Option (Unit×(Int×Unit))) λr=>r.2.1=0->a.iD.length<=176:=λe he=>Ok.some λh=>absurd h he;have ek:∀(f:Int->Int),a.iD.length=176->Ok ((Zca a.key).bind λr=>(some ((),(r.2.2.1,())):Option (Unit×(Int×Unit)))) λr=>r.2.1=0->a.iD.length<=176:=λf h=>Ok.bm (Vgw _) λq _=>Ok.some λ_=>by omega
  have not0:∀ {n:Int},(decide ((0:Int)<n))=false->n<=0:=λh=>by have:=Up h;omega
  have is176:(!decide ((a.iD.length:Int)=176))=false->a.iD.length=176:=λh=>by
    have:decide ((a.iD.length:Int)=176)=true:=by revert h;cases decide ((a.iD.length:Int)=176) <;> simp
    have:=Uo this;omega
  rw[Vi5,Vi5];refine Ok.cond (λ_=>bad _ (by decide)) λ_=>?_;rw[bindU];refine Ok.cond (λ_=>bad _ (by decide)) λ_=>?_;rw[bindU];refine Ok.cond (λ_=>bad _ (by decide)) λ_=>?_;have fin:Ok (bif (decide (Qd .i64 ((Qe (Qa .i64) a.jan&&&Qe (Qa .i64) (64:Int)).toNat:Int)=(0:Int))) then (bif (!decide (a.jae=0#64)) then (some ((),((4:Int),())))
 else (bif (decide ((0:Int)<((a.iD).length:Int))) then (some ((),((4:Int),())))
 else (bif (!(decide (a.key.jc=(0:Int))&&(decide (a.key.jbb=0#64)&&true))) then (some ((),((4:Int),())))
 else (some ((),((0:Int),()))))))
 else (bif (!decide (((a.iD).length:Int)=(176:Int))) then (some ((),((4:Int),())))
 else ((Zca a.key).bind λr7=>(some ((),(r7.2.2.1,())):Option (Unit×(Int×Unit)))))) λr=>r.2.1=0->a.iD.length<=176:=
    Ok.cond (λ_=>Ok.cond (λ_=>bad _ (by decide)) λ_=>Ok.cond (λ_=>bad _ (by decide)) λh=>Ok.cond (λ_=>bad _ (by decide)) λ_=>Ok.some λ_=>by have:=not0 h;omega) λ_=>Ok.cond (λ_=>bad _ (by decide)) λh=>ek id (is176 h)
  refine Ok.cond (λ_=>Ok.cond (λ_=>bad _ (by decide)) λ_=>fin) λ_=>fin
theorem Vr8(a:Jr)(h:a.iD.length<=2000):Ok (Zaw a) λr=>r.2.1.length<=5000:=by
 unfold Zaw;refine Ok.bm (Vkc a) λq _=>?_;refine Ok.cond (λ_=>Ok.some (Qj _)) λ_=>?_;rw[rW1,bindU];dsimp only;rw[Vab (by simp[w8]) (by omega),Ui];refine Ok.cond (λ_=>?_) λ_=>Ok.some (by simp[w8]);refine Ok.bm (Vgw _) ?_;rintro⟨_,k,e,_⟩ hk;rw[rW1,bindU];dsimp only at *;rw[Vab (by simp[w8]) (by omega),Ui,Vab (by simp[w8];omega) (by omega),Ui,Vab (by simp[w8];omega) (by omega),Ui];exact Ok.some (by simp[w8];omega)
theorem Vr9(l:Ua)(h:l.length<=100000)(x:Ub):Ok (Zcj l x) λ_=>True:=by
 unfold Zcj;rw[Vab (by omega) (by omega),Ui,rW1,bindU];dsimp only;rw[Vab (by simp[w8];omega) (by omega),Ui,rHash _ _ (by simp[w8];omega),bindU];exact Ok.some trivial
theorem Vsa(l:Ua):Ok (Zav l) λr=>r.2.1.iD.length<=176:=by
 unfold Zav;refine Ok.bm (Q:=λz=>(∃e q,z=Qo ((),(⟨0#64,0,0,0,0#64,[],⟨0,0#64⟩⟩:Jr),e,q))\/(∃w,z=Sum.inl (l,w,())/\(l.length=11\/l.length=204))) ?_ ?_
 ·refine Ok.cond (λ_=>Ok.cond (λ_=>Ok.some (.inl ⟨_,_,rfl⟩)) λh=>Ok.some (.inr ⟨_,rfl,.inr ?_⟩)) λh=>Ok.some (.inr ⟨_,rfl,.inl ?_⟩)
  ·have:decide ((l.length:Int)=204)=true:=by revert h;cases decide ((l.length:Int)=204)<;>simp
   have:=Uo this;omega
  ·have:decide ((l.length:Int)=11)=true:=by revert h;cases decide ((l.length:Int)=11)<;>simp
   have:=Uo this;omega
 rintro z (⟨e,q,rfl⟩|⟨w,rfl,hl⟩)
 ·exact Ok.some (Qj _)
 simp only[Sum.elim_inl];rw[Um (by omega:(8:Int)<=(l.length:Int)),Ui];refine Ok.bm (Vc9 _) λq _=>?_;have g8:getI l 8=some (l[8]'(by omega)):=gIn (i:=8) (Qh (by omega));have g9:getI l 9=some (l[9]'(by omega)):=gIn (i:=9) (Qh (by omega));have g10:getI l 10=some (l[10]'(by omega)):=gIn (i:=10) (Qh (by omega));rw[g8,bindU,g9,bindU,g10,bindU];refine Ok.bm (Q:=λz=>(∃e q,z=Qo ((),(⟨0#64,0,0,0,0#64,[],⟨0,0#64⟩⟩:Jr),e,q))\/(∃w x,z=Sum.inl (l,w,x,()))) ?_ ?_
 ·refine Ok.cond (λh=>?_) λ_=>Ok.some (.inr ⟨_,_,rfl⟩);have h:=Uo h;have hl:l.length=204:=by omega
  rw[Um (by omega:(195:Int)<=(l.length:Int)),Ui];refine Ok.bm (Vnt _) λq _=>?_;refine Ok.cond (λ_=>Ok.some (.inl ⟨_,_,rfl⟩)) λ_=>?_;rw[Um (by omega:(19:Int)<=(l.length:Int)),Ui];refine Ok.bm (Vc9 _) λq _=>?_;rw[Ui,Vab (by rw[List.length_drop,List.length_take];omega) (by omega),Ui];exact Ok.some (.inr ⟨_,_,rfl⟩)
 rintro z (⟨e,q,rfl⟩|⟨w,x,rfl⟩)
 ·exact Ok.some (Qj _)
 simp only[Sum.elim_inl];refine Ok.bm (Vkc _) λq hq=>?_;refine Ok.cond (λ_=>Ok.some (Qj _)) λhe=>Ok.cond (λ_=>Ok.some (Qj _)) λ_=>Ok.some (hq ?_);have:decide (q.2.1=0)=true:=by revert he;cases decide (q.2.1=0)<;>simp
 exact Uo this
theorem Vf2a(d:Jd)(h:DevOk d)(now:Int)(h0:0<=now)(h1:now<=1099511627776)(r:Jb)(hs:SaneQ r)(g:List Jl)(hg:g.length<=1000000)(hk:r.kind=2)(hv:Zbx r=some ((),0,()))(hl:r.list=[])(hf:r.jk=0):Ok (Zfm d now r g (-1)) λq=>DevOk q.2.1/\RepOk q.2.2.1:=by
 unfold Zfm;refine Ok.bm (Vlz d h now h0 h1 r g 2 hk (by decide) hv) ?_;rintro⟨_,w,e,_⟩ ⟨hw,he⟩;dsimp only at *;subst he;rw[show (!decide ((0:Int)=0))=false from rfl,Uj];have hc:∀x:Ub,CLt ⟨r.rP,r.user,r.name,x,r.jc,r.je,r.jd,r.jm,false⟩:=λx=>⟨hs.rp,hs.nm⟩;rw[Vdv _ (hc _).r (hc _).n,bindU,Vbh,bindU];refine Ok.cond (λ_=>Vc4 (hw.fl _)) λ_=>?_;rw[hf,show decide ((2:Int)<0)=false from rfl,Uj];refine Ok.bm (Vly (hw.fl _) hs _ _) ?_;rintro⟨⟨⟨w2,_⟩,_⟩,tr,_⟩ hw2;dsimp only at *;refine Ok.bm (Q:=λ(j:(Jd×Unit)×(Jb×Unit)×(Jd×Unit)×(Jj×Unit)×(Je×Unit)×(Jg×Unit)×Bool×Unit)=>∃z1 z2 w,WOk r g w/\j=((d,()),(r,()),(z1,()),(z2,()),(w,()),(⟨r.rP,r.user,r.name,0#64,r.jc,r.je,r.jd,r.jm,false⟩,()),tr,())) ?_ ?_
 ·refine Ok.cond (λ_=>Ok.cond (λ_=>?_) λ_=>Ok.some ⟨_,_,_,hw2,rfl⟩) λ_=>Ok.some ⟨_,_,_,hw2,rfl⟩;refine Ok.bm (Vqx _ hw2.d.v) λp _=>?_;refine Ok.cond (λ_=>?_) λ_=>Ok.some ⟨_,_,_,hw2,rfl⟩;rw[Vbh,bindU];exact Ok.some ⟨_,_,_,hw2.fl _,rfl⟩
 rintro j ⟨z1,z2,w3,hw3,rfl⟩;dsimp only;refine Ok.bm (Q:=λ(j:(Jd×Unit)×(Jb×Unit)×(Jd×Unit)×(Jj×Unit)×(Je×Unit)×(Jg×Unit)×Bool×(Jn×Unit)×Unit)=>∃w cs,WOk r g w/\j=((d,()),(r,()),(z1,()),(z2,()),(w,()),(⟨r.rP,r.user,r.name,0#64,r.jc,r.je,r.jd,r.jm,false⟩,()),tr,(cs,()),())) ?_ ?_
 ·refine Ok.cond (λ_=>?_) λ_=>?_;all_goals
   refine Ok.bm (Vyq hw3 hg _) ?_;rintro⟨⟨⟨w4,_⟩,_⟩,cs,_⟩ hw4;exact Ok.some ⟨_,_,hw4,rfl⟩
 rintro j ⟨w4,cs,hw4,rfl⟩;dsimp only;have lp:∀c,Zfm_L0 ((d,()),(r,()),(z1,()),(z2,()),(w4,()),(c,()),tr,(cs,()),(0:Int),())=some ((d,()),(r,()),(z1,()),(z2,()),(w4,()),(c,()),tr,(cs,()),()):=by
  intro c;unfold Zfm_L0 Yi9;rw[Vaa,show (1180591620717411303424:Nat)=1180591620717411303423+1 from rfl,Vac];unfold Zfm_L0b;rw[hl];rfl
 rw[lp,bindU];dsimp only;rw[hf];refine Ok.bm (Q:=λ(j:(Jd×Unit)×(Jb×Unit)×(Jd×Unit)×(Jj×Unit)×(Je×Unit)×(Jg×Unit)×Bool×(Jn×Unit)×Int×Unit)=>j=((d,()),(r,()),(z1,()),(z2,()),(w4,()),(⟨r.rP,r.user,r.name,0#64,r.jc,r.je,r.jd,r.jm,false⟩,()),tr,(cs,()),0,())) (Ok.bind (Ok.cond (λ_=>Ok.some (Ok.some rfl)) λ_=>Ok.some (Ok.some rfl))) ?_;rintro j rfl;dsimp only;refine Ok.cond (λ_=>Vc4 hw4) λ_=>?_;refine Ok.bm (Vf7 hw4) ?_;rintro⟨⟨⟨w5,_⟩,_⟩,x5,_⟩ hw5;dsimp only at *;refine Ok.bm (Vf7 hw5) ?_;rintro⟨⟨⟨w6,_⟩,_⟩,x6,_⟩ hw6;dsimp only at *;refine Ok.bm (Vf5 _ hw6.d.v) λq6 _=>?_;refine Ok.bm (id_ok _ _ _ (hc _)) ?_;rintro⟨_,id,e7,_⟩ hid;dsimp only at *;rw[hf,show decide ((0:Int)=1)=false from rfl,Uj,bindU];dsimp only;rw[hw6.b];refine Ok.bm (Vh1a _ hw6.d _ (hc _) id (by omega) _ _ _) ?_;rintro⟨_,d8,c8,e8,_⟩ ⟨k1,k2,k3⟩;dsimp only at *;refine Ok.bm (Vo8 hw6 d8 c8 e8 k1 k2 k3) ?_;rintro⟨⟨⟨w9,_⟩,_⟩,_⟩ hw9;refine Ok.cond (λ_=>Vc4 hw9) λ_=>?_;dsimp only at *;refine Ok.bm (Q:=λ(j:(Jd×Unit)×(Jb×Unit)×(Jd×Unit)×(Jj×Unit)×(Je×Unit)×(Jg×Unit)×Int×Ua×Int×Int×Unit)=>∃c n1 n2 n3,CLt c/\j=((d,()),(r,()),(z1,()),(z2,()),(w9,()),(c,()),n1,id,n2,n3,())) (Ok.cond (λ_=>Ok.some ⟨_,_,_,_,hc x5,rfl⟩) λ_=>Ok.cond (λ_=>Ok.some ⟨_,_,_,_,hc x5,rfl⟩) λ_=>Ok.some ⟨_,_,_,_,hc x5,rfl⟩) ?_;rintro j ⟨c10,n1,n2,n3,hc10,rfl⟩;dsimp only;refine Ok.bm (Q:=λ(j:(Jd×Unit)×(Jb×Unit)×(Jd×Unit)×(Jj×Unit)×(Je×Unit)×(Jg×Unit)×Int×Ua×Int×Int×Unit)=>∃n3,j=((d,()),(r,()),(z1,()),(z2,()),(w9,()),(c10,()),n1,id,n2,n3,())) (Ok.cond (λ_=>Ok.some ⟨_,rfl⟩) λ_=>Ok.some ⟨_,rfl⟩) ?_;rintro j ⟨n4,rfl⟩;dsimp only;refine Ok.bm (Vh2a _ hc10) λq11 _=>?_;refine Ok.bm (Vnx _ hs.rp) λq12 _=>?_;refine Ok.bm (Vr8 _ (by dsimp only;omega)) ?_;rintro⟨_,ad,e13,_⟩ had;dsimp only at *;refine Ok.bm (Vr9 _ (by omega) _) λq14 _=>?_;rw[hf,show decide ((0:Int)=1)=false from rfl,Uj,show decide ((0:Int)=2)=false from rfl,Uj,bindU];dsimp only;refine Ok.bm (Va8a (r:=r) (g:=g) (w:=⟨w9.d,w9.r,w9.g,w9.jaa,⟨w9.ji.err,ad,w9.ji.jad,w9.ji.jp,0,w9.ji.iD,w9.ji.user,w9.ji.name,w9.ji.count,w9.ji.jv,w9.ji.box,w9.ji.jae,w9.ji.jy,w9.ji.jaz,w9.ji.jaw,w9.ji.jax,w9.ji.jal,w9.ji.jz⟩,w9.err⟩) ⟨hw9.d,hw9.b,⟨by dsimp only;omega,hw9.p.i⟩,hw9.r,hw9.g⟩ _) ?_;rintro⟨⟨⟨w15,_⟩,_⟩,_⟩ hw15;exact Vc4 hw15
structure PlayOk(p:Ji):Prop where
 d:DevOk p.jg
 i:∀x∈p.iDs,x.length<=10000
 n:p.iDs.length<=1000
theorem Vbba(p:Ji)(a:Jj)(n:Nat)(hd:DevOk p.jg)(hi:∀x∈p.iDs,x.length<=10000)(hn:p.iDs.length<=n)(hn2:n<=900)(ha:RepOk a):Ok (Zfb p a) λr=>DevOk r.2.1.jg/\r.2.1.jg=p.jg/\(∀x∈r.2.1.iDs,x.length<=10000)/\r.2.1.iDs.length<=n+2:=by
 unfold Zfb;refine Ok.bm (Vsa _) ?_;rintro⟨_,ad,e,_⟩ had;dsimp only at *;have app:∀(l:List Ua) (x:Ua),(∀y∈l,y.length<=10000)->x.length<=10000->∀y∈l++[x],y.length<=10000:=λl x h1 h2 y hy=>by
  rcases List.mem_append.1 hy with hy|hy
  ·exact h1 y hy
  ·rw[List.mem_singleton]at hy;subst hy;exact h2
 refine Ok.bm (Q:=λ(j:(Ji×Unit)×(Jj×Unit)×(Ji×Unit)×Unit)=>∃l z,(∀x∈l,x.length<=10000)/\l.length<=n+1/\j=((⟨p.jg,l⟩,()),(a,()),(z,()),())) ?_ ?_
 ·refine Ok.cond (λ_=>Ok.cond (λ_=>?_) λ_=>Ok.some ⟨p.iDs,_,hi,by omega,rfl⟩) λ_=>Ok.some ⟨p.iDs,_,hi,by omega,rfl⟩;rw[Vab (by omega) (by omega),Ui,Vab (by simp only[Qb,Qc];omega) (by omega),Ui];exact Ok.some ⟨_,_,app _ _ hi (by omega),by rw[Qi];simp only[Qb,Qc];omega,rfl⟩
 rintro j ⟨l,z,hl,hln,rfl⟩;dsimp only;refine Ok.cond (λ_=>Ok.cond (λ_=>?_) λ_=>Ok.some ⟨hd,rfl,hl,by dsimp only;omega⟩) λ_=>Ok.some ⟨hd,rfl,hl,by dsimp only;omega⟩;rw[Vab (by omega) (by omega),Ui,Vab (by simp only[Qb,Qc];omega) (by omega),Ui];exact Ok.some ⟨hd,rfl,app _ _ hl ha.i,by dsimp only;rw[Qi];simp only[Qb,Qc];omega⟩
structure ReqOk(r:Jb):Prop where
 s:SaneQ r
 v:valQ r=0
 k:r.kind=7\/r.kind=9\/r.kind=2/\r.list=[]/\r.jk=0
theorem Vh3a(d:Jd)(h:DevOk d)(now:Int)(h0:0<=now)(h1:now<=1099511627776)(r:Jb)(hr:ReqOk r)(g:List Jl)(hg:g.length<=1000000):Ok (Zgs d now r g (-1)) λq=>DevOk q.2.1/\RepOk q.2.2.1:=by
 have hv:Zbx r=some ((),0,()):=by rw[Vdu r hr.s,hr.v]
 unfold Zgs;rcases hr.k with k|k|⟨k,k2,k3⟩
 ·rw[k];simp only[show decide ((7:Int)=1)=false from rfl,show decide ((7:Int)=2)=false from rfl,show decide ((7:Int)=3)=false from rfl,show decide ((7:Int)=4)=false from rfl,show decide ((7:Int)=5)=false from rfl,show decide ((7:Int)=6)=false from rfl,show decide ((7:Int)=7)=true from rfl,Uj,Ui];refine Ok.bm (Vys d h now h0 h1 r g k hv) ?_;rintro⟨_,d2,p,b,_⟩ hq;exact Ok.some hq
 ·rw[k];simp only[show decide ((9:Int)=1)=false from rfl,show decide ((9:Int)=2)=false from rfl,show decide ((9:Int)=3)=false from rfl,show decide ((9:Int)=4)=false from rfl,show decide ((9:Int)=5)=false from rfl,show decide ((9:Int)=6)=false from rfl,show decide ((9:Int)=7)=false from rfl,show decide ((9:Int)=8)=false from rfl,show decide ((9:Int)=9)=true from rfl,Uj,Ui];refine Ok.bm (Va9a d h now h0 h1 r g k hv) ?_;rintro⟨_,d2,p,b,_⟩ hq;exact Ok.some hq
 ·rw[k];simp only[show decide ((2:Int)=1)=false from rfl,show decide ((2:Int)=2)=true from rfl,Uj,Ui];refine Ok.bm (Vf2a d h now h0 h1 r hr.s g hg k hv k2 k3) ?_;rintro⟨_,d2,p,b,_⟩ hq;exact Ok.some hq
theorem Do_ok(p:Ji)(h:PlayOk p)(n:Nat)(hn:p.iDs.length<=n)(hn2:n<=900)(r:Jb)(hr:ReqOk r)(g:List Jl)(hg:g.length<=1000000):Ok (Zig p ⟨false,p.jg.now,r,g,-1⟩) λq=>PlayOk q.2.1/\q.2.1.iDs.length<=n+2:=by
 unfold Zig;dsimp only;rw[Uj];refine Ok.bm (Vh3a p.jg h.d _ h.d.n0 h.d.n1 r hr g hg) ?_;rintro⟨_,d,rp,b,_⟩ ⟨h1,h2⟩;dsimp only at *;refine Ok.bm (Vbba ⟨d,p.iDs⟩ rp n h1 h.i hn hn2 h2) ?_;rintro⟨_,q,_⟩ ⟨k1,k2,k3,k4⟩;exact Ok.some ⟨⟨k1,k3,by dsimp only at *;omega⟩,k4⟩
theorem Vpb(r:Jb)(k1:1<=r.kind)(k2:r.kind<=14)(ft:fitQ (mkQ r.kind) (useQ r)=true)(au:(!decide (r.auth=0#64)&&!r.jj)=false)(nu:numQ r=true)(bg:bigQ r=false)(v1:Lib.validD r.rP=true)(v2:Lib.validD r.name=true)(ids:idsQ r=0):valQ r=0:=by
 unfold valQ;rw[Um k1,Um k2,ft,au,nu,bg,v1,v2,ids];rfl
theorem vnil:Lib.validD []=true:=by decide +kernel
theorem Vf3a:∀a b:Bool,fitQ (mkQ 7) [false,false,false,false,false,false,false,false,false,false,false,false,false,a,b,false,false,false,false]=true:=by decide +kernel
theorem Vf4a:∀a b c:Bool,fitQ (mkQ 9) [false,false,false,false,false,false,false,false,false,false,false,false,false,a,false,b,c,false,false]=true:=by decide +kernel
theorem Vbca:∀a b c d e f g h:Bool,fitQ (mkQ 2) [a,b,false,c,d,e,false,f,false,false,g,false,h,false,false,false,false,false,false]=true:=by decide +kernel
theorem Vf5a(p:Ub)(b:Ua)(h:b.length<=1024):valQ ⟨7,[],[],[],0#64,0,0,[],false,false,false,false,0,0#64,false,p,b,[],0,[],0⟩=0:=
 Vpb _ (by dsimp only;omega) (by dsimp only;omega) (Vf3a _ _) rfl rfl (by unfold bigQ;dsimp only;rw[Un (by omega:¬ (1024:Int)<(b.length:Int))];rfl) vnil vnil (by kernel_rfl)
theorem Vf6a(p:Ub)(b:Ua)(h:b.length<=1024)(n:Int)(h0:0<=n)(h1:n<=255):valQ ⟨9,[],[],[],0#64,0,0,[],false,false,false,false,0,0#64,false,p,[],b,n,[],0⟩=0:=
 Vpb _ (by dsimp only;omega) (by dsimp only;omega) (Vf4a _ _ _) rfl (by unfold numQ;dsimp only;unfold smallI;rw[Um h0,Um h1];rfl) (by unfold bigQ;dsimp only;rw[Un (by omega:¬ (1024:Int)<(b.length:Int))];rfl) vnil vnil (by kernel_rfl)
theorem Vbda(rp us:Ua)(w:Ub)(ht pr:Int)(rs sh:Bool)(a:Ub)(h1:rp.length<=64)(h2:us.length<=16)(hv:Lib.validD rp=true)(t0:0<=ht)(t1:ht<=255)(p0:0<=pr)(p1:pr<=255):valQ ⟨2,rp,us,[],w,ht,pr,[],rs,false,false,sh,0,a,true,0#64,[],[],0,[],0⟩=0:=
 Vpb _ (by dsimp only;omega) (by dsimp only;omega) (Vbca _ _ _ _ _ _ _ _) (by cases decide (a=0#64)<;>rfl) (by unfold numQ;dsimp only;unfold smallI;rw[Um t0,Um t1,Um p0,Um p1];rfl) (by unfold bigQ;dsimp only;rw[Un (by omega:¬ (64:Int)<(rp.length:Int)),Un (by omega:¬ (16:Int)<(us.length:Int))];rfl) hv vnil (by kernel_rfl)
theorem Vf7a(n:Int):∃(m s:Ub) (ps k:Nat) (fi:Bool) (j:Nat) (cs:List Ua),Zcx n=some ((),⟨m,s,(ps:Int),fi,77#64,2,(k:Int),2+(j:Int),cs⟩,())/\512<=ps/\ps<=8192/\k<=1/\j<=1/\(cs=[[111,110,101]]\/cs=[[111,110,101],[116,119,111]]):=by
 unfold Zcx;obtain⟨k4,h4,e4⟩:=mask (Qg n (2^(min 4 (Qa .i64)))) 3 (by omega);obtain⟨k6,h6,e6⟩:=mask (Qg n (2^(min 6 (Qa .i64)))) 1 (by omega);obtain⟨k7,h7,e7⟩:=mask (Qg n (2^(min 7 (Qa .i64)))) 1 (by omega);obtain⟨k8,h8,e8⟩:=mask (Qg n (2^(min 8 (Qa .i64)))) 1 (by omega);obtain⟨k9,h9,e9⟩:=mask (Qg n (2^(min 9 (Qa .i64)))) 1 (by omega);rw[show ((3:Nat):Int)=(3:Int) from rfl]at e4;rw[show ((1:Nat):Int)=(1:Int) from rfl]at e6 e7 e8 e9;dsimp only;rw[e4,e6,e7,e8,e9];have w8:Qd .i64 ((2:Int)+(k8:Int))=2+(k8:Int):=Vaw (by omega) (by omega);rw[w8];rcases (by omega:k9=0\/k9=1) with rfl|rfl<;>rcases (by omega:k4=0\/k4=1\/k4=2\/k4=3) with rfl|rfl|rfl|rfl
 ·exact⟨_,_,2048,k7,_,k8,_,rfl,by omega,by omega,h7,h8,.inl rfl⟩
 ·exact⟨_,_,1024,k7,_,k8,_,rfl,by omega,by omega,h7,h8,.inl rfl⟩
 ·exact⟨_,_,512,k7,_,k8,_,rfl,by omega,by omega,h7,h8,.inl rfl⟩
 ·exact⟨_,_,640,k7,_,k8,_,rfl,by omega,by omega,h7,h8,.inl rfl⟩
 ·exact⟨_,_,2048,k7,_,k8,_,rfl,by omega,by omega,h7,h8,.inr rfl⟩
 ·exact⟨_,_,1024,k7,_,k8,_,rfl,by omega,by omega,h7,h8,.inr rfl⟩
 ·exact⟨_,_,512,k7,_,k8,_,rfl,by omega,by omega,h7,h8,.inr rfl⟩
 ·exact⟨_,_,640,k7,_,k8,_,rfl,by omega,by omega,h7,h8,.inr rfl⟩
def devN(f:Jv)(l:Jk):Jd:=⟨f,⟨⟨l,0,0,0,false⟩,[]⟩,false,0,0,0,0,⟨0#64,false,0#64,0,[],0⟩,⟨false,0,0#64,0,[]⟩⟩
def dev0:Jd:=⟨⟨0#64,0#64,0,false,0#64,0,0,0,[]⟩,⟨⟨⟨0,[]⟩,0,0,0,false⟩,[]⟩,false,0,0,0,0,⟨0#64,false,0#64,0,[],0⟩,⟨false,0,0#64,0,[]⟩⟩
theorem Vh4a(m s:Ub)(ps k:Nat)(fi:Bool)(j:Nat)(cs:List Ua)(h1:512<=ps)(h2:ps<=8192)(hk:k<=1)(hj:j<=1)(hc:cs=[[111,110,101]]\/cs=[[111,110,101],[116,119,111]]):Zgp ⟨m,s,(ps:Int),fi,77#64,2,(k:Int),2+(j:Int),cs⟩=some ((),devN ⟨m,s,(ps:Int),fi,77#64,2,(k:Int),2+(j:Int),cs⟩ (FF ps),0,()):=by
 unfold Zgp;dsimp only;rw[Un (by omega:¬ (ps:Int)<512),Uj,Un (by omega:¬ (8192:Int)<(ps:Int)),Uj,show decide ((2:Int)<0)=false from rfl,Uj,show decide ((4:Int)<2)=false from rfl,Uj,Un (by omega:¬ (k:Int)<0),Uj,Un (by omega:¬ 2+(j:Int)<(k:Int)),Uj,show Qd .i64 ((1:Int)*2^(min (Qe 64 2).toNat (Qa .i64)))=4 from rfl,Un (by omega:¬ (4:Int)<2+(j:Int)),Uj];rcases hc with rfl|rfl
 ·rw[show decide ((3:Int)<(([[111,110,101]]:List Ua).length:Int))=false from rfl,Uj,show Zgp_L0 _=some (Qo ((⟨m,s,(ps:Int),fi,77#64,2,(k:Int),2+(j:Int),[[111,110,101]]⟩,()),(dev0,()),())) by kernel_rfl,bindU];simp only[Sum.elim_inr];rw[Vix ps h1 h2,bindU];rfl
 ·rw[show decide ((3:Int)<(([[111,110,101],[116,119,111]]:List Ua).length:Int))=false from rfl,Uj,show Zgp_L0 _=some (Qo ((⟨m,s,(ps:Int),fi,77#64,2,(k:Int),2+(j:Int),[[111,110,101],[116,119,111]]⟩,()),(dev0,()),())) by kernel_rfl,bindU];simp only[Sum.elim_inr];rw[Vix ps h1 h2,bindU];rfl
theorem Vyu(d:Jd)(n:Int):∃x,Zdm d n=some ((),w8 x,()):=by
 unfold Zdm;obtain⟨⟨_,x,_⟩,h,_⟩:=Vf4 d.jl.jah ([109,97,115,116,101,114]:Ua) n (by decide);rw[h,bindU,rW1,bindU];exact⟨x,rfl⟩
theorem Vbea(k j:Nat)(hk:k<=1)(hj:j<=1):∃b0 b1 b2,Zan ⟨0#64,(k:Int),2+(j:Int),(k:Int)⟩=some ((),w8 0++[b0,b1,b2],()):=by
 unfold Zan Zeb;dsimp only;rw[Um (by omega:(0:Int)<=(k:Int)),Ui,Um (by omega:(k:Int)<=(k:Int)),Ui,Um (by omega:(k:Int)<=2+(j:Int)),Ui,bindU,Um (by omega:2+(j:Int)<=16),show (!true)=false from rfl,Uj,rW1,bindU,Vab (by simp[w8]) (by omega),Ui];exact⟨_,_,_,rfl⟩
theorem Vsb(m s:Ub)(ps k:Nat)(fi:Bool)(j:Nat)(cs:List Ua)(h1:512<=ps)(h2:ps<=8192)(hk:k<=1)(hj:j<=1)(now:Nat)(hn:now<=7):Ok (Zfk (devN ⟨m,s,(ps:Int),fi,77#64,2,(k:Int),2+(j:Int),cs⟩ (FF ps)) (now:Int) (-1)) λr=>DevOk r.2.1:=by
 unfold Zfk devN;dsimp only;rw[Uj,Un (by omega:¬ (now:Int)<0),Uj,Un (by omega:¬ (1099511627776:Int)<(now:Int)),Uj,Vfpa ps h1 h2,bindU];dsimp only;rw[show (!decide ((0:Int)=0))=false from rfl,Uj,show Zeg ⟨J1 ps,[]⟩=some ((),0,()) by kernel_rfl,bindU];dsimp only;rw[show decide ((0:Int)=4294967295)=false from rfl,Uj,show Zic ⟨J1 ps,[]⟩ 1=some ((),[],()) by kernel_rfl,bindU];dsimp only;rw[show decide ((([]:Ua).length:Int)=0)=true from rfl,Ui];obtain⟨x,hx⟩:=Vyu (⟨⟨m,s,(ps:Int),fi,77#64,2,(k:Int),2+(j:Int),cs⟩,⟨⟨FF ps,0,0,0,false⟩,[]⟩,false,0,0,0,0,⟨0#64,false,0#64,0,[],0⟩,⟨false,0,0#64,0,[]⟩⟩:Jd) (Qd .i64 ((Qd .i64 ((0:Int)+1))*2^(min 20 (Qa .i64))));rw[hx,bindU,Vab (by simp) (by omega),Ui,bindU];dsimp only;rw[Vab (by simp) (by omega),Ui,Ui];obtain⟨b0,b1,b2,hb⟩:=Vbea k j hk hj;rw[hb,bindU,Vab (by simp) (by omega),Ui,bindU];dsimp only;refine Ok.bm (Vyi ps h1 h2 x _ _ _ _ b0 b1 b2) ?_;rintro⟨_,v,c,e,_⟩ ⟨k1,k2⟩;dsimp only at *;subst k2;rw[show (!decide ((0:Int)=0))=false from rfl,Uj];have hx:0<=(bif decide ((0:Int)<(now:Int)) then (now:Int) else (0:Int))/\(bif decide ((0:Int)<(now:Int)) then (now:Int) else (0:Int))<=1099511627776:=by
  cases decide ((0:Int)<(now:Int))<;>simp only[Ui,Uj]<;>omega
 generalize (bif decide ((0:Int)<(now:Int)) then (now:Int) else (0:Int))=y at hx;refine Ok.bm (Vya _ k1) ?_;rintro⟨_,d2,z,_⟩ ⟨n2,rfl⟩;unfold Zau;rw[bindU];exact Ok.some ⟨rfl,k1,hx.1,hx.2⟩
theorem Vbfa(n:Int):Ok (Zfd n) λr=>PlayOk r.2.1/\r.2.1.iDs.length<=0:=by
 unfold Zfd;obtain⟨m,s,ps,k,fi,j,cs,hf,h1,h2,hk,hj,hc⟩:=Vf7a n;rw[hf,bindU,Vh4a m s ps k fi j cs h1 h2 hk hj hc,bindU];obtain⟨t,ht,et⟩:=mask n 7 (by omega);rw[show ((7:Nat):Int)=(7:Int) from rfl]at et;dsimp only;rw[et];refine Ok.bm (Vsb m s ps k fi j cs h1 h2 hk hj t ht) ?_;rintro⟨_,d,c,e,_⟩ hd;exact Ok.some ⟨⟨hd,λx hx=>(by cases hx),Qj _⟩,Nat.le_refl _⟩
theorem Vpc(d:Jd):Ok (Zht d) λ_=>True:=by
 unfold Zht;refine Ok.bm (Vf6 _) ?_;rintro⟨_,x,_⟩ _;refine Ok.bm (Vns _ _) ?_;rintro⟨_,y,_⟩ _;exact Ok.some trivial
theorem Vgp(n:Int):∃l,Zhs n=some ((),l,())/\l.length<=10:=by
 obtain⟨k,hk,e⟩:=mask n 3 (by omega);rw[show ((3:Nat):Int)=(3:Int) from rfl]at e;unfold Zhs;dsimp only;rw[e];rcases (by omega:k=0\/k=1\/k=2\/k=3) with rfl|rfl|rfl|rfl
 ·exact⟨_,rfl,by decide⟩
 ·exact⟨_,rfl,by decide⟩
 ·exact⟨_,rfl,by decide⟩
 ·exact⟨_,rfl,by decide⟩
theorem Vl0(n:Int):Ok (Zgj n) λ_=>True:=by
 unfold Zgj;rw[rW1,bindU,rHash _ _ (by simp[w8]),bindU];exact Ok.some trivial
theorem z64:in64 0:=by unfold in64;omega
theorem Vny(p:Ji)(h:PlayOk p)(n:Nat)(hn:p.iDs.length<=n)(hn2:n<=900)(a:Int)(h0:0<=a)(h1:a<=255):Ok (Zdw p a) λr=>PlayOk r.2.1/\r.2.1.iDs.length<=n+2:=by
 unfold Zdw;refine Ok.bm (Vpc _) ?_;rintro⟨_,x,_⟩ _;obtain⟨l,e,hl⟩:=Vgp 0;rw[e,bindU];refine Ok.bm (Vgo _ (by dsimp only;omega)) ?_;rintro⟨_,y,_⟩ _;refine Ok.bm (Vfg _ _ _) ?_;rintro⟨_,w,_⟩ hw;refine Ok.bm (Vf6 _) ?_;rintro⟨_,z,_⟩ _;dsimp only at *;refine Ok.bm (Do_ok p h n hn hn2 _ ⟨⟨by simp,by simp,by simp,by simp,by simp,by dsimp only;omega,by simp,z64,z64,z64,by unfold in64;dsimp only;omega,z64,by unfold in64;dsimp only;omega⟩,Vf6a z w (by omega) a h0 h1,.inr (.inl rfl)⟩ [] (by simp)) ?_;rintro⟨_,q,r,_⟩ hq;exact Ok.some hq
theorem Vgy(d:Jd)(r:Jb)(h:SaneQ r):Ok (Zbt d r) λq=>∃a,q.2.1=⟨r.kind,r.rP,r.user,r.name,r.jx,r.jc,r.jd,r.list,r.je,r.jq,r.jt,r.jm,r.jk,a,true,r.jv,r.box,r.proof,r.jb,r.iD,r.count⟩:=by
 unfold Zbt;refine Ok.bm (Vnw r h) ?_;rintro⟨_,x,_⟩ _;refine Ok.bm (Vgx _ _) ?_;rintro⟨_,y,_⟩ _;exact Ok.some ⟨y,rfl⟩
theorem richL(a:Int)(y:Ji)(p:Ji)(h:PlayOk p)(hi:p.iDs.length<=2):Ok (Zgg_L0 (a,(y,()),(p,()),0,())) λz=>PlayOk z.2.1.1/\z.2.1.1.iDs.length<=14:=by
 unfold Zgg_L0 Yi4;refine Ok.iter (λs=>∃(k:Nat) (p:Ji),k<=3/\PlayOk p/\p.iDs.length<=4*k+2/\s=(a,(y,()),(p,()),(k:Int),())) (λs=>(3-s.2.2.2.1).toNat) ⟨0,p,by omega,h,hi,rfl⟩ (by rw[Vaa];dsimp only;omega) ?_;rintro s ⟨k,p,hk,hp,hl,rfl⟩;dsimp only;unfold Zgg_L0b;refine Ok.cond (λhc=>?_) (λhc=>Ok.some ⟨hp,by dsimp only;omega⟩);have hc:=Uo hc;refine Ok.bm (Vny p hp _ hl (by omega) 1 (by omega) (by omega)) ?_;rintro⟨_,p2,_⟩ ⟨hp2,hl2⟩;dsimp only at *;obtain⟨rp,e1,r1,r2,r3⟩:=RP_ok (Qd .i64 (Int.tdiv (Qd .i64 ((Qe (Qa .i64) (Qg a (2^(min (Qe 64 (Qd .i64 ((2:Int)*(k:Int)))).toNat (Qa .i64))))&&&Qe (Qa .i64) (3:Int)).toNat:Int)) (3:Int)));rw[e1,bindU];obtain⟨us,e2,u1,u2⟩:=Vo6 (k:Int);rw[e2,bindU];refine Ok.bm (Vl0 _) ?_;rintro⟨_,w,_⟩ _;obtain⟨k1,hk1,m1⟩:=mask (Qg a (2^(min (Qe 64 (Qd .i64 ((6:Int)+(k:Int)))).toNat (Qa .i64)))) 1 (by omega);obtain⟨k2,hk2,m2⟩:=mask (Qg a (2^(min (Qe 64 (Qd .i64 ((9:Int)+(k:Int)))).toNat (Qa .i64)))) 1 (by omega);rw[show ((1:Nat):Int)=(1:Int) from rfl]at m1 m2;rw[m1,m2,wI ((1:Int)+(k1:Int)) (by omega),wI ((1:Int)+(k2:Int)) (by omega)];have sane:∀(b1 b2:Bool) (x:Ub) (b3:Bool),SaneQ ⟨2,rp,us,[],w,1+(k1:Int),1+(k2:Int),[],b1,false,false,b2,0,x,b3,0#64,[],[],0,[],0⟩:=λb1 b2 x b3=>⟨by dsimp only;omega,by dsimp only;omega,by simp,by simp,by simp,by simp,by simp,by unfold in64;dsimp only;omega,by unfold in64;dsimp only;omega,z64,z64,z64,by unfold in64;dsimp only;omega⟩;refine Ok.bm (Vgy p2.jg _ (sane _ _ _ _)) ?_;rintro⟨_,q,_⟩ ⟨x,hq⟩;dsimp only at hq;subst hq;dsimp only;refine Ok.bm (Do_ok p2 hp2 _ hl2 (by omega) _ ⟨sane _ _ _ _,Vbda rp us w _ _ _ _ x (by omega) (by omega) r3 (by omega) (by omega) (by omega) (by omega),.inr (.inr ⟨rfl,rfl,rfl⟩)⟩ _ (by simp)) ?_;rintro⟨_,p3,rr,_⟩ ⟨hp3,hl3⟩;dsimp only at *;rw[wI ((k:Int)+1) (by omega)];exact Ok.some ⟨⟨k+1,p3,by omega,hp3,by omega,rfl⟩,by dsimp only;omega⟩
theorem Vf8a(n a:Int):Ok (Zgg n a) λr=>PlayOk r.2.1/\r.2.1.iDs.length<=16:=by
 unfold Zgg;refine Ok.bm (Vbfa n) ?_;rintro⟨_,p,_⟩ ⟨hp,hl⟩;refine Ok.bm (Vpc _) ?_;rintro⟨_,x,_⟩ _;refine Ok.bm (Vf6 _) ?_;rintro⟨_,z,_⟩ _;obtain⟨l,e,hl1⟩:=Vgp 0;rw[e,bindU];refine Ok.bm (Vj9 _ _ _) ?_;rintro⟨_,b,c,_⟩ ⟨hb,_⟩;dsimp only at *;have hb2:b.length<=1024:=by rename_i h80;have:=h80 (by omega);omega
 refine Ok.bm (Do_ok p hp _ hl (by omega) _ ⟨⟨by simp,by simp,by simp,by simp,by dsimp only;omega,by simp,by simp,z64,z64,z64,z64,z64,by unfold in64;dsimp only;omega⟩,Vf5a z b hb2,.inl rfl⟩ [] (by simp)) ?_;rintro⟨_,p2,rr,_⟩ ⟨hp2,hl2⟩;dsimp only at *;refine Ok.bm (richL a _ p2 hp2 hl2) ?_;rintro⟨y,⟨p3,_⟩,_⟩ ⟨hp3,hl3⟩;dsimp only at *;refine Ok.bm (Vny p3 hp3 _ hl3 (by omega) 7 (by omega) (by omega)) ?_;rintro⟨_,p4,_⟩ h4;exact Ok.some h4
theorem Vem(n:Int):in64 (Qd .i64 n):=by
 simp only[Qd,Qa,IntKind.signed];unfold in64;simp;omega
theorem tmodI(t:Nat)(N:Int)(m:Nat)(hN:N=(m:Int))(hm:0<m):∃j:Nat,j<m/\Qp (t:Int) N=(j:Int):=⟨t % m,Nat.mod_lt _ hm,by rw[hN,Int.tmod_eq_emod_of_nonneg (by omega)];omega⟩
theorem Vf9a(x:Int)(m:Nat)(hm:0<m)(h:m<=1000)(N:Int)(hN:N=(m:Int)):in64 (Qp x N):=by
 unfold in64;rcases Int.eq_nat_or_neg x with⟨k,rfl|rfl⟩
 ·obtain⟨j,hj,e⟩:=tmodI k N m hN hm;rw[e];omega
 ·obtain⟨j,hj,e⟩:=tmodI k N m hN hm;rw[Int.neg_tmod,e];omega
theorem Ok.getP{α β:Type}{P:α->Prop}{l:List α}{i:Nat}{f:α->Option β}{Q:β->Prop}(h:i<l.length)(hp:∀x∈l,P x)(h2:∀x,P x->Ok (f x) Q):Ok ((l[i]?).bind f) Q:=by
 rw[Qh h,bindU];exact h2 _ (hp _ (Ql h))
theorem inR{j:Nat}{N:Int}(h:(j:Int)<N):(decide ((0:Int)<=(j:Int))&&decide ((j:Int)<N))=true:=by
 rw[Um (by omega),Um h];rfl
theorem mkOk{c a:Int}(h0:0<=a)(h1:c*a<=281474976710656)(h2:a<=9223372036854775807):(decide ((0:Int)<=a)&&(decide (a<=a)&&decide (c*a<=281474976710656/\a<=9223372036854775807)))=true:=by
 rw[Um h0,Um (Int.le_refl a),Um ⟨h1,h2⟩];rfl
structure SaneR(k:Nat)(r:Jb):Prop where
 rp:r.rP.length<=100
 us:r.user.length<=100
 nm:r.name.length<=100
 li:r.list.length<=10+k
 bx:r.box.length<=1100
 pf:r.proof.length<=1100+k
 ii:r.iD.length<=10000
 i1:in64 r.jc
 i2:in64 r.jd
 i3:in64 r.jk
 i4:in64 r.jb
 i5:in64 r.count
 i6:in64 r.kind
theorem SaneR.up{k:Nat}{r:Jb}(h:SaneR k r):SaneR (k+1) r:=⟨h.rp,h.us,h.nm,by have:=h.li;omega,h.bx,by have:=h.pf;omega,h.ii,h.i1,h.i2,h.i3,h.i4,h.i5,h.i6⟩
theorem SaneR.q{k:Nat}{r:Jb}(h:SaneR k r)(hk:k<=5):SaneQ r:=⟨by have:=h.rp;omega,by have:=h.us;omega,by have:=h.nm;omega,by have:=h.li;omega,by have:=h.bx;omega,by have:=h.pf;omega,by have:=h.ii;omega,h.i1,h.i2,h.i3,h.i4,h.i5,h.i6⟩
theorem Vq3(k:Nat)(hk:k<=5)(r:Jb)(h:SaneR k r)(n:Int):Ok (Zfc r n) λq=>SaneR (k+1) q.2.1:=by
 unfold Zfc;obtain⟨t,ht,et⟩:=mask (Qg n (2^(min 5 (Qa .i64)))) 65535 (by omega);rw[show ((65535:Nat):Int)=(65535:Int) from rfl]at et;dsimp only;rw[et];obtain⟨rp,us,nm,li,bx,pf,ii,i1,i2,i3,i4,i5,i6⟩:=h.up;obtain⟨m3,hm3,e3⟩:=tmodI t 3 3 rfl (by omega);obtain⟨m6,hm6,e6⟩:=tmodI t 6 6 rfl (by omega);obtain⟨m5,hm5,e5⟩:=tmodI t 5 5 rfl (by omega);obtain⟨m10,hm10,e10⟩:=tmodI t 10 10 rfl (by omega);obtain⟨a3,ha3,f3⟩:=mask (t:Int) 3 (by omega);rw[show ((3:Nat):Int)=(3:Int) from rfl]at f3;have w3:Qd .i64 ((175:Int)+(m3:Int))=175+(m3:Int):=Vaw (by omega) (by omega);have hl:=h.li;rw[e3,e6,e5,e10,f3,w3];refine Ok.cond (λ_=>Ok.some ⟨rp,us,nm,li,bx,pf,ii,i1,i2,i3,i4,i5,Vem _⟩) λ_=>?_;refine Ok.cond (λ_=>?_) λ_=>?_
 ·rw[inR (by omega),Ui,Qf];refine Ok.getP (P:=λx=>x.length<=100) (by simp only[Qb,Qc];omega) (by simp) λx hx=>Ok.some ⟨hx,us,nm,li,bx,pf,ii,i1,i2,i3,i4,i5,i6⟩
 refine Ok.cond (λ_=>?_) λ_=>?_
 ·rw[inR (by omega),Ui,Qf];refine Ok.getP (P:=λx=>x.length<=100) (by simp only[Qb,Qc];omega) (by simp) λx hx=>Ok.some ⟨rp,hx,nm,li,bx,pf,ii,i1,i2,i3,i4,i5,i6⟩
 refine Ok.cond (λ_=>?_) λ_=>?_
 ·rw[inR (by omega),Ui,Qf];refine Ok.getP (P:=λx=>x.length<=100) (by simp only[Qb,Qc];omega) (by simp) λx hx=>Ok.some ⟨rp,us,hx,li,bx,pf,ii,i1,i2,i3,i4,i5,i6⟩
 refine Ok.cond (λ_=>Ok.some ⟨rp,us,nm,li,bx,pf,ii,Vem _,i2,i3,i4,i5,i6⟩) λ_=>?_;refine Ok.cond (λ_=>Ok.some ⟨rp,us,nm,li,bx,pf,ii,i1,Vem _,i3,i4,i5,i6⟩) λ_=>?_;refine Ok.cond (λ_=>?_) λ_=>?_
 ·rw[Vab (by omega) (by omega),Ui,mkOk (by omega) (by omega) (by omega),Ui,Vab (by simp only[Qb,Qc];omega) (by omega),Ui];exact Ok.some ⟨rp,us,nm,by dsimp only;rw[Qi];simp only[Qb,Qc];omega,bx,pf,ii,i1,i2,i3,i4,i5,i6⟩
 refine Ok.cond (λ_=>?_) λ_=>?_
 ·rw[mkOk (by omega) (by omega) (by omega),Ui];exact Ok.some ⟨rp,us,nm,by dsimp only;rw[Qk];omega,bx,pf,ii,i1,i2,i3,i4,i5,i6⟩
 refine Ok.cond (λ_=>Ok.some ⟨rp,us,nm,li,bx,pf,ii,i1,i2,Vem _,i4,i5,i6⟩) λ_=>?_;refine Ok.cond (λ_=>Ok.some ⟨rp,us,nm,li,bx,pf,ii,i1,i2,i3,i4,i5,i6⟩) λ_=>?_;refine Ok.cond (λ_=>Ok.some ⟨rp,us,nm,li,bx,pf,ii,i1,i2,i3,i4,i5,i6⟩) λ_=>?_;refine Ok.cond (λ_=>?_) λ_=>?_
 ·rw[inR (by omega),Ui,Qf];exact Ok.get (by simp only[Qb,Qc];omega) λx=>Ok.some ⟨rp,us,nm,li,bx,pf,ii,i1,i2,i3,i4,i5,i6⟩
 refine Ok.cond (λ_=>?_) λ_=>?_
 ·rw[inR (by omega),Ui,Qf];refine Ok.getP (P:=λx=>0<=x/\x<=1100) (by simp only[Qb,Qc];omega) (by simp) λx hx=>?_;rw[mkOk (by omega) (by omega) (by omega),Ui];exact Ok.some ⟨rp,us,nm,li,by dsimp only;rw[Qk];omega,pf,ii,i1,i2,i3,i4,i5,i6⟩
 refine Ok.cond (λ_=>?_) λ_=>?_
 ·have:=h.pf;rw[Vab (by omega) (by omega),Ui,Vab (by simp only[Qb,Qc];omega) (by omega),Ui];exact Ok.some ⟨rp,us,nm,li,bx,by dsimp only;rw[Qi];simp only[Qb,Qc];omega,ii,i1,i2,i3,i4,i5,i6⟩
 refine Ok.cond (λ_=>?_) λ_=>?_
 ·rw[inR (by omega),Ui,Qf];exact Ok.getP (P:=in64) (by simp only[Qb,Qc];omega) (by simp[in64]) λx hx=>Ok.some ⟨rp,us,nm,li,bx,pf,ii,i1,i2,i3,hx,i5,i6⟩
 refine Ok.cond (λ_=>?_) λ_=>?_
 ·rw[mkOk (by omega) (by omega) (by omega),Ui];exact Ok.some ⟨rp,us,nm,li,bx,pf,by dsimp only;rw[Qk];omega,i1,i2,i3,i4,i5,i6⟩
 refine Ok.cond (λ_=>?_) λ_=>?_
 ·rw[inR (by omega),Ui,Qf];exact Ok.getP (P:=in64) (by simp only[Qb,Qc];omega) (by simp[in64]) λx hx=>Ok.some ⟨rp,us,nm,li,bx,pf,ii,i1,i2,i3,i4,hx,i6⟩
 refine Ok.cond (λ_=>Ok.some ⟨rp,us,nm,li,bx,pf,ii,i1,i2,i3,i4,i5,i6⟩) λ_=>?_;refine Ok.cond (λ_=>Ok.some ⟨rp,us,nm,li,bx,pf,ii,i1,i2,i3,i4,i5,i6⟩) λ_=>?_;refine Ok.cond (λ_=>?_) λ_=>?_
 ·refine Ok.cond (λhc=>?_) λ_=>Ok.some ⟨rp,us,nm,li,bx,pf,ii,i1,i2,i3,i4,i5,i6⟩;have hc:=Uo hc;obtain⟨mb,hmb,eb⟩:=tmodI t (r.box.length:Int) r.box.length rfl (by omega);rw[Vab (by omega) (by omega),Ui,Un (by omega),Uj,eb,inR (by omega),Ui,Qf];refine Ok.get hmb λx=>?_;rw[Ui];refine Ok.get hmb λy=>?_;exact Ok.some ⟨rp,us,nm,li,by dsimp only;rw[List.length_set];exact bx,pf,ii,i1,i2,i3,i4,i5,i6⟩
 refine Ok.cond (λ_=>Ok.some ⟨rp,us,nm,li,bx,pf,ii,i1,i2,i3,i4,i5,i6⟩) λ_=>?_;exact Ok.cond (λ_=>Ok.some ⟨rp,us,nm,li,bx,pf,ii,i1,i2,i3,i4,i5,i6⟩) λ_=>Ok.some ⟨rp,us,nm,li,bx,pf,ii,i1,i2,i3,i4,i5,i6⟩
theorem ID_ok(n:Int):Ok (Zih n) λr=>r.2.1.length<=10000:=by
 unfold Zih;refine Ok.bm (Viy _ _ _) ?_;rintro⟨_,l,_⟩ hl;exact Ok.some (by dsimp only at *;omega)
theorem Vb6(p:Ji)(h:PlayOk p)(n:Int):Ok (Zcy p n) λr=>r.2.1.length<=10000:=by
 unfold Zcy;refine Ok.cond (λ_=>?_) λhc=>?_
 ·refine Ok.bm (ID_ok n) ?_;rintro⟨_,l,_⟩ hl;exact Ok.some hl
 have hc:=Up hc;obtain⟨k,hk,e⟩:=mask n 15 (by omega);rw[show ((15:Nat):Int)=(15:Int) from rfl]at e;dsimp only;rw[e];refine Ok.cond (λ_=>?_) λ_=>?_
 ·refine Ok.bm (ID_ok n) ?_;rintro⟨_,l,_⟩ hl;exact Ok.some hl
 obtain⟨j,hj,ej⟩:=tmodI k (p.iDs.length:Int) p.iDs.length rfl (by omega);rw[Un (by omega),Uj,ej,gIn (Qh hj),bindU];exact Ok.some (h.i _ (Ql hj))
theorem Vbga(n:Int):Ok (Zbg n) λr=>CLt r.2.1:=by
 unfold Zbg;obtain⟨rp,e1,r1,r2,r3⟩:=RP_ok n;rw[e1,bindU];obtain⟨us,e2,u1,u2⟩:=Vo6 (Qg n (2^(min 2 (Qa .i64))));rw[e2,bindU];obtain⟨a,b,e3⟩:=Vyp (Qg n (2^(min 4 (Qa .i64))));rw[e3,bindU];obtain⟨t1,t2⟩:=Vka a b;have H:∀(s:Ub) (h p:Int) (q1 q2 q3:Bool),CLt ⟨rp,us,words.getD a.val []++words.getD b.val [],s,h,q1,p,q2,q3⟩:=λs h p q1 q2 q3=>⟨by dsimp only;omega,by dsimp only;omega⟩;dsimp only;refine Ok.cond (λ_=>Ok.cond (λ_=>?_) λ_=>?_) λ_=>?_;all_goals exact Ok.some (H _ _ _ _ _ _)
theorem Vbha(c:Jg)(h:CLt c)(a b:Int):Ok (Zap c a b) λ_=>True:=by
 unfold Zap;refine Ok.bm (Vpa c h) ?_;rintro⟨_,l,e,_⟩ hl;dsimp only at *;refine Ok.cond (λ_=>Ok.some trivial) λ_=>Ok.cond (λ_=>Ok.some trivial) λ_=>Ok.cond (λ_=>Ok.some trivial) λ_=>Ok.cond (λ_=>Ok.some trivial) λ_=>Ok.cond (λ_=>Ok.some trivial) λ_=>?_;rw[Vab (by simp only[Qb,Qc];omega) (by omega),Ui];exact Ok.some trivial
abbrev RQ:=Int×Ua×Ua×Ua×Ub×Int×Int×(List Ua)×Bool×Bool×Bool×Bool×Int×Ub×Bool×Ub×Ua×Ua×Int×Ua×Int×Unit
def mkR(t:RQ):Jb:=⟨t.1,t.2.1,t.2.2.1,t.2.2.2.1,t.2.2.2.2.1,t.2.2.2.2.2.1,t.2.2.2.2.2.2.1,t.2.2.2.2.2.2.2.1,t.2.2.2.2.2.2.2.2.1,t.2.2.2.2.2.2.2.2.2.1,t.2.2.2.2.2.2.2.2.2.2.1,t.2.2.2.2.2.2.2.2.2.2.2.1,t.2.2.2.2.2.2.2.2.2.2.2.2.1,t.2.2.2.2.2.2.2.2.2.2.2.2.2.1,t.2.2.2.2.2.2.2.2.2.2.2.2.2.2.1,t.2.2.2.2.2.2.2.2.2.2.2.2.2.2.2.1,t.2.2.2.2.2.2.2.2.2.2.2.2.2.2.2.2.1,t.2.2.2.2.2.2.2.2.2.2.2.2.2.2.2.2.2.1,t.2.2.2.2.2.2.2.2.2.2.2.2.2.2.2.2.2.2.1,t.2.2.2.2.2.2.2.2.2.2.2.2.2.2.2.2.2.2.2.1,t.2.2.2.2.2.2.2.2.2.2.2.2.2.2.2.2.2.2.2.2.1⟩
def J17(n m:Int)(p:Ji)(k z:Ub)(w b:Ua)(v:Int)(j:Int×Int×(Ji×Unit)×RQ×(Jd×Unit)×Ub×Ub×Ua×Ua×RQ×Int×Bool×Unit):Prop:=
 ∃c:Bool,j=(n,m,(p,()),((0:Int),([]:Ua),([]:Ua),([]:Ua),0#64,(0:Int),(0:Int),[],false,false,false,false,(0:Int),0#64,false,0#64,[],[],(0:Int),[],(0:Int),()),(p.jg,()),k,z,w,b,((0:Int),([]:Ua),([]:Ua),([]:Ua),0#64,(0:Int),(0:Int),[],false,false,false,false,(0:Int),0#64,false,0#64,[],[],(0:Int),[],(0:Int),()),v,c,())
def J56(n m:Int)(d:Jd)(j:Int×Int×RQ×(Jd×Unit)×(Jb×Unit)×Unit):Prop:=∃q r,SaneR 0 r/\j=(n,m,q,(d,()),(r,()),())
def J62(n m:Int)(j:Int×Int×RQ×RQ×Unit):Prop:=∃q t,SaneR 0 (mkR t)/\j=(n,m,q,t,())
theorem Vbia(n m:Int)(p:Ji)(h:PlayOk p)(q:RQ)(rp:Ua)(w:Ub)(b1 b2:Bool):Ok (Zcz_L1 (n,m,(p,()),q,(p.jg,()),((3:Int),rp,([]:Ua),([]:Ua),w,(0:Int),(0:Int),[],false,b1,b2,false,(0:Int),0#64,false,0#64,[],[],(0:Int),[],(0:Int),()),(0:Int),())) λz=>∃l:List Ua,l.length<=3/\z=(n,m,q,(p.jg,()),((3:Int),rp,([]:Ua),([]:Ua),w,(0:Int),(0:Int),l,false,b1,b2,false,(0:Int),0#64,false,0#64,[],[],(0:Int),[],(0:Int),()),()):=by
 obtain⟨k3,h3,e3⟩:=mask (Qg m (2^(min 7 (Qa .i64)))) 3 (by omega);rw[show ((3:Nat):Int)=(3:Int) from rfl]at e3;unfold Zcz_L1 Yi7;refine Ok.iter (λs=>∃(k:Nat) (l:List Ua),k<=3/\l.length<=k/\s=(n,m,(p,()),q,(p.jg,()),((3:Int),rp,([]:Ua),([]:Ua),w,(0:Int),(0:Int),l,false,b1,b2,false,(0:Int),0#64,false,0#64,[],[],(0:Int),[],(0:Int),()),(k:Int),())) (λs=>(3-s.2.2.2.2.2.2.1).toNat) ⟨0,[],by omega,by simp,rfl⟩ (by rw[Vaa];dsimp only;omega) ?_;rintro s ⟨k,l,hk,hl,rfl⟩;dsimp only;unfold Zcz_L1b;dsimp only;rw[e3];refine Ok.cond (λhc=>?_) (λhc=>Ok.some ⟨l,by omega,rfl⟩);have hc:=Uo hc;refine Ok.bm (Vb6 p h _) ?_;rintro⟨_,x,_⟩ hx;dsimp only;rw[Vab (by simp only[Qb,Qc];omega) (by omega),Ui,wI ((k:Int)+1) (by omega)];exact Ok.some ⟨⟨k+1,l++[x],by omega,by rw[Qi];simp only[Qb,Qc];omega,rfl⟩,by dsimp only;omega⟩
theorem Vsc(p:Ji)(h:PlayOk p)(n m:Int):Ok (Zcz p n m) λr=>SaneR 1 r.2.1:=by
 unfold Zcz;refine Ok.bm (Vpc _) ?_;rintro⟨_,k,_⟩ _;refine Ok.bm (Vf6 _) ?_;rintro⟨_,z,_⟩ _;dsimp only;obtain⟨l1,e1,hl1⟩:=Vgp (Qd .i64 ((Qe (Qa .i64) (Qg m (2^(min 3 (Qa .i64))))&&&Qe (Qa .i64) (1:Int)).toNat:Int));rw[e1,bindU];refine Ok.bm (Vgo _ (by dsimp only;omega)) ?_;rintro⟨_,y,_⟩ _;refine Ok.bm (Vfg _ _ _) ?_;rintro⟨_,w,_⟩ hw;dsimp only at *;obtain⟨l2,e2,hl2⟩:=Vgp (Qd .i64 ((Qe (Qa .i64) (Qg m (2^(min 4 (Qa .i64))))&&&Qe (Qa .i64) (1:Int)).toNat:Int));rw[e2,bindU];obtain⟨l3,e3,hl3⟩:=Vgp (Qd .i64 ((Qe (Qa .i64) (Qg m (2^(min 5 (Qa .i64))))&&&Qe (Qa .i64) (3:Int)).toNat:Int));rw[e3,bindU];obtain⟨l4,e4,hl4⟩:=Vgp 0;rw[e4,bindU];obtain⟨k7,h7,e7⟩:=mask (Qg m (2^(min 7 (Qa .i64)))) 3 (by omega);rw[show ((3:Nat):Int)=(3:Int) from rfl]at e7;dsimp only;rw[e7,inR (by omega),Ui,Qf];refine Ok.get (by simp only[Qb,Qc];omega) λx=>?_;refine Ok.bm (Vj9 _ _ _) ?_;rintro⟨_,b,c,_⟩ ⟨hb,_⟩;dsimp only at *;have ni:∀x:Nat,x<=100->in64 (x:Int):=λx hx=>by unfold in64;omega
 refine Ok.bm (Q:=J56 n m p.jg) ?_ ?_
 ·refine Ok.bm (Q:=J17 n m p k z w b (Qd .i64 ((Qe (Qa .i64) n&&&Qe (Qa .i64) (15:Int)).toNat:Int))) (Ok.cond (λ_=>Ok.some ⟨_,rfl⟩) λ_=>Ok.cond (λ_=>Ok.some ⟨_,rfl⟩) λ_=>Ok.some ⟨_,rfl⟩) ?_;rintro j ⟨c1,rfl⟩;dsimp only;refine Ok.cond (λ_=>?_) λ_=>?_
  ·obtain⟨rp,f1,r1,r2,r3⟩:=RP_ok m;rw[f1,bindU];obtain⟨us,f2,u1,u2⟩:=Vo6 (Qg m (2^(min 2 (Qa .i64))));rw[f2,bindU];obtain⟨ta,tb,f3⟩:=Vyp (Qg m (2^(min 4 (Qa .i64))));rw[f3,bindU];obtain⟨t1,t2⟩:=Vka ta tb;refine Ok.bm (Vl0 _) ?_;rintro⟨_,wd,_⟩ _;dsimp only;have H:∀(l:List Ua) (h1 h2:Int) (b1 b2 b3 b4:Bool) (x:Ub),l.length<=2->SaneR 0 ⟨2,rp,us,words.getD ta.val []++words.getD tb.val [],wd,Qd .i64 h1,Qd .i64 h2,l,b1,false,b2,b3,Qp (Qg m (2^(min 11 (Qa .i64)))) 3,0#64,false,0#64,[],[],0,[],0⟩:=λl h1 h2 b1 b2 b3 b4 x hl=>⟨by dsimp only;omega,by dsimp only;omega,by dsimp only;omega,by dsimp only;omega,by simp,by simp,by simp,Vem _,Vem _,Vf9a _ 3 (by omega) (by omega) _ rfl,z64,z64,ni 2 (by omega)⟩;refine Ok.cond (λ_=>?_) λ_=>?_
   ·refine Ok.cond (λ_=>?_) λ_=>Ok.some ⟨_,_,H _ _ _ _ _ _ true 0 (by simp),rfl⟩;refine Ok.bm (Vb6 p h _) ?_;rintro⟨_,x1,_⟩ _;refine Ok.bm (Vb6 p h _) ?_;rintro⟨_,x2,_⟩ _;exact Ok.some ⟨_,_,H _ _ _ _ _ _ true 0 (by simp),rfl⟩
   ·refine Ok.cond (λ_=>?_) λ_=>Ok.some ⟨_,_,H _ _ _ _ _ _ true 0 (by simp),rfl⟩;refine Ok.bm (Vb6 p h _) ?_;rintro⟨_,x1,_⟩ _;refine Ok.bm (Vb6 p h _) ?_;rintro⟨_,x2,_⟩ _;exact Ok.some ⟨_,_,H _ _ _ _ _ _ true 0 (by simp),rfl⟩
  refine Ok.bm (Q:=J17 n m p k z w b (Qd .i64 ((Qe (Qa .i64) n&&&Qe (Qa .i64) (15:Int)).toNat:Int))) (Ok.cond (λ_=>Ok.some ⟨_,rfl⟩) λ_=>Ok.cond (λ_=>Ok.some ⟨_,rfl⟩) λ_=>Ok.some ⟨_,rfl⟩) ?_;rintro j ⟨c2,rfl⟩;dsimp only;refine Ok.cond (λ_=>?_) λ_=>?_
  ·obtain⟨rp,f1,r1,r2,r3⟩:=RP_ok m;rw[f1,bindU];refine Ok.bm (Vl0 _) ?_;rintro⟨_,wd,_⟩ _;dsimp only;refine Ok.bm (Vbia n m p h _ rp wd _ _) ?_;rintro j ⟨l,hl,rfl⟩;exact Ok.some ⟨_,_,⟨by dsimp only;omega,by simp,by simp,by dsimp only;omega,by simp,by simp,by simp,z64,z64,z64,z64,z64,ni 3 (by omega)⟩,rfl⟩
  have B:∀(q:Int) (b1:Bool) (x:Ub) (l1 l2:Ua) (i c:Int) (l3 l4:Ua),in64 q->in64 i->in64 c->l1.length<=1100->l2.length<=1100->l3.length<=10000->l4.length<=100->SaneR 0 ⟨q,l4,[],[],0#64,0,0,[],false,false,false,false,0,0#64,false,x,l1,l2,i,l3,c⟩:=λq b1 x l1 l2 i c l3 l4 g1 g2 g3 g4 g5 g6 g7=>⟨g7,by simp,by simp,by simp,g4,g5,g6,z64,z64,z64,g2,g3,g1⟩;refine Ok.cond (λ_=>Ok.some ⟨_,_,B _ true _ _ _ _ _ _ _ (ni 4 (by omega)) z64 z64 (by simp) (by simp) (by simp) (by simp),rfl⟩) λ_=>?_;refine Ok.cond (λ_=>Ok.some ⟨_,_,B _ true _ _ _ _ _ _ _ (ni 7 (by omega)) z64 z64 (by omega) (by simp) (by simp) (by simp),rfl⟩) λ_=>?_;refine Ok.bm (Q:=J17 n m p k z w b (Qd .i64 ((Qe (Qa .i64) n&&&Qe (Qa .i64) (15:Int)).toNat:Int))) (Ok.cond (λ_=>Ok.some ⟨_,rfl⟩) λ_=>Ok.some ⟨_,rfl⟩) ?_;rintro j ⟨c3,rfl⟩;dsimp only;refine Ok.cond (λ_=>?_) λ_=>?_
  ·obtain⟨rp,f1,r1,r2,r3⟩:=RP_ok (Qg m (2^(min 1 (Qa .i64))));rw[f1,bindU];obtain⟨k2,h2,g2⟩:=mask (Qg m (2^(min 2 (Qa .i64)))) 1 (by omega);rw[show ((1:Nat):Int)=(1:Int) from rfl]at g2;dsimp only;rw[g2,inR (by omega),Ui,Qf];refine Ok.getP (P:=λx=>x.length<=100) (by simp only[Qb,Qc];omega) (by simp;omega) λx hx=>?_;exact Ok.some ⟨_,_,B _ true _ _ _ _ _ _ _ (ni 9 (by omega)) (Vem _) z64 (by simp) (by omega) (by simp) hx,rfl⟩
  refine Ok.cond (λ_=>Ok.some ⟨_,_,B _ true _ _ _ _ _ _ _ (ni 8 (by omega)) z64 z64 (by omega) (by omega) (by simp) (by simp),rfl⟩) λ_=>?_;refine Ok.cond (λ_=>?_) λ_=>?_
  ·obtain⟨k2,h2,g2⟩:=mask m 3 (by omega);rw[show ((3:Nat):Int)=(3:Int) from rfl]at g2;rw[g2,inR (by omega),Ui,Qf];refine Ok.getP (P:=in64) (by simp only[Qb,Qc];omega) (by simp[in64]) λx hx=>?_;exact Ok.some ⟨_,_,B _ true _ _ _ _ _ _ _ hx z64 z64 (by simp) (by simp) (by simp) (by simp),rfl⟩
  refine Ok.cond (λ_=>Ok.some ⟨_,_,B _ true _ _ _ _ _ _ _ (ni 11 (by omega)) z64 z64 (by simp) (by simp) (by simp) (by simp),rfl⟩) λ_=>?_;refine Ok.cond (λ_=>?_) λ_=>?_
  ·refine Ok.bm (Vb6 p h _) ?_;rintro⟨_,x1,_⟩ hx;exact Ok.some ⟨_,_,B _ true _ _ _ _ _ _ _ (ni 12 (by omega)) z64 z64 (by simp) (by simp) hx (by simp),rfl⟩
  refine Ok.cond (λ_=>?_) λ_=>?_
  ·refine Ok.bm (Vb6 p h _) ?_;rintro⟨_,x1,_⟩ hx;exact Ok.some ⟨_,_,B _ true _ _ _ _ _ _ _ (ni 13 (by omega)) z64 (Vem _) (by simp) (by simp) hx (by simp),rfl⟩
  refine Ok.cond (λ_=>?_) λ_=>?_
  ·refine Ok.bm (Vbga _) ?_;rintro⟨_,cr,_⟩ hcr;refine Ok.bm (Vbha cr hcr _ _) ?_;rintro⟨_,gr,ge,_⟩ _;refine Ok.bm (Vlu _ _ _ _) ?_;rintro⟨_,sl,se,_⟩ ⟨hs,_⟩;dsimp only at *;exact Ok.some ⟨_,_,B _ true _ _ _ _ _ _ _ (ni 14 (by omega)) z64 z64 (by omega) (by simp) (by simp) (by simp),rfl⟩
  exact Ok.some ⟨_,_,B _ true _ _ _ _ _ _ _ z64 z64 z64 (by simp) (by simp) (by simp) (by simp),rfl⟩
 rintro j ⟨q,r,hr,rfl⟩;have au:Ok (Zbt p.jg r) λq=>SaneR 0 q.2.1:=Ok.mono (Vgy p.jg r (hr.q (by omega))) (by
  rintro⟨_,a,_⟩ ⟨x,hx⟩;dsimp only at hx;subst hx;exact⟨hr.rp,hr.us,hr.nm,hr.li,hr.bx,hr.pf,hr.ii,hr.i1,hr.i2,hr.i3,hr.i4,hr.i5,hr.i6⟩)
 have tu:∀a:Jb,SaneR 0 a->J62 n m (n,m,q,(a.kind,a.rP,a.user,a.name,a.jx,a.jc,a.jd,a.list,a.je,a.jq,a.jt,a.jm,a.jk,a.auth,a.jj,a.jv,a.box,a.proof,a.jb,a.iD,a.count,()),()):=λa ha=>⟨q,(a.kind,a.rP,a.user,a.name,a.jx,a.jc,a.jd,a.list,a.je,a.jq,a.jt,a.jm,a.jk,a.auth,a.jj,a.jv,a.box,a.proof,a.jb,a.iD,a.count,()),ha,rfl⟩;refine Ok.bm (Q:=J62 n m) ?_ ?_
 ·dsimp only;refine Ok.cond (λ_=>?_) λ_=>Ok.cond (λ_=>Ok.cond (λ_=>?_) λ_=>Ok.some (tu _ hr)) λ_=>Ok.some (tu _ hr)
  ·refine Ok.bm au ?_;rintro⟨_,a,_⟩ ha;exact Ok.some (tu a ha)
  ·refine Ok.bm au ?_;rintro⟨_,a,_⟩ ha;exact Ok.some (tu a ha)
 rintro j ⟨q2,t,ht,rfl⟩;refine Ok.bm (Q:=λj=>SaneR 1 (mkR j.2.1)) ?_ ?_
 ·dsimp only;refine Ok.cond (λ_=>?_) λ_=>Ok.some ht.up;refine Ok.bm (Vq3 0 (by omega) (mkR t) ht m) ?_;rintro⟨_,a,_⟩ ha;exact Ok.some ha
 rintro⟨j1,j2,_⟩ hj;exact Ok.some hj
theorem Vsd(a b:Int):Ok (Zcf a b) λr=>SaneQ r.2.1:=by
 unfold Zcf;dsimp only;refine Ok.bm (Vf8a _ _) ?_;rintro⟨_,p,_⟩ ⟨hp,_⟩;refine Ok.bm (Vsc p hp _ _) ?_;rintro⟨_,r,_⟩ hr;refine Ok.cond (λ_=>?_) λ_=>Ok.some (hr.q (by omega));refine Ok.bm (Vq3 1 (by omega) r hr _) ?_;rintro⟨_,q,_⟩ hq;exact Ok.some (hq.q (by omega))
end Go.Proofs.YtnfhkhlbdgbkjaaGreatDoor

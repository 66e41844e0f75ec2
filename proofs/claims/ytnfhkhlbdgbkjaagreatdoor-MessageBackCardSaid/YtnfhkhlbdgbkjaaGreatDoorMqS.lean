/- The device of the reference: the steps of a request are total. -/
import Derived.Test.YtnfhkhlbdgbkjaaGreatDoorMqR
set_option linter.unusedVariables false
set_option linter.unusedSimpArgs false
set_option maxRecDepth 100000
namespace Go.Proofs.YtnfhkhlbdgbkjaaGreatDoor
open Go Go.Abs
theorem DevOk.jao{d:Jd}(h:DevOk d)(n:Int):DevOk { d with jao:=n }:=⟨h.on,h.v,h.n0,h.n1⟩
structure RepOk(p:Jj):Prop where
 a:p.jae.length<=10000
 i:p.iD.length<=10000
structure WOk(r:Jb)(g:List Jl)(w:Je):Prop where
 d:DevOk w.d
 b:w.jaa = -1
 p:RepOk w.jc
 r:w.r=r
 g:w.g=g
def fl(w:Je)(e:Int):Je:=bif decide (w.err=0) then { w with err:=e } else w
theorem Vbd(w:Je)(e:Int):Zbi (w,()) e=some (((fl w e,()),()),(!decide ((fl w e).err=0)),()):=by
 unfold Zbi fl;dsimp only;cases h:decide (w.err=0)
 ·rw[Uj,Uj,h]
 ·rfl
theorem WOk.fl{r:Jb}{g:List Jl}{w:Je}(h:WOk r g w)(e:Int):WOk r g (fl w e):=by
 unfold Proofs.YtnfhkhlbdgbkjaaGreatDoor.fl;cases decide (w.err=0)
 ·exact h
 ·exact⟨h.d,h.b,h.p,h.r,h.g⟩
theorem Vgxa{r:Jb}{g:List Jl}{w:Je}(h:WOk r g w):Ok (Zbx (w,())) λq=>DevOk q.2.1/\RepOk q.2.2.1:=by
 unfold Zbx;exact Ok.cond (λ_=>Ok.some ⟨h.d,by simp,by simp⟩) (λ_=>Ok.some ⟨h.d,h.p⟩)
theorem Vcz{r:Jb}{g:List Jl}{w:Je}(h:WOk r g w):Ok ((Zbx (w,())).bind λr4=>(some ((),(r4.2.1,r4.2.2.1,r4.2.2.2.1,())):Option (Unit×(Jd×Jj×Int×Unit)))) λq=>DevOk q.2.1/\RepOk q.2.2.1:=by
 refine Ok.bm (Vgxa h) ?_;rintro⟨_,d,p,b,_⟩ hq;exact Ok.some hq
theorem Vfx{r:Jb}{g:List Jl}{w:Je}(h:WOk r g w):Ok (Zbh (w,())) λq=>WOk r g q.1.1.1:=by
 unfold Zbh;refine Ok.bm (Vxc w.d h.d.v) ?_;rintro⟨_,d,x,_⟩ ⟨n,rfl⟩;exact Ok.some ⟨h.d.jao n,h.b,h.p,h.r,h.g⟩
theorem Vnd(r:Jb)(h:SaneQ r):Ok (Zdb r) λ_=>True:=by
 rw[Voh r h];exact Ok.some trivial
theorem Vlg{r:Jb}{g:List Jl}{w:Je}(h:WOk r g w)(hs:SaneQ r)(n:Int)(l:Ua):Ok (Zae (w,()) n l) λq=>WOk r g q.1.1.1:=by
 unfold Zae;refine Ok.cond (λ_=>Ok.some h) λ_=>?_;refine Ok.bm (Vnd _ (by dsimp only;rw[h.r];exact hs)) λ_ _=>?_;refine Ok.bm (Vi2 _ _ _ _ _ _) ?_;rintro⟨_,e,_⟩ _;dsimp only;rw[Vbd,bindU];exact Ok.some (h.fl e)
theorem Vxs{r:Jb}{g:List Jl}{w:Je}(h:WOk r g w)(hg:g.length<=1000000)(v:Bool):Ok (Zaw (w,()) v) λq=>WOk r g q.1.1.1:=by
 unfold Zaw;refine Ok.cond (λ_=>Ok.some h) λ_=>?_;refine Ok.bm (Vz3 _ _ _ _ (by dsimp only;rw[h.g];exact hg) h.d.n0 h.d.n1) ?_;rintro⟨_,c,e,_⟩ hc;dsimp only at *;refine Ok.cond (λhe=>?_) λ_=>?_
 ·have he:=hc (Uo he);rw[Vbd,bindU];refine Ok.some (WOk.fl (w:=⟨⟨w.d.jm,w.d.jp,w.d.on,c.at_,w.d.jaz,w.d.jao,w.d.jad,w.d.ju,w.d.next⟩,w.r,w.g,w.jaa,w.jc,w.err⟩) ⟨⟨h.d.on,h.d.v,he.1,he.2⟩,h.b,h.p,h.r,h.g⟩ _)
 ·rw[Vbd,bindU];exact Ok.some (h.fl e)
theorem Von{r:Jb}{g:List Jl}{w:Je}(h:WOk r g w)(d:Jd)(n e:Int)(hd:DevOk d)(he:e≠16)(hn:e=0->n = -1):Ok (Zbj (w,()) d n e) λq=>WOk r g q.1.1.1:=by
 unfold Zbj;refine Ok.cond (λh0=>?_) λ_=>?_
 ·rw[Vbd,bindU];exact Ok.some (WOk.fl (w:=⟨d,w.r,w.g,n,w.jc,w.err⟩) ⟨hd,hn (Uo h0),h.p,h.r,h.g⟩ _)
 ·rw[Un he,Uj,Vbd,bindU];exact Ok.some (WOk.fl (w:=⟨d,w.r,w.g,w.jaa,w.jc,w.err⟩) ⟨hd,h.b,h.p,h.r,h.g⟩ _)
theorem Vis{r:Jb}{g:List Jl}{w:Je}(h:WOk r g w)(l:List Jf)(hv:Vals 1000 l)(hl:l.length<=1000):Ok (Zaz (w,()) l) λq=>WOk r g q.1.1.1:=by
 unfold Zaz;refine Ok.cond (λ_=>Ok.some h) λ_=>?_;rw[h.b];refine Ok.bm (Vqd w.d h.d.on h.d.v 1000 (by omega) l hv (by omega) (-1) (by omega) (by omega)) ?_;rintro⟨_,d,c,e,_⟩ (⟨rfl,he⟩|⟨v,k1,rfl,k2,k3⟩)
 ·refine Ok.bm (Von h _ _ _ h.d he.2 λh0=>absurd h0 he.1) ?_;rintro⟨⟨⟨w2,_⟩,_⟩,_⟩ hw;exact Ok.some hw
 ·dsimp only at *;subst k2;subst k3;refine Ok.bm (Von h _ _ _ ⟨h.d.on,k1,h.d.n0,h.d.n1⟩ (by decide) λ_=>rfl) ?_;rintro⟨⟨⟨w2,_⟩,_⟩,_⟩ hw;exact Ok.some hw
theorem Vz9{r:Jb}{g:List Jl}{w:Je}(h:WOk r g w)(n:Int):Ok (Zay (w,()) n) λq=>WOk r g q.1.1.1:=by
 unfold Zay;refine Ok.cond (λ_=>Ok.cond (λ_=>?_) λ_=>Ok.some h) λ_=>Ok.some h;refine Ok.bm (Vgva _ _) λq _=>?_;exact Ok.some ⟨⟨h.d.on,h.d.v,h.d.n0,h.d.n1⟩,h.b,h.p,h.r,h.g⟩
theorem Vjx{r:Jb}{g:List Jl}{w:Je}(h:WOk r g w):Ok (Zaq (w,())) λq=>WOk r g q.1.1.1:=by
 unfold Zaq;refine Ok.cond (λ_=>Ok.some h) λ_=>?_;refine Ok.bm (Vm9 _ _) ?_;rintro⟨_,x,e,_⟩ _;dsimp only;rw[Vbd,bindU];refine Ok.cond (λ_=>Ok.some (h.fl e)) λ_=>?_;refine Ok.bm (Vfx (h.fl e)) ?_;rintro⟨⟨⟨w2,_⟩,_⟩,x2,_⟩ hw;exact Ok.some ⟨⟨hw.d.on,hw.d.v,hw.d.n0,hw.d.n1⟩,hw.b,hw.p,hw.r,hw.g⟩
theorem Vxt{r:Jb}{g:List Jl}{w:Je}(h:WOk r g w)(l:Ua)(hl:l.length<=100000):Ok (Zax (w,()) l) λq=>WOk r g q.1.1.1/\q.2.1.value.length=8:=by
 unfold Zax;refine Ok.bm (Vfv _ h.d.v) λ_ _=>?_;refine Ok.bm (Vgg l hl) λ_ _=>?_;refine Ok.bm (Vip _ _) λ_ _=>?_;rw[rW1,bindU];exact Ok.some ⟨h,by simp[w8]⟩
theorem Voo(n:Int):Zfk n=some ((),⟨4,[UInt8.ofBitVec (BitVec.ofInt 8 n)]⟩,()):=rfl
theorem Vrq{r:Jb}{g:List Jl}{w:Je}(h:WOk r g w)(x:Ub):Ok (Zah (w,()) x) λq=>WOk r g q.1.1.1:=by
 unfold Zah ZahG;refine Ok.bm (Vqf _ h.d.v) λp _=>?_;refine Ok.bm (Vxo _) λq _=>?_;rw[Vbd,bindU];refine Ok.cond (λ_=>Ok.some (h.fl _)) λ_=>?_;rw[Voo,bindU];refine Ok.bm (Vis (h.fl _) _ (Vals.one (by simp)) (by simp)) ?_;rintro⟨⟨⟨w2,_⟩,_⟩,b,_⟩ hw;refine Ok.cond (λ_=>Ok.some hw) λ_=>?_;refine Ok.bm (Vfv _ hw.d.v) λ_ _=>?_;refine Ok.bm (Vip _ _) λ_ _=>?_;refine Ok.bm (Vxp _ _) λs _=>?_;rw[Vbd,bindU];exact Ok.some (WOk.fl (w:=⟨⟨w2.d.jm,w2.d.jp,w2.d.on,w2.d.now,w2.d.jaz,w2.d.jao,s.2.1.jad,w2.d.ju,w2.d.next⟩,w2.r,w2.g,w2.jaa,w2.jc,w2.err⟩) ⟨⟨hw.d.on,hw.d.v,hw.d.n0,hw.d.n1⟩,hw.b,hw.p,hw.r,hw.g⟩ _)
theorem Vlh(d:Jd)(h:DevOk d)(now:Int)(h0:0<=now)(h1:now<=1099511627776)(r:Jb)(g:List Jl)(k:Int)(hk:r.kind=k)(hk4:k≠4)(hv:Zbw r=some ((),0,())):Ok (Zec d now r g (-1) k) λq=>WOk r g q.2.1/\q.2.2.1=0:=by
 unfold Zec;rw[h.on,Bool.not_true,Uj,Un (by omega),Uj,Un (by omega),Uj,Um hk,Bool.not_true,Uj,hv,bindU,bindU];dsimp only;rw[show (!decide ((0:Int)=0))=false from rfl,Uj,Un hk4,Bool.not_false,Ui];have hx:0<=(bif decide (d.now<now) then now else d.now)/\(bif decide (d.now<now) then now else d.now)<=1099511627776:=by
  have:=h.n0;have:=h.n1;by_cases hc:d.now<now
  ·rw[Um hc,Ui];omega
  ·rw[Un hc,Uj];omega
 exact Ok.some ⟨⟨⟨h.on,h.v,hx.1,hx.2⟩,rfl,⟨by simp,by simp⟩,rfl,rfl⟩,rfl⟩
theorem weakL(x:Int)(l:Ua)(hl:l.length<=1000):Ok (Zfa_L0 (x,true,(l,0),())) λ_=>True:=by
 unfold Zfa_L0 i3;refine Ok.iter (λs=>∃(b:Bool) (p:Nat),p<=l.length+4/\s=(x,b,(l,p),())) (λs=>l.length+4-s.2.2.1.2) ⟨true,0,by omega,rfl⟩ (by rw[Vaa];dsimp only;omega) ?_;rintro s ⟨b,p,hp,rfl⟩;dsimp only;unfold Zfa_L0b;refine Ok.cond (λhc=>?_) (λ_=>Ok.some trivial);have hc:=Uo hc;have hw:1<=(Utf8.decode (⟨l.toArray⟩:ByteArray) p).2/\(Utf8.decode (⟨l.toArray⟩:ByteArray) p).2<=4:=by
  unfold Utf8.decode;simp only[];repeat' split
  all_goals simp
 dsimp only at *;refine Ok.cond (λ_=>Ok.some trivial) λ_=>Ok.cond (λ_=>?_) λ_=>?_;all_goals exact Ok.some ⟨⟨_,_,by omega,rfl⟩,by dsimp only;omega⟩
theorem Vexa(l:Ua):Ok (Zfa l) λ_=>True:=by
 unfold Zfa;refine Ok.cond (λ_=>Ok.some trivial) λ_=>Ok.cond (λ_=>Ok.some trivial) λh=>?_;have h:=Up h;unfold Zhf Zbm Zbe;rw[Um (by omega:l.length<=9223372036854775807),Ui,bindU];refine Ok.cond (λ_=>Ok.some trivial) λ_=>?_;rw[Um (by omega:l.length<9223372036854775807),Ui,bindU];refine Ok.cond (λ_=>Ok.some trivial) λ_=>?_;rw[bindU];refine Ok.bm (weakL _ l (by omega)) ?_;rintro (⟨b,_⟩|⟨b,_⟩) _
 ·exact Ok.some trivial
 ·exact Ok.some trivial
theorem Vxu(d:Jd)(h:DevOk d)(now:Int)(h0:0<=now)(h1:now<=1099511627776)(r:Jb)(g:List Jl)(hk:r.kind=7)(hv:Zbw r=some ((),0,())):Ok (Zdi d now r g (-1)) λq=>DevOk q.2.1/\RepOk q.2.2.1:=by
 unfold Zdi;refine Ok.bm (Vlh d h now h0 h1 r g 7 hk (by decide) hv) ?_;rintro⟨_,w,e,_⟩ ⟨hw,he⟩;dsimp only at *;subst he;rw[show (!decide ((0:Int)=0))=false from rfl,Uj];refine Ok.bm (Q:=λ(j:(Jb×Unit)×(Jd×Unit)×(Jj×Unit)×(Je×Unit)×Unit)=>j.1.1=r/\WOk r g j.2.2.2.1.1) (Ok.bm (Vqf _ hw.d.v) λp _=>Ok.cond (λ_=>by rw[Vbd,bindU];exact Ok.some ⟨rfl,hw.fl _⟩) λ_=>Ok.some ⟨rfl,hw⟩) ?_;rintro⟨⟨r',_⟩,⟨z1,_⟩,⟨z2,_⟩,⟨w1,_⟩,_⟩ ⟨rfl,hw1⟩;dsimp only at *;refine Ok.bm (Vjx hw1) ?_;rintro⟨⟨⟨w2,_⟩,_⟩,x,_⟩ hw2;refine Ok.cond (λ_=>Vcz hw2) λ_=>?_;refine Ok.bm (Vrl _ _) ?_;rintro⟨_,t,e2,_⟩ ht;dsimp only at *;rw[Vbd,bindU];refine Ok.cond (λ_=>Vcz (hw2.fl _)) λ_=>?_;refine Ok.bm (Vexa _) λb _=>?_;refine Ok.cond (λ_=>?_) λ_=>?_
 ·rw[Vbd,bindU];exact Vcz ((hw2.fl _).fl _)
 refine Ok.bm (Vxt (hw2.fl _) t (by omega)) ?_;rintro⟨⟨⟨w3,_⟩,_⟩,pr,_⟩ ⟨hw3,hp⟩;rw[Voo,bindU];dsimp only at *;refine Ok.bm (Vis hw3 [pr,⟨4,[UInt8.ofBitVec (BitVec.ofInt 8 8)]⟩] (Vals.app (Vals.one (by omega)) (Vals.one (by simp))) (by simp)) ?_;rintro⟨⟨⟨w4,_⟩,_⟩,b4,_⟩ hw4;refine Ok.cond (λ_=>?_) λ_=>Vcz hw4;exact Vcz (w:=⟨⟨w4.d.jm,w4.d.jp,w4.d.on,w4.d.now,w4.d.jaz,w4.d.jao,0,w4.d.ju,w4.d.next⟩,w4.r,w4.g,w4.jaa,w4.jc,w4.err⟩) ⟨⟨hw4.d.on,hw4.d.v,hw4.d.n0,hw4.d.n1⟩,hw4.b,hw4.p,hw4.r,hw4.g⟩
theorem Vaaa(d:Jd)(h:DevOk d)(now:Int)(h0:0<=now)(h1:now<=1099511627776)(r:Jb)(g:List Jl)(hk:r.kind=9)(hv:Zbw r=some ((),0,())):Ok (Zeb d now r g (-1)) λq=>DevOk q.2.1/\RepOk q.2.2.1:=by
 unfold Zeb;refine Ok.bm (Vlh d h now h0 h1 r g 9 hk (by decide) hv) ?_;rintro⟨_,w,e,_⟩ ⟨hw,he⟩;dsimp only at *;subst he;rw[show (!decide ((0:Int)=0))=false from rfl,Uj];refine Ok.bm (Q:=λ(j:(Jb×Unit)×(Jd×Unit)×(Jj×Unit)×(Je×Unit)×Unit)=>j.1.1=r/\WOk r g j.2.2.2.1.1) (Ok.cond (λ_=>by rw[Vbd,bindU];exact Ok.some ⟨rfl,hw.fl _⟩) λ_=>Ok.cond (λ_=>by rw[Vbd,bindU];exact Ok.some ⟨rfl,hw.fl _⟩) λ_=>Ok.some ⟨rfl,hw⟩) ?_;rintro⟨⟨r',_⟩,⟨z1,_⟩,⟨z2,_⟩,⟨w1,_⟩,_⟩ ⟨rfl,hw1⟩;dsimp only at *;refine Ok.bm (Q:=λ(j:(Jb×Unit)×(Jd×Unit)×(Jj×Unit)×(Je×Unit)×Unit)=>j.1.1=r'/\WOk r' g j.2.2.2.1.1) (Ok.bm (Vqf _ hw1.d.v) λp _=>Ok.cond (λ_=>by rw[Vbd,bindU];exact Ok.some ⟨rfl,hw1.fl _⟩) λ_=>Ok.some ⟨rfl,hw1⟩) ?_;rintro⟨⟨r'',_⟩,⟨z1,_⟩,⟨z2,_⟩,⟨w1,_⟩,_⟩ ⟨rfl,hw1⟩;dsimp only at *;refine Ok.bm (Vjx hw1) ?_;rintro⟨⟨⟨w2,_⟩,_⟩,x,_⟩ hw2;refine Ok.cond (λ_=>Vcz hw2) λ_=>?_;refine Ok.bm (Vok _ _) ?_;rintro⟨_,t,e2,_⟩ _;dsimp only at *;rw[Vbd,bindU];refine Ok.cond (λ_=>Vcz (hw2.fl _)) λ_=>?_;refine Ok.bm (Vrq (hw2.fl _) _) ?_;rintro⟨⟨⟨w3,_⟩,_⟩,_⟩ hw3;refine Ok.cond (λ_=>Vcz hw3) λ_=>?_;rw[Voo,bindU];dsimp only at *;refine Ok.bm (Vis hw3 [⟨4,[UInt8.ofBitVec (BitVec.ofInt 8 8)]⟩] (Vals.one (by simp)) (by simp)) ?_;rintro⟨⟨⟨w4,_⟩,_⟩,b4,_⟩ hw4;refine Ok.cond (λ_=>Vcz hw4) λ_=>?_;dsimp only at *;refine Ok.bm (Vfx hw4) ?_;rintro⟨⟨⟨w5,_⟩,_⟩,x5,_⟩ hw5;dsimp only at *;refine Ok.bm (Vz2 _ _ _ _ _) λq _=>?_;have hw6:WOk r'' g ⟨⟨w5.d.jm,w5.d.jp,w5.d.on,w5.d.now,w5.d.jaz,w5.d.jao,w5.d.jad,q.2.1,w5.d.next⟩,w5.r,w5.g,w5.jaa,w5.jc,w5.err⟩:=⟨⟨hw5.d.on,hw5.d.v,hw5.d.n0,hw5.d.n1⟩,hw5.b,hw5.p,hw5.r,hw5.g⟩;refine Ok.bm (Vfx hw6) ?_;rintro⟨⟨⟨w7,_⟩,_⟩,x7,_⟩ hw7;dsimp only at *;refine Ok.bm (Ve8 _ _ _) λq2 _=>?_;exact Vcz (w:=⟨w7.d,w7.r,w7.g,w7.jaa,⟨w7.jc.err,w7.jc.jae,w7.jc.jac,w7.jc.jq,w7.jc.jk,w7.jc.iD,w7.jc.user,w7.jc.name,w7.jc.count,w7.jc.jv,q2.2.1,w7.jc.jaf,w7.jc.jx,w7.jc.jay,w7.jc.jau,w7.jc.jax,w7.jc.jaj,w7.jc.jy⟩,w7.err⟩) ⟨hw7.d,hw7.b,⟨hw7.p.a,hw7.p.i⟩,hw7.r,hw7.g⟩
end Go.Proofs.YtnfhkhlbdgbkjaaGreatDoor

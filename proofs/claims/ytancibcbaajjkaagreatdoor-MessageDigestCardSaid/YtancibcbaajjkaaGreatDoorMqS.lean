/- The device of the reference: the steps of a request are total. -/
import Derived.Test.YtancibcbaajjkaaGreatDoorMqR
set_option linter.unusedVariables false
set_option linter.unusedSimpArgs false
set_option maxRecDepth 100000
namespace Go.Proofs.YtancibcbaajjkaaGreatDoor
open Go Go.Abs
theorem DevOk.jam {d:Jc} (h:DevOk d) (n:Int):DevOk { d with jam:=n }:=⟨h.on,h.v,h.n0,h.n1⟩
structure RepOk (p:Jj):Prop where
 a:p.jad.length<=10000
 i:p.iD.length<=10000
structure WOk (r:Jb) (g:List Jl) (w:Jd):Prop where
 d:DevOk w.d
 b:w.jz = -1
 p:RepOk w.jc
 r:w.r=r
 g:w.g=g
def fl (w:Jd) (e:Int):Jd:=bif decide (w.err=0) then { w with err:=e } else w
theorem Vba (w:Jd) (e:Int):Zbh (w,()) e=some (((fl w e,()),()),(!decide ((fl w e).err=0)),()):=by
 unfold Zbh fl
 dsimp only
 cases h:decide (w.err=0)
 ·rw [cond_false,cond_false,h]
 ·rfl
theorem WOk.fl {r:Jb} {g:List Jl} {w:Jd} (h:WOk r g w) (e:Int):WOk r g (fl w e):=by
 unfold Proofs.YtancibcbaajjkaaGreatDoor.fl
 cases decide (w.err=0)
 ·exact h
 ·exact ⟨h.d,h.b,h.p,h.r,h.g⟩
theorem Vesa {r:Jb} {g:List Jl} {w:Jd} (h:WOk r g w):Ok (Zbu (w,())) λq=>DevOk q.2.1/\RepOk q.2.2.1:=by
 unfold Zbu
 exact Ok.cond (λ_=>Ok.some ⟨h.d,by simp,by simp⟩) (λ_=>Ok.some ⟨h.d,h.p⟩)
theorem Vcp {r:Jb} {g:List Jl} {w:Jd} (h:WOk r g w):Ok ((Zbu (w,())).bind λr4=>(some ((),(r4.2.1,r4.2.2.1,r4.2.2.2.1,())):Option (Unit×(Jc×Jj×Int×Unit)))) λq=>DevOk q.2.1/\RepOk q.2.2.1:=by
 refine Ok.bind (Ok.mono (Vesa h) ?_)
 rintro ⟨_,d,p,b,_⟩ hq
 exact Ok.some hq
theorem Vfq {r:Jb} {g:List Jl} {w:Jd} (h:WOk r g w):Ok (Zbg (w,())) λq=>WOk r g q.1.1.1:=by
 unfold Zbg
 refine Ok.bind (Ok.mono (Vv5 w.d h.d.v) ?_)
 rintro ⟨_,d,x,_⟩ ⟨n,rfl⟩
 exact Ok.some ⟨h.d.jam n,h.b,h.p,h.r,h.g⟩
theorem Vm2 (r:Jb) (h:SaneQ r):Ok (Zcu r) λ_=>True:=by
 rw [Vic r h]
 exact Ok.some trivial
theorem Vk6 {r:Jb} {g:List Jl} {w:Jd} (h:WOk r g w) (hs:SaneQ r) (n:Int) (l:List UInt8):Ok (Zae (w,()) n l) λq=>WOk r g q.1.1.1:=by
 unfold Zae
 refine Ok.cond (λ_=>Ok.some h) λ_=>?_
 refine Ok.bind (Ok.mono (Vm2 _ (by dsimp only; rw [h.r]; exact hs)) λ_ _=>?_)
 refine Ok.bind (Ok.mono (Viw _ _ _ _ _ _) ?_)
 rintro ⟨_,e,_⟩ _
 dsimp only
 rw [Vba,bindU]
 exact Ok.some (h.fl e)
theorem Vwl {r:Jb} {g:List Jl} {w:Jd} (h:WOk r g w) (hg:g.length<=1000000) (v:Bool):Ok (Zau (w,()) v) λq=>WOk r g q.1.1.1:=by
 unfold Zau
 refine Ok.cond (λ_=>Ok.some h) λ_=>?_
 refine Ok.bind (Ok.mono (Vyq _ _ _ _ (by dsimp only; rw [h.g]; exact hg) h.d.n0 h.d.n1) ?_)
 rintro ⟨_,c,e,_⟩ hc
 dsimp only at *
 refine Ok.cond (λhe=>?_) λ_=>?_
 ·have he:=hc (of_decide_eq_true he)
  rw [Vba,bindU]
  refine Ok.some (WOk.fl (w:=⟨⟨w.d.jm,w.d.jo,w.d.on,c.at_,w.d.jaz,w.d.jam,w.d.jac,w.d.jt,w.d.next⟩,w.r,w.g,w.jz,w.jc,w.err⟩) ⟨⟨h.d.on,h.d.v,he.1,he.2⟩,h.b,h.p,h.r,h.g⟩ _)
 ·rw [Vba,bindU]
  exact Ok.some (h.fl e)
theorem Vn7 {r:Jb} {g:List Jl} {w:Jd} (h:WOk r g w) (d:Jc) (n e:Int) (hd:DevOk d) (he:e≠16) (hn:e=0->n = -1):Ok (Zbi (w,()) d n e) λq=>WOk r g q.1.1.1:=by
 unfold Zbi
 refine Ok.cond (λh0=>?_) λ_=>?_
 ·rw [Vba,bindU]
  exact Ok.some (WOk.fl (w:=⟨d,w.r,w.g,n,w.jc,w.err⟩) ⟨hd,hn (of_decide_eq_true h0),h.p,h.r,h.g⟩ _)
 ·rw [decide_eq_false he,cond_false,Vba,bindU]
  exact Ok.some (WOk.fl (w:=⟨d,w.r,w.g,w.jz,w.jc,w.err⟩) ⟨hd,h.b,h.p,h.r,h.g⟩ _)
theorem Vim {r:Jb} {g:List Jl} {w:Jd} (h:WOk r g w) (l:List Jf) (hv:Vals 1000 l) (hl:l.length<=1000):Ok (Zax (w,()) l) λq=>WOk r g q.1.1.1:=by
 unfold Zax
 refine Ok.cond (λ_=>Ok.some h) λ_=>?_
 rw [h.b]
 refine Ok.bind (Ok.mono (Vpm w.d h.d.on h.d.v 1000 (by omega) l hv (by omega) (-1) (by omega) (by omega)) ?_)
 rintro ⟨_,d,c,e,_⟩ (⟨rfl,he⟩ | ⟨v,k1,rfl,k2,k3⟩)
 ·refine Ok.bind (Ok.mono (Vn7 h _ _ _ h.d he.2 λh0=>absurd h0 he.1) ?_)
  rintro ⟨⟨⟨w2,_⟩,_⟩,_⟩ hw
  exact Ok.some hw
 ·dsimp only at *
  subst k2; subst k3
  refine Ok.bind (Ok.mono (Vn7 h _ _ _ ⟨h.d.on,k1,h.d.n0,h.d.n1⟩ (by decide) λ_=>rfl) ?_)
  rintro ⟨⟨⟨w2,_⟩,_⟩,_⟩ hw
  exact Ok.some hw
theorem Vyw {r:Jb} {g:List Jl} {w:Jd} (h:WOk r g w) (n:Int):Ok (Zaw (w,()) n) λq=>WOk r g q.1.1.1:=by
 unfold Zaw
 refine Ok.cond (λ_=>Ok.cond (λ_=>?_) λ_=>Ok.some h) λ_=>Ok.some h
 refine Ok.bind (Ok.mono (Vepa _ _) λq _=>?_)
 exact Ok.some ⟨⟨h.d.on,h.d.v,h.d.n0,h.d.n1⟩,h.b,h.p,h.r,h.g⟩
theorem Vjp {r:Jb} {g:List Jl} {w:Jd} (h:WOk r g w):Ok (Zap (w,())) λq=>WOk r g q.1.1.1:=by
 unfold Zap
 refine Ok.cond (λ_=>Ok.some h) λ_=>?_
 refine Ok.bind (Ok.mono (Vmy _ _) ?_)
 rintro ⟨_,x,e,_⟩ _
 dsimp only
 rw [Vba,bindU]
 refine Ok.cond (λ_=>Ok.some (h.fl e)) λ_=>?_
 refine Ok.bind (Ok.mono (Vfq (h.fl e)) ?_)
 rintro ⟨⟨⟨w2,_⟩,_⟩,x2,_⟩ hw
 exact Ok.some ⟨⟨hw.d.on,hw.d.v,hw.d.n0,hw.d.n1⟩,hw.b,hw.p,hw.r,hw.g⟩
theorem Vwm {r:Jb} {g:List Jl} {w:Jd} (h:WOk r g w) (l:List UInt8) (hl:l.length<=100000):Ok (Zav (w,()) l) λq=>WOk r g q.1.1.1/\q.2.1.value.length=8:=by
 unfold Zav
 refine Ok.bind (Ok.mono (Vfo _ h.d.v) λ_ _=>?_)
 refine Ok.bind (Ok.mono (Vf9 l hl) λ_ _=>?_)
 refine Ok.bind (Ok.mono (Vij _ _) λ_ _=>?_)
 rw [rW1,bindU]
 exact Ok.some ⟨h,by simp [w8]⟩
theorem Vn8 (n:Int):Zfb n=some ((),⟨4,[UInt8.ofBitVec (BitVec.ofInt 8 n)]⟩,()):=rfl
theorem Vqx {r:Jb} {g:List Jl} {w:Jd} (h:WOk r g w) (x:BitVec 64):Ok (Zai (w,()) x) λq=>WOk r g q.1.1.1:=by
 unfold Zai ZaiG
 refine Ok.bind (Ok.mono (Vpo _ h.d.v) λp _=>?_)
 refine Ok.bind (Ok.mono (Vwh _) λq _=>?_)
 rw [Vba,bindU]
 refine Ok.cond (λ_=>Ok.some (h.fl _)) λ_=>?_
 rw [Vn8,bindU]
 refine Ok.bind (Ok.mono (Vim (h.fl _) _ (Vals.one (by simp)) (by simp)) ?_)
 rintro ⟨⟨⟨w2,_⟩,_⟩,b,_⟩ hw
 refine Ok.cond (λ_=>Ok.some hw) λ_=>?_
 refine Ok.bind (Ok.mono (Vfo _ hw.d.v) λ_ _=>?_)
 refine Ok.bind (Ok.mono (Vij _ _) λ_ _=>?_)
 refine Ok.bind (Ok.mono (Vwi _ _) λs _=>?_)
 rw [Vba,bindU]
 exact Ok.some (WOk.fl (w:=⟨⟨w2.d.jm,w2.d.jo,w2.d.on,w2.d.now,w2.d.jaz,w2.d.jam,s.2.1.jac,w2.d.jt,w2.d.next⟩,w2.r,w2.g,w2.jz,w2.jc,w2.err⟩) ⟨⟨hw.d.on,hw.d.v,hw.d.n0,hw.d.n1⟩,hw.b,hw.p,hw.r,hw.g⟩ _)
theorem Vk7 (d:Jc) (h:DevOk d) (now:Int) (h0:0<=now) (h1:now<=1099511627776) (r:Jb) (g:List Jl) (k:Int) (hk:r.kind=k) (hk4:k≠4) (hv:Zbt r=some ((),0,())):Ok (Zdt d now r g (-1) k) λq=>WOk r g q.2.1/\q.2.2.1=0:=by
 unfold Zdt
 rw [h.on,Bool.not_true,cond_false,decide_eq_false (by omega),cond_false,decide_eq_false (by omega),cond_false,decide_eq_true hk,Bool.not_true,cond_false,hv,bindU,bindU]
 dsimp only
 rw [show (!decide ((0:Int)=0))=false from rfl,cond_false,decide_eq_false hk4,Bool.not_false,cond_true]
 have hx:0<=(bif decide (d.now < now) then now else d.now)/\(bif decide (d.now < now) then now else d.now)<=1099511627776:=by
  have:=h.n0; have:=h.n1
  by_cases hc:d.now < now
  ·rw [decide_eq_true hc,cond_true]; omega
  ·rw [decide_eq_false hc,cond_false]; omega
 exact Ok.some ⟨⟨⟨h.on,h.v,hx.1,hx.2⟩,rfl,⟨by simp,by simp⟩,rfl,rfl⟩,rfl⟩
theorem weakL (x:Int) (l:List UInt8) (hl:l.length<=1000):Ok (Zer_L0 (x,true,(l,0),())) λ_=>True:=by
 unfold Zer_L0
 refine Ok.iter (λs=>∃ (b:Bool) (p:Nat),p<=l.length+4/\s=(x,b,(l,p),())) (λs=>l.length+4 - s.2.2.1.2) ⟨true,0,by omega,rfl⟩ (by rw [Vab]; dsimp only; omega) ?_
 rintro s ⟨b,p,hp,rfl⟩
 dsimp only
 unfold Zer_L0b
 refine Ok.cond (λhc=>?_) (λ_=>Ok.some trivial)
 have hc:=of_decide_eq_true hc
 have hw:1<=(Utf8.decode (⟨l.toArray⟩:ByteArray) p).2/\(Utf8.decode (⟨l.toArray⟩:ByteArray) p).2<=4:=by
  unfold Utf8.decode
  simp only []
  repeat' split
  all_goals simp
 dsimp only at *
 refine Ok.cond (λ_=>Ok.some trivial) λ_=>Ok.cond (λ_=>?_) λ_=>?_
 all_goals exact Ok.some ⟨⟨_,_,by omega,rfl⟩,by dsimp only; omega⟩
theorem Vc4a (l:List UInt8):Ok (Zer l) λ_=>True:=by
 unfold Zer
 refine Ok.cond (λ_=>Ok.some trivial) λ_=>Ok.cond (λ_=>Ok.some trivial) λh=>?_
 have h:=of_decide_eq_false h
 unfold Zgt Zbl Zbc
 rw [decide_eq_true (by omega:l.length<=9223372036854775807),cond_true,bindU]
 refine Ok.cond (λ_=>Ok.some trivial) λ_=>?_
 rw [decide_eq_true (by omega:l.length < 9223372036854775807),cond_true,bindU]
 refine Ok.cond (λ_=>Ok.some trivial) λ_=>?_
 rw [bindU]
 refine Ok.bind (Ok.mono (weakL _ l (by omega)) ?_)
 rintro (⟨b,_⟩ | ⟨b,_⟩) _
 ·exact Ok.some trivial
 ·exact Ok.some trivial
theorem Vwn (d:Jc) (h:DevOk d) (now:Int) (h0:0<=now) (h1:now<=1099511627776) (r:Jb) (g:List Jl) (hk:r.kind=7) (hv:Zbt r=some ((),0,())):Ok (Zdb d now r g (-1)) λq=>DevOk q.2.1/\RepOk q.2.2.1:=by
 unfold Zdb
 refine Ok.bind (Ok.mono (Vk7 d h now h0 h1 r g 7 hk (by decide) hv) ?_)
 rintro ⟨_,w,e,_⟩ ⟨hw,he⟩
 dsimp only at *
 subst he
 rw [show (!decide ((0:Int)=0))=false from rfl,cond_false]
 refine Ok.bind (Ok.mono (Q:=λ(j:(Jb×Unit)×(Jc×Unit)×(Jj×Unit)×(Jd×Unit)×Unit)=>j.1.1=r/\WOk r g j.2.2.2.1.1) (Ok.bind (Ok.mono (Vpo _ hw.d.v) λp _=>Ok.cond (λ_=>by rw [Vba,bindU]; exact Ok.some ⟨rfl,hw.fl _⟩) λ_=>Ok.some ⟨rfl,hw⟩)) ?_)
 rintro ⟨⟨r',_⟩,⟨z1,_⟩,⟨z2,_⟩,⟨w1,_⟩,_⟩ ⟨rfl,hw1⟩
 dsimp only at *
 refine Ok.bind (Ok.mono (Vjp hw1) ?_)
 rintro ⟨⟨⟨w2,_⟩,_⟩,x,_⟩ hw2
 refine Ok.cond (λ_=>Vcp hw2) λ_=>?_
 refine Ok.bind (Ok.mono (Vqs _ _) ?_)
 rintro ⟨_,t,e2,_⟩ ht
 dsimp only at *
 rw [Vba,bindU]
 refine Ok.cond (λ_=>Vcp (hw2.fl _)) λ_=>?_
 refine Ok.bind (Ok.mono (Vc4a _) λb _=>?_)
 refine Ok.cond (λ_=>?_) λ_=>?_
 ·rw [Vba,bindU]
  exact Vcp ((hw2.fl _).fl _)
 refine Ok.bind (Ok.mono (Vwm (hw2.fl _) t (by omega)) ?_)
 rintro ⟨⟨⟨w3,_⟩,_⟩,pr,_⟩ ⟨hw3,hp⟩
 rw [Vn8,bindU]
 dsimp only at *
 refine Ok.bind (Ok.mono (Vim hw3 [pr,⟨4,[UInt8.ofBitVec (BitVec.ofInt 8 8)]⟩] (Vals.app (Vals.one (by omega)) (Vals.one (by simp))) (by simp)) ?_)
 rintro ⟨⟨⟨w4,_⟩,_⟩,b4,_⟩ hw4
 refine Ok.cond (λ_=>?_) λ_=>Vcp hw4
 exact Vcp (w:=⟨⟨w4.d.jm,w4.d.jo,w4.d.on,w4.d.now,w4.d.jaz,w4.d.jam,0,w4.d.jt,w4.d.next⟩,w4.r,w4.g,w4.jz,w4.jc,w4.err⟩) ⟨⟨hw4.d.on,hw4.d.v,hw4.d.n0,hw4.d.n1⟩,hw4.b,hw4.p,hw4.r,hw4.g⟩
theorem Vyx (d:Jc) (h:DevOk d) (now:Int) (h0:0<=now) (h1:now<=1099511627776) (r:Jb) (g:List Jl) (hk:r.kind=9) (hv:Zbt r=some ((),0,())):Ok (Zds d now r g (-1)) λq=>DevOk q.2.1/\RepOk q.2.2.1:=by
 unfold Zds
 refine Ok.bind (Ok.mono (Vk7 d h now h0 h1 r g 9 hk (by decide) hv) ?_)
 rintro ⟨_,w,e,_⟩ ⟨hw,he⟩
 dsimp only at *
 subst he
 rw [show (!decide ((0:Int)=0))=false from rfl,cond_false]
 refine Ok.bind (Ok.mono (Q:=λ(j:(Jb×Unit)×(Jc×Unit)×(Jj×Unit)×(Jd×Unit)×Unit)=>j.1.1=r/\WOk r g j.2.2.2.1.1) (Ok.cond (λ_=>by rw [Vba,bindU]; exact Ok.some ⟨rfl,hw.fl _⟩) λ_=>Ok.cond (λ_=>by rw [Vba,bindU]; exact Ok.some ⟨rfl,hw.fl _⟩) λ_=>Ok.some ⟨rfl,hw⟩) ?_)
 rintro ⟨⟨r',_⟩,⟨z1,_⟩,⟨z2,_⟩,⟨w1,_⟩,_⟩ ⟨rfl,hw1⟩
 dsimp only at *
 refine Ok.bind (Ok.mono (Q:=λ(j:(Jb×Unit)×(Jc×Unit)×(Jj×Unit)×(Jd×Unit)×Unit)=>j.1.1=r'/\WOk r' g j.2.2.2.1.1) (Ok.bind (Ok.mono (Vpo _ hw1.d.v) λp _=>Ok.cond (λ_=>by rw [Vba,bindU]; exact Ok.some ⟨rfl,hw1.fl _⟩) λ_=>Ok.some ⟨rfl,hw1⟩)) ?_)
 rintro ⟨⟨r'',_⟩,⟨z1,_⟩,⟨z2,_⟩,⟨w1,_⟩,_⟩ ⟨rfl,hw1⟩
 dsimp only at *
 refine Ok.bind (Ok.mono (Vjp hw1) ?_)
 rintro ⟨⟨⟨w2,_⟩,_⟩,x,_⟩ hw2
 refine Ok.cond (λ_=>Vcp hw2) λ_=>?_
 refine Ok.bind (Ok.mono (Vn4 _ _) ?_)
 rintro ⟨_,t,e2,_⟩ _
 dsimp only at *
 rw [Vba,bindU]
 refine Ok.cond (λ_=>Vcp (hw2.fl _)) λ_=>?_
 refine Ok.bind (Ok.mono (Vqx (hw2.fl _) _) ?_)
 rintro ⟨⟨⟨w3,_⟩,_⟩,_⟩ hw3
 refine Ok.cond (λ_=>Vcp hw3) λ_=>?_
 rw [Vn8,bindU]
 dsimp only at *
 refine Ok.bind (Ok.mono (Vim hw3 [⟨4,[UInt8.ofBitVec (BitVec.ofInt 8 8)]⟩] (Vals.one (by simp)) (by simp)) ?_)
 rintro ⟨⟨⟨w4,_⟩,_⟩,b4,_⟩ hw4
 refine Ok.cond (λ_=>Vcp hw4) λ_=>?_
 dsimp only at *
 refine Ok.bind (Ok.mono (Vfq hw4) ?_)
 rintro ⟨⟨⟨w5,_⟩,_⟩,x5,_⟩ hw5
 dsimp only at *
 refine Ok.bind (Ok.mono (Vyp _ _ _ _ _) λq _=>?_)
 have hw6:WOk r'' g ⟨⟨w5.d.jm,w5.d.jo,w5.d.on,w5.d.now,w5.d.jaz,w5.d.jam,w5.d.jac,q.2.1,w5.d.next⟩,w5.r,w5.g,w5.jz,w5.jc,w5.err⟩:=⟨⟨hw5.d.on,hw5.d.v,hw5.d.n0,hw5.d.n1⟩,hw5.b,hw5.p,hw5.r,hw5.g⟩
 refine Ok.bind (Ok.mono (Vfq hw6) ?_)
 rintro ⟨⟨⟨w7,_⟩,_⟩,x7,_⟩ hw7
 dsimp only at *
 refine Ok.bind (Ok.mono (Vez _ _ _) λq2 _=>?_)
 exact Vcp (w:=⟨w7.d,w7.r,w7.g,w7.jz,⟨w7.jc.err,w7.jc.jad,w7.jc.jab,w7.jc.jq,w7.jc.jl,w7.jc.iD,w7.jc.user,w7.jc.name,w7.jc.count,w7.jc.jv,q2.2.1,w7.jc.jae,w7.jc.jx,w7.jc.jay,w7.jc.jau,w7.jc.jaw,w7.jc.jai,w7.jc.jy⟩,w7.err⟩) ⟨hw7.d,hw7.b,⟨hw7.p.a,hw7.p.i⟩,hw7.r,hw7.g⟩
end Go.Proofs.YtancibcbaajjkaaGreatDoor

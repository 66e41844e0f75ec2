/- The device of the reference: the steps of a request are total. -/
import Derived.Test.YtancibcbaajjkaaGreatDoorMqR
set_option linter.unusedVariables false
set_option linter.unusedSimpArgs false
set_option maxRecDepth 100000
namespace Go.Proofs.YtancibcbaajjkaaGreatDoor
open Go Go.Abs
theorem DevOk.jan {d:Jc} (h:DevOk d) (n:Int):DevOk { d with jan:=n }:=⟨h.on,h.v,h.n0,h.n1⟩
structure RepOk (p:Jj):Prop where
 a:p.jae.length<=10000
 i:p.iD.length<=10000
structure WOk (r:Jb) (g:List Jl) (w:Jd):Prop where
 d:DevOk w.d
 b:w.jz = -1
 p:RepOk w.jh
 r:w.r=r
 g:w.g=g
def fl (w:Jd) (e:Int):Jd:=bif decide (w.err=0) then { w with err:=e } else w
theorem Vbb (w:Jd) (e:Int):Zbh (w,()) e=some (((fl w e,()),()),(!decide ((fl w e).err=0)),()):=by
 unfold Zbh fl
 dsimp only
 cases h:decide (w.err=0)
 ·rw [cond_false,cond_false,h]
 ·rfl
theorem WOk.fl {r:Jb} {g:List Jl} {w:Jd} (h:WOk r g w) (e:Int):WOk r g (fl w e):=by
 unfold Proofs.YtancibcbaajjkaaGreatDoor.fl
 cases decide (w.err=0)
 ·exact h
 ·exact ⟨h.d,h.b,h.p,h.r,h.g⟩
theorem Vfia {r:Jb} {g:List Jl} {w:Jd} (h:WOk r g w):Ok (Zbv (w,())) λq=>DevOk q.2.1/\RepOk q.2.2.1:=by
 unfold Zbv
 exact Ok.cond (λ_=>Ok.some ⟨h.d,by simp,by simp⟩) (λ_=>Ok.some ⟨h.d,h.p⟩)
theorem Vcq {r:Jb} {g:List Jl} {w:Jd} (h:WOk r g w):Ok ((Zbv (w,())).bind λr4=>(some ((),(r4.2.1,r4.2.2.1,r4.2.2.2.1,())):Option (Unit×(Jc×Jj×Int×Unit)))) λq=>DevOk q.2.1/\RepOk q.2.2.1:=by
 refine Ok.bind (Ok.mono (Vfia h) ?_)
 rintro ⟨_,d,p,b,_⟩ hq
 exact Ok.some hq
theorem Vft {r:Jb} {g:List Jl} {w:Jd} (h:WOk r g w):Ok (Zbg (w,())) λq=>WOk r g q.1.1.1:=by
 unfold Zbg
 refine Ok.bind (Ok.mono (Vwr w.d h.d.v) ?_)
 rintro ⟨_,d,x,_⟩ ⟨n,rfl⟩
 exact Ok.some ⟨h.d.jan n,h.b,h.p,h.r,h.g⟩
theorem Vnh (r:Jb) (h:SaneQ r):Ok (Zcv r) λ_=>True:=by
 rw [Vii r h]
 exact Ok.some trivial
theorem Vli {r:Jb} {g:List Jl} {w:Jd} (h:WOk r g w) (hs:SaneQ r) (n:Int) (l:List UInt8):Ok (Zaf (w,()) n l) λq=>WOk r g q.1.1.1:=by
 unfold Zaf
 refine Ok.cond (λ_=>Ok.some h) λ_=>?_
 refine Ok.bind (Ok.mono (Vnh _ (by dsimp only; rw [h.r]; exact hs)) λ_ _=>?_)
 refine Ok.bind (Ok.mono (Vi3 _ _ _ _ _ _) ?_)
 rintro ⟨_,e,_⟩ _
 dsimp only
 rw [Vbb,bindU]
 exact Ok.some (h.fl e)
theorem Vw7 {r:Jb} {g:List Jl} {w:Jd} (h:WOk r g w) (hg:g.length<=1000000) (v:Bool):Ok (Zau (w,()) v) λq=>WOk r g q.1.1.1:=by
 unfold Zau
 refine Ok.cond (λ_=>Ok.some h) λ_=>?_
 refine Ok.bind (Ok.mono (Vzd _ _ _ _ (by dsimp only; rw [h.g]; exact hg) h.d.n0 h.d.n1) ?_)
 rintro ⟨_,c,e,_⟩ hc
 dsimp only at *
 refine Ok.cond (λhe=>?_) λ_=>?_
 ·have he:=hc (of_decide_eq_true he)
  rw [Vbb,bindU]
  refine Ok.some (WOk.fl (w:=⟨⟨w.d.jl,w.d.jm,w.d.on,c.at_,w.d.jay,w.d.jan,w.d.jab,w.d.jt,w.d.next⟩,w.r,w.g,w.jz,w.jh,w.err⟩) ⟨⟨h.d.on,h.d.v,he.1,he.2⟩,h.b,h.p,h.r,h.g⟩ _)
 ·rw [Vbb,bindU]
  exact Ok.some (h.fl e)
theorem Voo {r:Jb} {g:List Jl} {w:Jd} (h:WOk r g w) (d:Jc) (n e:Int) (hd:DevOk d) (he:e≠16) (hn:e=0->n = -1):Ok (Zbi (w,()) d n e) λq=>WOk r g q.1.1.1:=by
 unfold Zbi
 refine Ok.cond (λh0=>?_) λ_=>?_
 ·rw [Vbb,bindU]
  exact Ok.some (WOk.fl (w:=⟨d,w.r,w.g,n,w.jh,w.err⟩) ⟨hd,hn (of_decide_eq_true h0),h.p,h.r,h.g⟩ _)
 ·rw [decide_eq_false he,cond_false,Vbb,bindU]
  exact Ok.some (WOk.fl (w:=⟨d,w.r,w.g,w.jz,w.jh,w.err⟩) ⟨hd,h.b,h.p,h.r,h.g⟩ _)
theorem Vit {r:Jb} {g:List Jl} {w:Jd} (h:WOk r g w) (l:List Jf) (hv:Vals 1000 l) (hl:l.length<=1000):Ok (Zax (w,()) l) λq=>WOk r g q.1.1.1:=by
 unfold Zax
 refine Ok.cond (λ_=>Ok.some h) λ_=>?_
 rw [h.b]
 refine Ok.bind (Ok.mono (Vp4 w.d h.d.on h.d.v 1000 (by omega) l hv (by omega) (-1) (by omega) (by omega)) ?_)
 rintro ⟨_,d,c,e,_⟩ (⟨rfl,he⟩ | ⟨v,k1,rfl,k2,k3⟩)
 ·refine Ok.bind (Ok.mono (Voo h _ _ _ h.d he.2 λh0=>absurd h0 he.1) ?_)
  rintro ⟨⟨⟨w2,_⟩,_⟩,_⟩ hw
  exact Ok.some hw
 ·dsimp only at *
  subst k2; subst k3
  refine Ok.bind (Ok.mono (Voo h _ _ _ ⟨h.d.on,k1,h.d.n0,h.d.n1⟩ (by decide) λ_=>rfl) ?_)
  rintro ⟨⟨⟨w2,_⟩,_⟩,_⟩ hw
  exact Ok.some hw
theorem Vzj {r:Jb} {g:List Jl} {w:Jd} (h:WOk r g w) (n:Int):Ok (Zaw (w,()) n) λq=>WOk r g q.1.1.1:=by
 unfold Zaw
 refine Ok.cond (λ_=>Ok.cond (λ_=>?_) λ_=>Ok.some h) λ_=>Ok.some h
 refine Ok.bind (Ok.mono (Vffa _ _) λq _=>?_)
 exact Ok.some ⟨⟨h.d.on,h.d.v,h.d.n0,h.d.n1⟩,h.b,h.p,h.r,h.g⟩
theorem Vj0 {r:Jb} {g:List Jl} {w:Jd} (h:WOk r g w):Ok (Zap (w,())) λq=>WOk r g q.1.1.1:=by
 unfold Zap
 refine Ok.cond (λ_=>Ok.some h) λ_=>?_
 refine Ok.bind (Ok.mono (Vnd _ _) ?_)
 rintro ⟨_,x,e,_⟩ _
 dsimp only
 rw [Vbb,bindU]
 refine Ok.cond (λ_=>Ok.some (h.fl e)) λ_=>?_
 refine Ok.bind (Ok.mono (Vft (h.fl e)) ?_)
 rintro ⟨⟨⟨w2,_⟩,_⟩,x2,_⟩ hw
 exact Ok.some ⟨⟨hw.d.on,hw.d.v,hw.d.n0,hw.d.n1⟩,hw.b,hw.p,hw.r,hw.g⟩
theorem Vw8 {r:Jb} {g:List Jl} {w:Jd} (h:WOk r g w) (l:List UInt8) (hl:l.length<=100000):Ok (Zav (w,()) l) λq=>WOk r g q.1.1.1/\q.2.1.value.length=8:=by
 unfold Zav
 refine Ok.bind (Ok.mono (Vfr _ h.d.v) λ_ _=>?_)
 refine Ok.bind (Ok.mono (Vgb l hl) λ_ _=>?_)
 refine Ok.bind (Ok.mono (Viq _ _) λ_ _=>?_)
 rw [rW1,bindU]
 exact Ok.some ⟨h,by simp [w8]⟩
theorem Vop (n:Int):Zfd n=some ((),⟨4,[UInt8.ofBitVec (BitVec.ofInt 8 n)]⟩,()):=rfl
theorem Vrh {r:Jb} {g:List Jl} {w:Jd} (h:WOk r g w) (x:BitVec 64):Ok (Zai (w,()) x) λq=>WOk r g q.1.1.1:=by
 unfold Zai ZaiG
 refine Ok.bind (Ok.mono (Vp6 _ h.d.v) λp _=>?_)
 refine Ok.bind (Ok.mono (Vw3 _) λq _=>?_)
 rw [Vbb,bindU]
 refine Ok.cond (λ_=>Ok.some (h.fl _)) λ_=>?_
 rw [Vop,bindU]
 refine Ok.bind (Ok.mono (Vit (h.fl _) _ (Vals.one (by simp)) (by simp)) ?_)
 rintro ⟨⟨⟨w2,_⟩,_⟩,b,_⟩ hw
 refine Ok.cond (λ_=>Ok.some hw) λ_=>?_
 refine Ok.bind (Ok.mono (Vfr _ hw.d.v) λ_ _=>?_)
 refine Ok.bind (Ok.mono (Viq _ _) λ_ _=>?_)
 refine Ok.bind (Ok.mono (Vw4 _ _) λs _=>?_)
 rw [Vbb,bindU]
 exact Ok.some (WOk.fl (w:=⟨⟨w2.d.jl,w2.d.jm,w2.d.on,w2.d.now,w2.d.jay,w2.d.jan,s.2.1.jab,w2.d.jt,w2.d.next⟩,w2.r,w2.g,w2.jz,w2.jh,w2.err⟩) ⟨⟨hw.d.on,hw.d.v,hw.d.n0,hw.d.n1⟩,hw.b,hw.p,hw.r,hw.g⟩ _)
theorem Vlj (d:Jc) (h:DevOk d) (now:Int) (h0:0<=now) (h1:now<=1099511627776) (r:Jb) (g:List Jl) (k:Int) (hk:r.kind=k) (hk4:k≠4) (hv:Zbu r=some ((),0,())):Ok (Zdv d now r g (-1) k) λq=>WOk r g q.2.1/\q.2.2.1=0:=by
 unfold Zdv
 rw [h.on,Bool.not_true,cond_false,decide_eq_false (by omega),cond_false,decide_eq_false (by omega),cond_false,decide_eq_true hk,Bool.not_true,cond_false,hv,bindU,bindU]
 dsimp only
 rw [show (!decide ((0:Int)=0))=false from rfl,cond_false,decide_eq_false hk4,Bool.not_false,cond_true]
 have hx:0<=(bif decide (d.now < now) then now else d.now)/\(bif decide (d.now < now) then now else d.now)<=1099511627776:=by
  have:=h.n0; have:=h.n1
  by_cases hc:d.now < now
  ·rw [decide_eq_true hc,cond_true]; omega
  ·rw [decide_eq_false hc,cond_false]; omega
 exact Ok.some ⟨⟨⟨h.on,h.v,hx.1,hx.2⟩,rfl,⟨by simp,by simp⟩,rfl,rfl⟩,rfl⟩
theorem weakL (x:Int) (l:List UInt8) (hl:l.length<=1000):Ok (Zet_L0 (x,true,(l,0),())) λ_=>True:=by
 unfold Zet_L0
 refine Ok.iter (λs=>∃ (b:Bool) (p:Nat),p<=l.length+4/\s=(x,b,(l,p),())) (λs=>l.length+4 - s.2.2.1.2) ⟨true,0,by omega,rfl⟩ (by rw [Vab]; dsimp only; omega) ?_
 rintro s ⟨b,p,hp,rfl⟩
 dsimp only
 unfold Zet_L0b
 refine Ok.cond (λhc=>?_) (λ_=>Ok.some trivial)
 have hc:=of_decide_eq_true hc
 have hw:1<=(Utf8.decode (⟨l.toArray⟩:ByteArray) p).2/\(Utf8.decode (⟨l.toArray⟩:ByteArray) p).2<=4:=by
  unfold Utf8.decode
  simp only []
  repeat' split
  all_goals simp
 dsimp only at *
 refine Ok.cond (λ_=>Ok.some trivial) λ_=>Ok.cond (λ_=>?_) λ_=>?_
 all_goals exact Ok.some ⟨⟨_,_,by omega,rfl⟩,by dsimp only; omega⟩
theorem Vdta (l:List UInt8):Ok (Zet l) λ_=>True:=by
 unfold Zet
 refine Ok.cond (λ_=>Ok.some trivial) λ_=>Ok.cond (λ_=>Ok.some trivial) λh=>?_
 have h:=of_decide_eq_false h
 unfold Zgv Zbl Zbc
 rw [decide_eq_true (by omega:l.length<=9223372036854775807),cond_true,bindU]
 refine Ok.cond (λ_=>Ok.some trivial) λ_=>?_
 rw [decide_eq_true (by omega:l.length < 9223372036854775807),cond_true,bindU]
 refine Ok.cond (λ_=>Ok.some trivial) λ_=>?_
 rw [bindU]
 refine Ok.bind (Ok.mono (weakL _ l (by omega)) ?_)
 rintro (⟨b,_⟩ | ⟨b,_⟩) _
 ·exact Ok.some trivial
 ·exact Ok.some trivial
theorem Vw9 (d:Jc) (h:DevOk d) (now:Int) (h0:0<=now) (h1:now<=1099511627776) (r:Jb) (g:List Jl) (hk:r.kind=7) (hv:Zbu r=some ((),0,())):Ok (Zdc d now r g (-1)) λq=>DevOk q.2.1/\RepOk q.2.2.1:=by
 unfold Zdc
 refine Ok.bind (Ok.mono (Vlj d h now h0 h1 r g 7 hk (by decide) hv) ?_)
 rintro ⟨_,w,e,_⟩ ⟨hw,he⟩
 dsimp only at *
 subst he
 rw [show (!decide ((0:Int)=0))=false from rfl,cond_false]
 refine Ok.bind (Ok.mono (Q:=λ(j:(Jb×Unit)×(Jc×Unit)×(Jj×Unit)×(Jd×Unit)×Unit)=>j.1.1=r/\WOk r g j.2.2.2.1.1) (Ok.bind (Ok.mono (Vp6 _ hw.d.v) λp _=>Ok.cond (λ_=>by rw [Vbb,bindU]; exact Ok.some ⟨rfl,hw.fl _⟩) λ_=>Ok.some ⟨rfl,hw⟩)) ?_)
 rintro ⟨⟨r',_⟩,⟨z1,_⟩,⟨z2,_⟩,⟨w1,_⟩,_⟩ ⟨rfl,hw1⟩
 dsimp only at *
 refine Ok.bind (Ok.mono (Vj0 hw1) ?_)
 rintro ⟨⟨⟨w2,_⟩,_⟩,x,_⟩ hw2
 refine Ok.cond (λ_=>Vcq hw2) λ_=>?_
 refine Ok.bind (Ok.mono (Vrc _ _) ?_)
 rintro ⟨_,t,e2,_⟩ ht
 dsimp only at *
 rw [Vbb,bindU]
 refine Ok.cond (λ_=>Vcq (hw2.fl _)) λ_=>?_
 refine Ok.bind (Ok.mono (Vdta _) λb _=>?_)
 refine Ok.cond (λ_=>?_) λ_=>?_
 ·rw [Vbb,bindU]
  exact Vcq ((hw2.fl _).fl _)
 refine Ok.bind (Ok.mono (Vw8 (hw2.fl _) t (by omega)) ?_)
 rintro ⟨⟨⟨w3,_⟩,_⟩,pr,_⟩ ⟨hw3,hp⟩
 rw [Vop,bindU]
 dsimp only at *
 refine Ok.bind (Ok.mono (Vit hw3 [pr,⟨4,[UInt8.ofBitVec (BitVec.ofInt 8 8)]⟩] (Vals.app (Vals.one (by omega)) (Vals.one (by simp))) (by simp)) ?_)
 rintro ⟨⟨⟨w4,_⟩,_⟩,b4,_⟩ hw4
 refine Ok.cond (λ_=>?_) λ_=>Vcq hw4
 exact Vcq (w:=⟨⟨w4.d.jl,w4.d.jm,w4.d.on,w4.d.now,w4.d.jay,w4.d.jan,0,w4.d.jt,w4.d.next⟩,w4.r,w4.g,w4.jz,w4.jh,w4.err⟩) ⟨⟨hw4.d.on,hw4.d.v,hw4.d.n0,hw4.d.n1⟩,hw4.b,hw4.p,hw4.r,hw4.g⟩
theorem Vzk (d:Jc) (h:DevOk d) (now:Int) (h0:0<=now) (h1:now<=1099511627776) (r:Jb) (g:List Jl) (hk:r.kind=9) (hv:Zbu r=some ((),0,())):Ok (Zdu d now r g (-1)) λq=>DevOk q.2.1/\RepOk q.2.2.1:=by
 unfold Zdu
 refine Ok.bind (Ok.mono (Vlj d h now h0 h1 r g 9 hk (by decide) hv) ?_)
 rintro ⟨_,w,e,_⟩ ⟨hw,he⟩
 dsimp only at *
 subst he
 rw [show (!decide ((0:Int)=0))=false from rfl,cond_false]
 refine Ok.bind (Ok.mono (Q:=λ(j:(Jb×Unit)×(Jc×Unit)×(Jj×Unit)×(Jd×Unit)×Unit)=>j.1.1=r/\WOk r g j.2.2.2.1.1) (Ok.cond (λ_=>by rw [Vbb,bindU]; exact Ok.some ⟨rfl,hw.fl _⟩) λ_=>Ok.cond (λ_=>by rw [Vbb,bindU]; exact Ok.some ⟨rfl,hw.fl _⟩) λ_=>Ok.some ⟨rfl,hw⟩) ?_)
 rintro ⟨⟨r',_⟩,⟨z1,_⟩,⟨z2,_⟩,⟨w1,_⟩,_⟩ ⟨rfl,hw1⟩
 dsimp only at *
 refine Ok.bind (Ok.mono (Q:=λ(j:(Jb×Unit)×(Jc×Unit)×(Jj×Unit)×(Jd×Unit)×Unit)=>j.1.1=r'/\WOk r' g j.2.2.2.1.1) (Ok.bind (Ok.mono (Vp6 _ hw1.d.v) λp _=>Ok.cond (λ_=>by rw [Vbb,bindU]; exact Ok.some ⟨rfl,hw1.fl _⟩) λ_=>Ok.some ⟨rfl,hw1⟩)) ?_)
 rintro ⟨⟨r'',_⟩,⟨z1,_⟩,⟨z2,_⟩,⟨w1,_⟩,_⟩ ⟨rfl,hw1⟩
 dsimp only at *
 refine Ok.bind (Ok.mono (Vj0 hw1) ?_)
 rintro ⟨⟨⟨w2,_⟩,_⟩,x,_⟩ hw2
 refine Ok.cond (λ_=>Vcq hw2) λ_=>?_
 refine Ok.bind (Ok.mono (Vol _ _) ?_)
 rintro ⟨_,t,e2,_⟩ _
 dsimp only at *
 rw [Vbb,bindU]
 refine Ok.cond (λ_=>Vcq (hw2.fl _)) λ_=>?_
 refine Ok.bind (Ok.mono (Vrh (hw2.fl _) _) ?_)
 rintro ⟨⟨⟨w3,_⟩,_⟩,_⟩ hw3
 refine Ok.cond (λ_=>Vcq hw3) λ_=>?_
 rw [Vop,bindU]
 dsimp only at *
 refine Ok.bind (Ok.mono (Vit hw3 [⟨4,[UInt8.ofBitVec (BitVec.ofInt 8 8)]⟩] (Vals.one (by simp)) (by simp)) ?_)
 rintro ⟨⟨⟨w4,_⟩,_⟩,b4,_⟩ hw4
 refine Ok.cond (λ_=>Vcq hw4) λ_=>?_
 dsimp only at *
 refine Ok.bind (Ok.mono (Vft hw4) ?_)
 rintro ⟨⟨⟨w5,_⟩,_⟩,x5,_⟩ hw5
 dsimp only at *
 refine Ok.bind (Ok.mono (Vzc _ _ _ _ _) λq _=>?_)
 have hw6:WOk r'' g ⟨⟨w5.d.jl,w5.d.jm,w5.d.on,w5.d.now,w5.d.jay,w5.d.jan,w5.d.jab,q.2.1,w5.d.next⟩,w5.r,w5.g,w5.jz,w5.jh,w5.err⟩:=⟨⟨hw5.d.on,hw5.d.v,hw5.d.n0,hw5.d.n1⟩,hw5.b,hw5.p,hw5.r,hw5.g⟩
 refine Ok.bind (Ok.mono (Vft hw6) ?_)
 rintro ⟨⟨⟨w7,_⟩,_⟩,x7,_⟩ hw7
 dsimp only at *
 refine Ok.bind (Ok.mono (Ve3 _ _ _) λq2 _=>?_)
 exact Vcq (w:=⟨w7.d,w7.r,w7.g,w7.jz,⟨w7.jh.err,w7.jh.jae,w7.jh.jac,w7.jh.jp,w7.jh.jj,w7.jh.iD,w7.jh.user,w7.jh.name,w7.jh.count,w7.jh.ju,q2.2.1,w7.jh.jad,w7.jh.jy,w7.jh.jaz,w7.jh.jav,w7.jh.jax,w7.jh.jak,w7.jh.jx⟩,w7.err⟩) ⟨hw7.d,hw7.b,⟨hw7.p.a,hw7.p.i⟩,hw7.r,hw7.g⟩
end Go.Proofs.YtancibcbaajjkaaGreatDoor

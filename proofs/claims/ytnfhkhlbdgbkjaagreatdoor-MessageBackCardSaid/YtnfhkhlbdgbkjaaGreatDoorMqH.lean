/- The reference's keyed sum always ends with a word. -/
import Derived.Test.YtnfhkhlbdgbkjaaGreatDoorMqG
set_option linter.unusedVariables false
set_option linter.unusedSimpArgs false
set_option maxRecDepth 100000
namespace Go.Proofs.YtnfhkhlbdgbkjaaGreatDoor
open Go Go.Abs
theorem Vge(a:Jq):∃b,Zfp a=some ((),b,()):=⟨_,rfl⟩
theorem Vwz(k0 k1:Ub)(l:Ua)(h:l.length<1000000000):∃v,Zhs k0 k1 l=some ((),v,()):=by
 have q:∀v0,Ok (Zhs_L0 (l,(v0,()),0,())) λ_=>True:=by
  intro v0;unfold Zhs_L0 i3;refine Ok.iter (λt=>∃(v:Jq) (i:Int),0<=i/\i<=l.length+8/\t=(l,(v,()),i,())) (λt=>(l.length+9-t.2.2.1).toNat) ⟨v0,0,by omega,by omega,rfl⟩ (by rw[Vaa];dsimp only;omega) ?_;rintro _ ⟨v,i,i0,i1,rfl⟩;dsimp only;unfold Zhs_L0b;refine Ok.cond (λhi=>?_) λ_=>Ok.some trivial;have hi:=Uo hi;refine Ok.bm (Q:=λz=>∃m,z=(l,(v,()),i,m,())) ?_ ?_
  ·unfold Zhs_L2 i5;refine Ok.iter (λt=>∃(m:Ub) (k:Int),-1<=k/\k<=7/\t=(l,(v,()),i,m,k,())) (λt=>(t.2.2.2.2.1+1).toNat) ⟨_,7,by omega,by omega,rfl⟩ (by rw[Vaa];dsimp only;omega) ?_;rintro _ ⟨m,k,k0,k1,rfl⟩;dsimp only;unfold Zhs_L2b;refine Ok.cond (λhk=>?_) λ_=>Ok.some ⟨m,rfl⟩;have hk:=Uo hk;rw[wI (i+k) (by omega),wI (k-1) (by omega)];refine Ok.cond (λhb=>?_) λ_=>Ok.cond (λ_=>Ok.some ⟨⟨_,_,by omega,by omega,rfl⟩,by dsimp only;omega⟩) λ_=>Ok.some ⟨⟨_,_,by omega,by omega,rfl⟩,by dsimp only;omega⟩;have hb:=Uo hb;rw[Vh5 (by omega) (by omega),bindU];exact Ok.some ⟨⟨_,_,by omega,by omega,rfl⟩,by dsimp only;omega⟩
  ·rintro _ ⟨m,rfl⟩;dsimp only;obtain⟨b,hb⟩:=Vge {v with a3:=v.a3^^^m};rw[hb,bindU];dsimp only;obtain⟨c,hc⟩:=Vge b;rw[hc,bindU,wI (i+8) (by omega)];exact Ok.some ⟨⟨_,_,by omega,by omega,rfl⟩,by dsimp only;omega⟩
 unfold Zhs;obtain⟨z,hz,_⟩:=q ⟨k0^^^8317987319222330741#64,k1^^^7237128888997146477#64,k0^^^7816392313619706465#64,k1^^^8387220255154660723#64⟩;rw[hz,bindU];obtain⟨b,hb⟩:=Vge {z.1.1 with a2:=z.1.1.a2^^^255#64};obtain⟨c,hc⟩:=Vge b;obtain⟨d,hd⟩:=Vge c;obtain⟨e,he⟩:=Vge d;rw[hb,bindU];dsimp only;rw[hc,bindU];dsimp only;rw[hd,bindU];dsimp only;rw[he,bindU];exact⟨_,rfl⟩
def val1{α:Type}(d:α)(r:Option (Unit×(α×Unit))):α:=match r with
 |some (_,v,_)=>v
 |none=>d
theorem Vog{α:Type}{d:α}{r:Option (Unit×(α×Unit))}(h:∃v,r=some ((),v,())):r=some ((),val1 d r,()):=by
 obtain⟨v,rfl⟩:=h;rfl
@[irreducible] def mac(k:Ub)(d:Int)(l:Ua):Ub:=val1 0 (Zhr k d l)
@[irreducible] def hsh(d:Int)(l:Ua):Ub:=val1 0 (Zgo d l)
theorem rMac(k:Ub)(d:Int)(l:Ua)(h:l.length<1000000000):Zhr k d l=some ((),mac k d l,()):=by
 unfold mac;refine Vog ?_;unfold Zhr;obtain⟨v,hv⟩:=Vwz k (1#64+BitVec.ofInt 64 d) l h;rw[hv];exact⟨_,rfl⟩
theorem rHash(d:Int)(l:Ua)(h:l.length<1000000000):Zgo d l=some ((),hsh d l,()):=by
 unfold hsh;refine Vog ?_;unfold Zgo;obtain⟨v,hv⟩:=Vwz (BitVec.ofInt 64 d) 0#64 l h;rw[hv];exact⟨_,rfl⟩
end Go.Proofs.YtnfhkhlbdgbkjaaGreatDoor

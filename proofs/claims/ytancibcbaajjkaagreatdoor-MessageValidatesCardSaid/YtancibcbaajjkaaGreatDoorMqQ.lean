/- The reference's Decode is total. -/
import Derived.Test.YtancibcbaajjkaaGreatDoorMqP
set_option linter.unusedVariables false
set_option linter.unusedSimpArgs false
set_option maxRecDepth 100000
namespace Go.Proofs.YtancibcbaajjkaaGreatDoor
open Go Go.Abs
abbrev Rr:=List UInt8×Int×List Ja×Unit
theorem bit2 {a b:Int} (h1:0<=a) (h2:a < b):(decide (0<=a)&&decide (a < b))=true:=by rw [decide_eq_true h1,decide_eq_true h2]; rfl
theorem Vze {bs:List UInt8} (hbs:bs.length < 1000000) (at0:Int) (out:List Ja) (h0:0<=at0) (h1:at0<=bs.length):Ok (Zay (bs,at0,out,())) λr=>∃ at1:Int,0<=at1/\at1<=bs.length/\r.1.1=(bs,at1,out,())/\r.2.1.data=[]:=by
 unfold Zay
 dsimp only
 refine Ok.cond (λ_=>Ok.some ⟨at0,h0,h1,rfl,rfl⟩) λhc=>?_
 have hc:at0 < bs.length:=by have:=of_decide_eq_false hc; omega
 rw [Vfi h0 hc,bindU,Vaa (n:=at0+1) (by omega) (by omega)]
 generalize ati bs at0=c
 have hA:∀ x:Ja,x.data=[]->Ok ((some (((bs,at0+1,out,()),()),x,(0:Int),())).bind λq=>(some (Sum.inr q):Option ((Rr×(Ja×Unit)×UInt8×Unit)⊕((Rr×Unit)×Ja×Int×Unit)))) (λz=>(∃ c,z = .inl ((bs,at0,out,()),(⟨0,0#64,[]⟩,()),c,()))\/∃ x:Ja,x.data=[]/\z = .inr (((bs,at0+1,out,()),()),x,0,())):=λx hx=>⟨_,rfl,.inr ⟨x,hx,rfl⟩⟩
 have hC:Ok (some (Sum.inl ((bs,at0,out,()),(⟨0,0#64,[]⟩,()),c,())):Option ((Rr×(Ja×Unit)×UInt8×Unit)⊕((Rr×Unit)×Ja×Int×Unit))) (λz=>(∃ c,z = .inl ((bs,at0,out,()),(⟨0,0#64,[]⟩,()),c,()))\/∃ x:Ja,x.data=[]/\z = .inr (((bs,at0+1,out,()),()),x,0,())):=⟨_,rfl,.inl ⟨c,rfl⟩⟩
 refine Ok.bind (Ok.mono (Ok.cond (λ_=>Ok.cond (λ_=>hA _ rfl) λ_=>Ok.cond (λ_=>hA _ rfl) λ_=>hC) λ_=>Ok.cond (λ_=>hA _ rfl) λ_=>Ok.cond (λ_=>hA _ rfl) λ_=>hC) ?_)
 rintro z (⟨c,rfl⟩ | ⟨x,hx,rfl⟩)
 ·dsimp only [Sum.elim_inl]
  generalize (UInt8.ofBitVec (c.toBitVec >>> 5)).toBitVec.toNat=a
  generalize (UInt8.ofBitVec (c.toBitVec &&& (31:UInt8).toBitVec)).toBitVec.toNat=b
  refine Ok.cond (λ_=>Ok.some ⟨at0,h0,h1,rfl,rfl⟩) λh5=>Ok.cond (λ_=>Ok.some ⟨at0,h0,h1,rfl,rfl⟩) λh27=>?_
  have h5:=of_decide_eq_false h5
  have h27:=of_decide_eq_false h27
  refine Ok.bind (Ok.mono (Q:=λj=>∃ s:Int,0<=s/\s<=8/\j=((bs,at0,out,()),(⟨0,0#64,[]⟩,()),(a:Int),(b:Int),s,())) (Ok.cond (λh=>?_) λ_=>Ok.some ⟨0,by omega,by omega,rfl⟩) ?_)
  ·have h:=of_decide_eq_true h
   rcases (by omega:b=24\/b=25\/b=26\/b=27) with rfl | rfl | rfl | rfl<;>exact Ok.some ⟨_,by decide,by decide,rfl⟩
  rintro _ ⟨s,s0,s8,rfl⟩
  dsimp only
  rw [Vaa (n:=(bs.length:Int) - at0) (by omega) (by omega),Vaa (n:=(bs.length:Int) - at0 - 1) (by omega) (by omega)]
  refine Ok.cond (λ_=>Ok.some ⟨at0,h0,h1,rfl,rfl⟩) λhs=>?_
  have hs:=of_decide_eq_false hs
  refine Ok.bind (Ok.mono (Q:=λj=>∃ m,j=((bs,at0,out,()),(⟨0,0#64,[]⟩,()),(a:Int),s,m,())) (Ok.cond (λ_=>Ok.some ⟨_,rfl⟩) λ_=>Ok.some ⟨_,rfl⟩) ?_)
  rintro _ ⟨m,rfl⟩
  dsimp only
  refine Ok.bind (Ok.mono (Q:=λj=>∃ m,j=((bs,at0,out,()),(⟨0,0#64,[]⟩,()),(a:Int),s,m,())) ?_ ?_)
  ·unfold Zay_L1
   refine Ok.iter (λt=>∃ (m:BitVec 64) (i:Int),0<=i/\i<=s/\t=((bs,at0,out,()),(⟨0,0#64,[]⟩,()),(a:Int),s,m,i,())) (λt=>(s - t.2.2.2.2.2.1).toNat) ⟨m,0,by omega,by omega,rfl⟩ (by rw [Vab]; dsimp only; omega) ?_
   rintro _ ⟨m,i,i0,i1,rfl⟩
   dsimp only
   unfold Zay_L1b
   refine Ok.cond (λhi=>?_) λ_=>Ok.some ⟨m,rfl⟩
   have hi:=of_decide_eq_true hi
   dsimp only
   rw [Vaa (n:=at0+1) (by omega) (by omega),Vaa (n:=at0+1+i) (by omega) (by omega),Vfi (by omega) (by omega),bindU,Vaa (n:=i+1) (by omega) (by omega)]
   exact Ok.some ⟨⟨_,_,by omega,by omega,rfl⟩,by dsimp only; omega⟩
  rintro _ ⟨m,rfl⟩
  dsimp only
  rw [bit2 s0 (by omega),cond_true]
  refine Ok.get (by simp only [List.length_cons,List.length_nil]; omega) λx=>Ok.cond (λ_=>Ok.some ⟨at0,h0,h1,rfl,rfl⟩) λ_=>?_
  rw [bit2 (by omega) (by omega),cond_true,Vaa (n:=1+s) (by omega) (by omega),Vaa (n:=at0+(1+s)) (by omega) (by omega)]
  exact Ok.get (by simp only [List.length_cons,List.length_nil]; omega) λx=>Ok.some ⟨_,by omega,by omega,rfl,rfl⟩
 ·exact Ok.some ⟨at0+1,by omega,by omega,rfl,hx⟩
def RT (bs:List UInt8) (n:Nat) (st:Rr):Prop:=∃ (at1:Int) (o:List Ja),st=(bs,at1,o,())/\0<=at1/\at1<=bs.length/\n<=o.length/\o.length<=512/\∀ x∈o,x.data.length < 1000000
theorem neq0 {e:Int} {X:Prop} (h:(!decide (e=0))=true) (h0:e=0):X:=by subst h0; cases h
theorem eq0 {e:Int} (h:(!decide (e=0))=false):e=0:=by
 cases hd:decide (e=0)
 ·rw [hd] at h; cases h
 ·exact of_decide_eq_true hd
theorem Vqb {bs:List UInt8} (hbs:bs.length < 1000000):∀ (f d:Nat) (at0:Int) (out:List Ja) (key:Bool) (b:List UInt8),0<=at0->at0<=bs.length->out.length<=512->(∀ x∈out,x.data.length < 1000000)->d<=9->10<=f+d->Ok (Zaz_n f (bs,at0,out,()) (d:Int) key b) λr=>r.2.1=0->RT bs (out.length+1) r.1.1
 | 0,d,at0,out,key,b,_,_,_,_,hd,hf=>by omega
 | f+1,d,at0,out,key,b,h0,h1,ho,hx,hd,hf=>by
  have ih:=λat0 out key b h0 h1 ho hx (hd:d+1<=9)=>Vqb hbs f (d+1) at0 out key b h0 h1 ho hx hd (by omega)
  show Ok (Zaz_R (Zaz_n f) (bs,at0,out,()) (d:Int) key b) _
  generalize Zaz_n f=k at ih
  unfold Zaz_R
  dsimp only
  refine Ok.bind (Ok.mono (Vze hbs at0 out h0 h1) ?_)
  rintro ⟨⟨_,_⟩,x,e,_⟩ ⟨at1,g0,g1,rfl,gx⟩
  dsimp only at gx |-
  refine Ok.cond (λhe=>Ok.some λh=>neq0 he h) λ_=>?_
  obtain ⟨kd,m,dt⟩:=x
  dsimp only at gx |-
  subst gx
  refine Ok.bind (Ok.mono (Q:=λj=>∃ q:Bool,j=((bs,at1,out,()),(d:Int),key,b,(⟨kd,m,[]⟩,()),m,q,())) (Ok.cond (λ_=>Ok.some ⟨_,rfl⟩) λ_=>Ok.some ⟨_,rfl⟩) ?_)
  rintro _ ⟨q,rfl⟩
  dsimp only
  refine Ok.bind (Ok.mono (Q:=λj=>∃ n:Bool,j=((bs,at1,out,()),(d:Int),key,b,(⟨kd,m,[]⟩,()),m,q,n,())) (Ok.cond (λ_=>Ok.some ⟨_,rfl⟩) λ_=>Ok.some ⟨_,rfl⟩) ?_)
  rintro _ ⟨n,rfl⟩
  dsimp only
  refine Ok.cond (λ_=>Ok.some λh=>absurd h (by dsimp only; decide)) λh5=>?_
  have h5:=of_decide_eq_false h5
  refine Ok.bind (Ok.mono (Q:=λj=>∃ t:Bool,j=((bs,at1,out,()),(d:Int),key,b,(⟨kd,m,[]⟩,()),m,q,n,t,())) (Ok.cond (λ_=>by rw [Vk7,bindU]; exact Ok.some ⟨_,rfl⟩) λ_=>Ok.some ⟨_,rfl⟩) ?_)
  rintro _ ⟨t,rfl⟩
  dsimp only
  refine Ok.cond (λ_=>Ok.some λh=>absurd h (by dsimp only; decide)) λ_=>Ok.cond (λ_=>Ok.some λh=>absurd h (by dsimp only; decide)) λh8=>?_
  have h8:=of_decide_eq_false h8
  refine Ok.bind (Ok.mono (Q:=λj=>∃ t:Bool,j=((bs,at1,out,()),(d:Int),key,b,(⟨kd,m,[]⟩,()),m,q,n,t,())) (Ok.cond (λ_=>Ok.cond (λ_=>Ok.some ⟨_,rfl⟩) λ_=>Ok.cond (λ_=>Ok.some ⟨_,rfl⟩) λ_=>Ok.some ⟨_,rfl⟩) λ_=>Ok.cond (λ_=>Ok.some ⟨_,rfl⟩) λ_=>Ok.some ⟨_,rfl⟩) ?_)
  rintro _ ⟨t,rfl⟩
  dsimp only
  refine Ok.cond (λ_=>Ok.some λh=>absurd h (by dsimp only; decide)) λ_=>?_
  rw [Vaa (n:=(bs.length:Int) - at1) (by omega) (by omega)]
  refine Ok.bind (Ok.mono (Q:=λj=>∃ t:Bool,(q=true->t=false->(m.toNat:Int)<=bs.length - at1)/\j=((bs,at1,out,()),(d:Int),key,b,(⟨kd,m,[]⟩,()),m,q,n,t,())) (Ok.cond (λ_=>Ok.some ⟨_,λ_ ht=>?_,rfl⟩) λhq=>Ok.some ⟨_,(λh=>by rw [hq] at h; cases h),rfl⟩) ?_)
  ·have ht:=of_decide_eq_false ht
   rw [show (bs.length:Int) - at1=(((bs.length:Int) - at1).toNat:Int) by omega,BitVec.ofInt_natCast,BitVec.toNat_ofNat,Nat.mod_eq_of_lt (by omega)] at ht
   omega
  rintro _ ⟨t,hm,rfl⟩
  dsimp only
  refine Ok.cond (λ_=>Ok.some λh=>absurd h (by dsimp only; decide)) λht=>?_
  refine Ok.bind (Ok.mono (Q:=λj=>∃ (at2:Int) (x:Ja),0<=at2/\at2<=bs.length/\x.data.length < 1000000/\j=((bs,at2,out,()),(d:Int),key,b,(x,()),m,n,())) (Ok.cond (λhq=>?_) λ_=>Ok.some ⟨at1,⟨kd,m,[]⟩,g0,g1,by simp,rfl⟩) ?_)
  ·have hm:=hm hq ht
   rw [Vaa (n:=(m.toNat:Int)) (by omega) (by omega),Vaa (n:=at1+(m.toNat:Int)) (by omega) (by omega),decide_eq_true (by omega:0<=at1+(m.toNat:Int)),decide_eq_true (by omega:at1+(m.toNat:Int)<=bs.length),decide_eq_true (by omega:0<=at1),decide_eq_true (by omega:at1<=((at1+(m.toNat:Int)).toNat:Int))]
   exact Ok.some ⟨_,_,by omega,by omega,by simp only [List.length_drop,List.length_take]; omega,rfl⟩
  rintro _ ⟨at2,⟨kx,nx,dx⟩,a0,a1,ad,rfl⟩
  dsimp only at ad |-
  refine Ok.bind (Ok.mono (Q:=λj=>∃ t:Bool,j=((bs,at2,out,()),(d:Int),key,b,(⟨kx,nx,dx⟩,()),m,n,t,())) (Ok.cond (λ_=>by rw [Vbh ad,bindU]; exact Ok.some ⟨_,rfl⟩) λ_=>Ok.some ⟨_,rfl⟩) ?_)
  rintro _ ⟨t,rfl⟩
  dsimp only
  refine Ok.cond (λ_=>Ok.some λh=>absurd h (by dsimp only; decide)) λ_=>?_
  refine Ok.bind (Ok.mono (Q:=λj=>∃ t:Bool,j=((bs,at2,out,()),(d:Int),(⟨kx,nx,dx⟩,()),m,n,t,())) (Ok.cond (λ_=>Ok.cond (λ_=>by rw [Vfk _ ad,bindU,Vn8,bindU]; exact Ok.some ⟨_,rfl⟩) λ_=>Ok.some ⟨_,rfl⟩) λ_=>Ok.some ⟨_,rfl⟩) ?_)
  rintro _ ⟨t,rfl⟩
  dsimp only
  refine Ok.cond (λ_=>Ok.some λh=>absurd h (by dsimp only; decide)) λ_=>?_
  rw [Vac (by simp; omega) (by omega),cond_true]
  have ed:IntKind.wrap .i64 ((d:Int)+1)=((d+1:Nat):Int):=by rw [Vaa (n:=(d:Int)+1) (by omega) (by omega)]; rfl
  refine Ok.bind (Ok.mono (Q:=λz=>(∃ (st:Rr) (e:Int),e≠0/\z = .inl (st,e,()))\/∃ st:Rr,RT bs (out.length+1) st/\z = .inr (st,())) ?_ ?_)
  ·unfold Zaz_L1
   refine Ok.iter (λs=>∃ (st:Rr) (l:List UInt8) (i:BitVec 64),RT bs (out.length+1) st/\s=(st,(d:Int),(⟨kx,nx,dx⟩,()),m,n,l,i,())) (λs=>m.toNat - s.2.2.2.2.2.2.1.toNat) ⟨_,_,_,⟨at2,_,rfl,a0,a1,by simp,by simp; omega,λy hy=>?_⟩,rfl⟩ (by have:=m.isLt; rw [Vab]; dsimp only; omega) ?_
   ·rcases List.mem_append.1 hy with h | h
    ·exact hx y h
    ·rw [List.mem_singleton.1 h]; exact ad
   rintro _ ⟨_,l,i,⟨at3,o,rfl,c0,c1,c2,c3,c4⟩,rfl⟩
   dsimp only
   unfold Zaz_L1b
   refine Ok.cond (λ_=>Ok.cond (λhi=>?_) λ_=>Ok.some (.inr ⟨_,⟨at3,o,rfl,c0,c1,c2,c3,c4⟩,rfl⟩)) λ_=>Ok.some (.inr ⟨_,⟨at3,o,rfl,c0,c1,c2,c3,c4⟩,rfl⟩)
   have hi:=of_decide_eq_true hi
   have hin:(i+1#64).toNat=i.toNat+1:=by have:=m.isLt; rw [BitVec.toNat_add,show (1#64).toNat=1 from rfl,Nat.mod_eq_of_lt (by omega)]
   dsimp only
   rw [ed]
   refine Ok.cond (λ_=>Ok.bind (Ok.mono (ih at3 o true l c0 c1 c3 c4 (by omega)) ?_)) λ_=>Ok.bind (Ok.mono (ih at3 o false [] c0 c1 c3 c4 (by omega)) ?_)
   ·rintro ⟨⟨st,_⟩,e,_⟩ hr
    dsimp only at hr |-
    refine Ok.cond (λhe=>Ok.some (.inl ⟨_,_,λh=>neq0 he h,rfl⟩)) λhe=>?_
    obtain ⟨at4,o2,rfl,e0,e1,e2,e3,e4⟩:=hr (eq0 he)
    dsimp only
    rw [bit2 (by omega) (by omega),cond_true,List.getElem?_eq_getElem (by omega:((o.length:Int)).toNat < o2.length),bindU,Vfk _ (e4 _ (List.getElem_mem _)),bindU]
    refine Ok.bind (Ok.mono (ih at4 o2 false [] e0 e1 e3 e4 (by omega)) ?_)
    rintro ⟨⟨st,_⟩,e,_⟩ hr
    dsimp only at hr |-
    refine Ok.cond (λhe=>Ok.some (.inl ⟨_,_,λh=>neq0 he h,rfl⟩)) λhe=>?_
    obtain ⟨at5,o3,rfl,f0,f1,f2,f3,f4⟩:=hr (eq0 he)
    exact Ok.some ⟨⟨_,_,_,⟨at5,o3,rfl,f0,f1,by omega,f3,f4⟩,rfl⟩,by dsimp only; omega⟩
   ·rintro ⟨⟨st,_⟩,e,_⟩ hr
    dsimp only at hr |-
    refine Ok.cond (λhe=>Ok.some (.inl ⟨_,_,λh=>neq0 he h,rfl⟩)) λhe=>?_
    obtain ⟨at5,o3,rfl,f0,f1,f2,f3,f4⟩:=hr (eq0 he)
    exact Ok.some ⟨⟨_,_,_,⟨at5,o3,rfl,f0,f1,by omega,f3,f4⟩,rfl⟩,by dsimp only; omega⟩
  rintro _ (⟨st,e,he,rfl⟩ | ⟨st,hs,rfl⟩)
  ·exact Ok.some λh=>absurd h he
  ·exact Ok.some λ_=>hs
theorem Vzf (b:List UInt8) (hb:b.length < 1000000):Ok (Zdy b) λr=>0<=r.2.2.1/\r.2.2.1<=b.length/\∀ x∈r.2.1,x.data.length < 1000000:=by
 unfold Zdy
 refine Ok.bind (Ok.mono (Vqb hb 12 0 0 [] false [] (by omega) (by omega) (by simp) (by simp) (by omega) (by omega)) ?_)
 rintro ⟨⟨st,_⟩,e,_⟩ hr
 dsimp only at hr |-
 refine Ok.cond (λ_=>Ok.some ⟨Int.le_refl 0,by dsimp only; omega,by simp⟩) λhe=>?_
 obtain ⟨at5,o3,rfl,f0,f1,f2,f3,f4⟩:=hr (eq0 he)
 exact Ok.some ⟨f0,f1,f4⟩
end Go.Proofs.YtancibcbaajjkaaGreatDoor

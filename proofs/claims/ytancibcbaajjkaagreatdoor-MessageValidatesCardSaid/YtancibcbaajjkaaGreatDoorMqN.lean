/- The device's keystore, first part: Put, Boot, Draw, Store are total. -/
import Derived.Test.YtancibcbaajjkaaGreatDoorMqM
set_option linter.unusedVariables false
set_option linter.unusedSimpArgs false
set_option maxRecDepth 100000
namespace Go.Proofs.YtancibcbaajjkaaGreatDoor
open Go Go.Abs
open _root_.List renaming getElem?_eq_getElem → Qa
open _root_.Sum renaming inr → Qb, inl → Qc
open _root_.Bool renaming not_false → Qd
theorem Vna (a b:List Jf) (ha:a.length<=1000000):Ok (Zbz a b) λ_=>True:=by
 unfold Zbz
 refine Ok.cond (λ_=>Ok.some trivial) λhl=>?_
 have hl:a.length=b.length:=by
  have:decide ((a.length:Int)=(b.length:Int))=true:=by revert hl; cases decide ((a.length:Int)=(b.length:Int))<;>simp
  have:=of_decide_eq_true this
  omega
 unfold Zbz_L0
 refine Ok.bind (Ok.mono (Ok.iter (Q:=λz=>(∃ c,z=Qc (c,()))\/z=Qb ()) (λs=>∃ i:Nat,i<=a.length/\s=(a,b,(i:Int),())) (λs=>((a.length:Int) - s.2.2.1).toNat) ⟨0,by omega,rfl⟩ (by rw [Vab]; dsimp only; omega) ?_) ?_)
 ·rintro s ⟨i,hi,rfl⟩
  dsimp only
  unfold Zbz_L0b
  refine Ok.cond (λhc=>?_) (λ_=>Ok.some (.inr rfl))
  have hc:=of_decide_eq_true hc
  have hia:i < a.length:=by omega
  have hib:i < b.length:=by omega
  simp only [gIn (Qa hia),gIn (Qa hib),bindU]
  rw [Vaa (n:=(i:Int)+1) (by omega) (by omega)]
  exact Ok.cond (λ_=>Ok.some (.inl ⟨_,rfl⟩)) λ_=>Ok.cond (λ_=>Ok.some (.inl ⟨_,rfl⟩)) λ_=>Ok.some ⟨⟨i+1,hia,rfl⟩,by dsimp only; omega⟩
 ·rintro z (⟨c,rfl⟩ | rfl)
  ·exact Ok.some trivial
  ·exact Ok.some trivial
theorem Vim (v:Jm) (h:VOk v):Ok (Zaq v) λ_=>True:=by
 have hl:=h.ln
 unfold Zaq
 refine Ok.bind (Ok.mono (Vc4 _ h.fl) ?_)
 rintro ⟨_,g,_⟩ _
 refine Ok.cond (λ_=>?_) λ_=>Ok.some trivial
 refine Ok.bind (Ok.mono (Vil _ h.fl) ?_)
 rintro ⟨_,s,_⟩ _
 refine Ok.bind (Ok.mono (Vna _ _ (by omega)) ?_)
 rintro ⟨_,c,_⟩ _
 exact Ok.some trivial
theorem putL2 (l:List Jf) (b:Int) (v z:Jm) (hl:l.length<=200000) (k:Nat) (hk:k < l.length):Ok (Zhn_L2 (l,b,(v,()),(z,()),(k:Int),0,())) λq=>(∃ x c e,q=Qc (x,c,e,())/\NoE e)\/q=Qb (l,b,(v,()),(z,()),(k:Int),()):=by
 unfold Zhn_L2
 refine Ok.iter (λs=>∃ i:Nat,i<=k/\s=(l,b,(v,()),(z,()),(k:Int),(i:Int),())) (λs=>((k:Int) - s.2.2.2.2.2.1).toNat) ⟨0,by omega,rfl⟩ (by rw [Vab]; dsimp only; omega) ?_
 rintro s ⟨i,hi,rfl⟩
 dsimp only
 unfold Zhn_L2b
 refine Ok.cond (λhc=>?_) (λ_=>Ok.some (.inr rfl))
 have hc:=of_decide_eq_true hc
 have hil:i < l.length:=by omega
 simp only [gIn (Qa hil),gIn (Qa hk),bindU]
 rw [Vld _ _ (by decide),bindU,Vaa (n:=(i:Int)+1) (by omega) (by omega)]
 exact Ok.cond (λ_=>Ok.some (.inl ⟨_,_,_,rfl,by decide,by decide⟩)) λ_=>Ok.some ⟨⟨i+1,by omega,rfl⟩,by dsimp only; omega⟩
theorem putL0 (l:List Jf) (b:Int) (v z:Jm) (hl:l.length<=200000):Ok (Zhn_L0 (l,b,(v,()),(z,()),0,())) λq=>(∃ x c e,q=Qc (x,c,e,())/\NoE e)\/q=Qb (l,b,(v,()),(z,()),()):=by
 unfold Zhn_L0
 refine Ok.iter (λs=>∃ i:Nat,i<=l.length/\s=(l,b,(v,()),(z,()),(i:Int),())) (λs=>((l.length:Int) - s.2.2.2.2.1).toNat) ⟨0,by omega,rfl⟩ (by rw [Vab]; dsimp only; omega) ?_
 rintro s ⟨i,hi,rfl⟩
 dsimp only
 unfold Zhn_L0b
 refine Ok.cond (λhc=>?_) (λ_=>Ok.some (.inr rfl))
 have hc:=of_decide_eq_true hc
 have hil:i < l.length:=by omega
 simp only [gIn (Qa hil),bindU]
 rw [Vld _ _ (by decide),bindU]
 refine Ok.cond (λ_=>Ok.some (.inl ⟨_,_,_,rfl,by decide,by decide⟩)) λ_=>Ok.cond (λ_=>Ok.some (.inl ⟨_,_,_,rfl,by decide,by decide⟩)) λ_=>?_
 refine Ok.bind (Ok.mono (putL2 l b v z hl i hil) ?_)
 rintro q (⟨x,c,e,rfl,he⟩ | rfl)
 ·exact Ok.some (.inl ⟨_,_,_,rfl,he⟩)
 ·simp only [Sum.elim_inr]
  rw [Vaa (n:=(i:Int)+1) (by omega) (by omega)]
  exact Ok.some ⟨⟨i+1,hil,rfl⟩,by dsimp only; omega⟩
theorem Vfea (v:Jm) (h:VOk v) (n:Nat) (hn:n <= 1000000) (l:List Jf) (hv:Vals n l) (hl:l.length <= 100000) (b:Int) (hb:b < 0) (hb2:-9223372036854775808 <= b):Ok (Zhn v l b) (VChg v.jg.jd b):=by
  have a1:=h.fl.lo; have a2:=h.fl.hi; have hpl:=h.ln
  have bad:∀ e:Int,NoE e -> Ok ((Zgt v.jg e).bind λr2=>(some ((),(r2.2.1,r2.2.2.1,r2.2.2.2.1,())):Option (Unit × (Jm × Int × Int × Unit)))) (VChg v.jg.jd b):=by
    intro e he
    rw [Vld _ _ he.2,bindU]
    exact Ok.some (.inl he)
  have fin:∀ (z:Jm) (j:Jh) (c e:Int),JChg v.jg b ((),j,c,e,()) -> Ok ((λ(j24:(Int × (Jm × Unit) × (Jh × Unit) × Int × Unit))=>(bif (!decide (j24.2.2.2.1=(0:Int))) then ((Zgt j24.2.2.1.1 j24.2.2.2.1).bind λr25=>(some ((),(r25.2.1,r25.2.2.1,r25.2.2.2.1,()))))
 else ((Zek j24.2.2.1.1).bind λr26=>(some ((),((⟨j24.2.2.1.1,r26.2.1⟩:Jm),j24.1,(0:Int),())):Option (Unit × (Jm × Int × Int × Unit)))))) (c,(z,()),(j,()),e,())) (VChg v.jg.jd b):=by
    intro z j c e hj
    dsimp only
    rcases hj with hj | ⟨k1,k2,k3,k4⟩
    · dsimp only at hj
      rw [decide_eq_false hj.1,Qd,cond_true,Vld _ _ hj.2,bindU]
      exact Ok.some (.inl hj)
    · dsimp only at *
      subst k3; subst k4
      rw [show (!decide ((0:Int)=0))=false from rfl,cond_false]
      refine Ok.bind (Ok.mono (Vil j k1) ?_)
      rintro ⟨_,s,_⟩ ⟨s1,s2⟩
      exact Ok.some (.inr ⟨⟨k1,s1,s2⟩,k2,rfl,rfl⟩)
  unfold Zhn
  refine Ok.bind (Ok.mono (Vim v h) ?_)
  rintro ⟨_,g,_⟩ _
  refine Ok.cond (λ_=>bad _ ⟨by decide,by decide⟩) λ_=>Ok.cond (λ_=>bad _ ⟨by decide,by decide⟩) λ_=>?_
  refine Ok.bind (Ok.mono (putL0 l b v _ (by omega)) ?_)
  rintro q (⟨x,c,e,rfl,he⟩ | rfl)
  · exact Ok.some (.inl he)
  simp only [Sum.elim_inr]
  have hs:=Vp2 n l hv hn (by omega)
  rw [hs,bindU]
  refine Ok.cond (λ_=>bad _ ⟨by decide,by decide⟩) λc1=>?_
  have c1:=of_decide_eq_false c1
  dsimp only at c1
  have hlen:=Vdfa l
  have hv2:Vals 256 l:=λp hp=>by have:=Vdea l p hp; omega
  refine Ok.bind (Ok.mono (Vwj 256 v.jw l h.vl hv2 (by omega)) ?_)
  rintro ⟨_,w,_⟩ ⟨w1,w2⟩
  dsimp only at *
  rw [Vp2 256 w w1 (by omega) (by omega),bindU]
  refine Ok.cond (λ_=>bad _ ⟨by decide,by decide⟩) λ_=>?_
  refine Ok.bind ?_
  rw [bindU]
  refine Ok.bind (Ok.mono (Vwp v.jg h.fl) ?_)
  rintro ⟨_,r,_⟩ _
  refine Ok.cond (λ_=>?_) λ_=>?_
  · refine Ok.bind (Ok.mono (Vm9 256 (by omega) l hv2 (by omega)) ?_)
    rintro ⟨_,rc,_⟩ hrc
    dsimp only at *
    refine Ok.bind (Ok.mono (Vwq v.jg h.fl rc (by have:(256 + 3) * l.length <= 259 * 100:=Nat.mul_le_mul (by omega) (by omega); omega) b hb hb2) ?_)
    rintro ⟨_,j,c,e,_⟩ hj
    exact Ok.some (fin _ j c e hj)
  · refine Ok.bind (Ok.mono (Voj 256 (by omega) w w1 (by omega)) ?_)
    rintro ⟨_,sn,_⟩ ⟨n1,n2⟩
    dsimp only at *
    refine Ok.bind (Ok.mono (Vra v.jg h.fl sn (by omega) b hb hb2) ?_)
    rintro ⟨_,j,c,e,_⟩ hj
    exact Ok.some (fin _ j c e hj)
theorem Vy9 (v:Jm) (h:VOk v):Ok (Zdw v) λ_=>True:=by
 unfold Zdw
 refine Ok.bind (Ok.mono (Vjx 256 (by omega) v h.vl (by have:=h.ln; omega) 2) ?_)
 rintro ⟨_,l,_⟩ hl
 dsimp only at *
 unfold Zdw_L0
 refine Ok.bind (Ok.mono (Ok.iter (Q:=λ_=>True) (λs=>∃ (x:Int) (i:Nat),i<=l.length/\s=(x,l,(i:Int),())) (λs=>((l.length:Int) - s.2.2.1).toNat) ⟨0,0,by omega,rfl⟩ (by rw [Vab]; dsimp only; omega) ?_) λ_ _=>Ok.some trivial)
 rintro s ⟨x,i,hi,rfl⟩
 dsimp only
 unfold Zdw_L0b
 refine Ok.cond (λhc=>?_) (λ_=>Ok.some trivial)
 have hc2:=of_decide_eq_true hc
 have hil:i < l.length:=by omega
 rw [hc,decide_eq_true (by omega:0<=(i:Int)),show (true&&true)=true from rfl,cond_true,Int.toNat_natCast,Qa hil,bindU,Vaa (n:=(i:Int)+1) (by omega) (by omega)]
 exact Ok.some ⟨⟨_,i+1,hil,rfl⟩,by dsimp only; omega⟩
theorem Vfq (a:BitVec 64) (l:List UInt8) (n:Int) (hl:l.length<=1000):Ok (Zdz a l n) λ_=>True:=by
 unfold Zdz
 rw [Vac (by simp only [List.length_cons,List.length_nil]; omega) (by omega),cond_true,rW1,bindU,Vac (by simp [w8]; omega) (by omega),cond_true]
 dsimp only
 rw [rMac _ _ _ (by simp [w8]; omega),bindU]
 exact Ok.some trivial
theorem Vfr (d:Jc) (h:VOk d.jm):Ok (Zda d) λ_=>True:=by
 unfold Zda
 refine Ok.bind (Ok.mono (Vjx 256 (by omega) _ h.vl (by have:=h.ln; omega) 1) ?_)
 rintro ⟨_,l,_⟩ _
 refine Ok.bind (Ok.mono (Vcv _) ?_)
 rintro ⟨_,x,_⟩ _
 exact Ok.some trivial
theorem Vwr (d:Jc) (h:VOk d.jm):Ok (Zfa d) λr=>∃ n,r.2.1 = { d with jan:=n }:=by
 unfold Zfa
 refine Ok.bind (Ok.mono (Vfr d h) ?_)
 rintro ⟨_,m,_⟩ _
 refine Ok.bind (Ok.mono (Vy9 _ h) ?_)
 rintro ⟨_,b,_⟩ _
 dsimp only
 refine Ok.bind (Ok.mono (Vfq _ _ _ (by decide)) ?_)
 rintro ⟨_,x,_⟩ _
 exact Ok.some ⟨_,rfl⟩
theorem Vws (d:Jc) (v:Jm) (e:Int) (he:e≠16):Zdd d v e=some ((),d,0,e,()):=by
 unfold Zdd
 rw [decide_eq_false he]; rfl
theorem Vp4 (d:Jc) (hon:d.on=true) (h:VOk d.jm) (n:Nat) (hn:n<=1000000) (l:List Jf) (hv:Vals n l) (hl:l.length<=100000) (b:Int) (hb:b < 0) (hb2:-9223372036854775808<=b):Ok (Zdt d l b) λr=>(r.2.1=d/\NoE r.2.2.2.1)\/(∃ v,VOk v/\r.2.1 = { d with jm:=v }/\r.2.2.1=b/\r.2.2.2.1=0):=by
 unfold Zdt
 rw [hon,Bool.not_true,cond_false]
 refine Ok.bind (Ok.mono (Vfea d.jm h n hn l hv hl b hb hb2) ?_)
 rintro ⟨_,v,c,e,_⟩ (he | ⟨k1,k2,k3,k4⟩)
 ·dsimp only at *
  rw [decide_eq_false he.1,Qd,cond_true,Vws _ _ _ he.2,bindU]
  exact Ok.some (.inl ⟨rfl,he⟩)
 ·dsimp only at *
  subst k3; subst k4
  rw [show (!decide ((0:Int)=0))=false from rfl,cond_false]
  exact Ok.some (.inr ⟨v,k1,by rw [<- hon],rfl,rfl⟩)
theorem Vga (x:Jr):Ok (Zdr x) λr=>r.2.1=true->0<=x.jau/\x.jau<=x.next/\x.next<=x.to_/\x.to_<=16:=by
 unfold Zdr
 refine Ok.cond (λh1=>Ok.cond (λh2=>Ok.cond (λh3=>Ok.some λh4=>⟨of_decide_eq_true h1,of_decide_eq_true h2,of_decide_eq_true h3,of_decide_eq_true h4⟩) (λ_=>?_)) (λ_=>?_)) (λ_=>?_)
 all_goals exact Ok.some λh=>by cases h
theorem Vi1 (x:Jr):Ok (Zam x) λr=>r.2.1.length<=11:=by
 unfold Zam
 refine Ok.bind (Ok.mono (Vga x) ?_)
 rintro ⟨_,b,_⟩ _
 refine Ok.cond (λ_=>Ok.some (Nat.zero_le _)) λ_=>?_
 rw [rW1,bindU]
 dsimp only
 rw [Vac (by simp [w8]) (by omega),cond_true]
 exact Ok.some (by simp [w8])
theorem Vi2 (l:List UInt8):Ok (Zal l) λr=>r.2.2.1=0->0<=r.2.1.jau/\r.2.1.jau<=r.2.1.next/\r.2.1.next<=r.2.1.to_/\r.2.1.to_<=16:=by
 unfold Zal
 refine Ok.cond (λ_=>Ok.some λh=>by cases h) λh=>?_
 have h:l.length=11:=by
  have:decide ((l.length:Int)=(11:Int))=true:=by revert h; cases decide ((l.length:Int)=(11:Int))<;>simp
  have:=of_decide_eq_true this
  omega
 rw [decide_eq_true (by omega),cond_true]
 refine Ok.bind (Ok.mono (Vcv _) ?_)
 rintro ⟨_,x,_⟩ _
 have g8:getI l 8=some (l[8]'(by omega)):=gIn (i:=8) (Qa (by omega))
 have g9:getI l 9=some (l[9]'(by omega)):=gIn (i:=9) (Qa (by omega))
 have g10:getI l 10=some (l[10]'(by omega)):=gIn (i:=10) (Qa (by omega))
 rw [g8,bindU,g9,bindU,g10,bindU]
 refine Ok.bind (Ok.mono (Vga _) ?_)
 rintro ⟨_,b,_⟩ hb
 refine Ok.cond (λ_=>Ok.some λh=>by cases h) λhc=>Ok.some λ_=>?_
 exact hb (by revert hc; cases b<;>simp)
theorem Vp5 (d:Jc) (h:VOk d.jm) (k:Int):Ok (Zdx d k) λr=>r.2.2.1=true->0<=r.2.1.jau/\r.2.1.jau<=r.2.1.next/\r.2.1.next<=r.2.1.to_/\r.2.1.to_<=16:=by
 unfold Zdx
 refine Ok.bind (Ok.mono (Vjx 256 (by omega) _ h.vl (by have:=h.ln; omega) _) ?_)
 rintro ⟨_,l,_⟩ _
 refine Ok.bind (Ok.mono (Vi2 l) ?_)
 rintro ⟨_,x,e,_⟩ hx
 exact Ok.some λh=>hx (of_decide_eq_true h)
theorem Vp6 (d:Jc) (h:VOk d.jm):Ok (Zgc d) λr=>0<=r.2.1.jy/\r.2.1.jy<=255:=by
 unfold Zgc
 refine Ok.bind (Ok.mono (Vjx 256 (by omega) _ h.vl (by have:=h.ln; omega) _) ?_)
 rintro ⟨_,l,_⟩ _
 refine Ok.cond (λ_=>Ok.some ⟨by dsimp only; omega,by dsimp only; omega⟩) λ_=>?_
 refine Ok.bind (Ok.mono (Vcv _) ?_)
 rintro ⟨_,x,_⟩ _
 refine Ok.bind (Ok.mono (Vjx 256 (by omega) _ h.vl (by have:=h.ln; omega) _) ?_)
 rintro ⟨_,m,_⟩ _
 refine Ok.cond (λhc=>?_) λ_=>Ok.some ⟨by dsimp only; omega,by dsimp only; omega⟩
 have hc:=of_decide_eq_true hc
 dsimp only at *
 rw [decide_eq_true (by omega),cond_true,Qa (by omega:0 < m.length),bindU]
 have:=(m[0]'(by omega)).toBitVec.isLt
 exact Ok.some ⟨by dsimp only; omega,by dsimp only; omega⟩
theorem Va9a (l:List UInt8) (hl:l.length<=1000000):Ok (Zfy l) λ_=>True:=by
 unfold Zfy
 rw [rHash _ _ (by omega),bindU]
 exact Ok.some trivial
theorem Vnb (d:Jc) (h:VOk d.jm) (id:List UInt8) (hl:id.length<=1000000):Ok (Zdb d id) λr=>0<=r.2.1/\r.2.1<=15:=by
 unfold Zdb Zdb_L0
 refine Ok.bind (Ok.mono (Ok.iter (Q:=λz=>(∃ n c,z=Qc (n,c,())/\0<=n/\n<=15)\/z=Qb ()) (λs=>∃ i:Nat,i<=16/\s=(id,(d,()),(i:Int),())) (λs=>((16:Int) - s.2.2.1).toNat) ⟨1,by omega,rfl⟩ (by rw [Vab]; dsimp only; omega) ?_) ?_)
 ·rintro s ⟨i,hi,rfl⟩
  dsimp only
  unfold Zdb_L0b
  dsimp only
  refine Ok.cond (λhc=>?_) (λ_=>Ok.some (.inr rfl))
  have hc:=of_decide_eq_true hc
  rw [Vaa (n:=(i:Int)+1) (by omega) (by omega)]
  have nx:∃ i2:Nat,i2<=16/\(id,(d,()),(i:Int)+1,())=(id,(d,()),(i2:Int),()):=⟨i+1,by omega,rfl⟩
  refine Ok.bind (Ok.mono (Vp5 d h _) ?_)
  rintro ⟨_,x,c,_⟩ _
  refine Ok.cond (λ_=>?_) λ_=>Ok.some ⟨nx,by dsimp only; omega⟩
  refine Ok.bind (Ok.mono (Va9a id hl) ?_)
  rintro ⟨_,t,_⟩ _
  refine Ok.cond (λ_=>Ok.some (.inl ⟨_,_,rfl,by omega,by omega⟩)) λ_=>Ok.some ⟨nx,by dsimp only; omega⟩
 ·rintro z (⟨n,c,rfl,h1,h2⟩ | rfl)
  ·exact Ok.some ⟨h1,h2⟩
  ·exact Ok.some ⟨by dsimp only; omega,by dsimp only; omega⟩
structure DevOk (d:Jc):Prop where
 on:d.on=true
 v:VOk d.jm
 n0:0<=d.now
 n1:d.now<=1099511627776
end Go.Proofs.YtancibcbaajjkaaGreatDoor

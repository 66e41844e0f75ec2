/- Out of the texts about items of the chapter on items (cbor): what this chapter needs. Written by a program. -/
import Derived.Test.YthoblablopmhfaaGreatDoorCrB
import Derived.Test.YthoblablopmhfaaGreatDoorLib8
namespace Go.Proofs.YthoblablopmhfaaGreatDoor
set_option linter.unusedVariables false
set_option linter.unusedSimpArgs false
set_option maxRecDepth 100000
open Go Go.Abs
def bev:BitVec 64→List UInt8→BitVec 64
 | n,[]=>n
 | n,c::r=>bev ((n <<< 8) ||| (BitVec.setWidth 64 c.toBitVec)) r
def nv:Nat→List UInt8→Nat
 | v,[]=>v
 | v,c::r=>nv (v * 256+c.toNat) r
theorem nv_eq:∀ (l:List UInt8) (v:Nat),nv v l=v * 256 ^ l.length+nv 0 l
 | [],v=>by simp [nv]
 | c::r,v=>by
  have h1:=nv_eq r (v * 256+c.toNat)
  have h2:=nv_eq r (0 * 256+c.toNat)
  simp only [nv,List.length_cons]
  rw [h1,h2,Nat.pow_succ,Nat.add_mul,Nat.zero_mul,Nat.zero_add,Nat.mul_assoc,Nat.mul_comm 256,Nat.add_assoc]
theorem nv_lt:∀ l:List UInt8,nv 0 l < 256 ^ l.length
 | []=>by simp [nv]
 | c::r=>by
  have h1:=nv_eq r (0 * 256+c.toNat)
  have h2:=nv_lt r
  have h3:c.toNat < 256:=c.toNat_lt
  simp only [nv,List.length_cons]
  rw [h1,Nat.zero_mul,Nat.zero_add,Nat.pow_succ]
  have:c.toNat * 256 ^ r.length≤255 * 256 ^ r.length:=Nat.mul_le_mul_right _ (by omega)
  omega
theorem Vzl:∀ (a b:List UInt8),a.length=b.length→nv 0 a=nv 0 b→a=b
 | [],[],_,_=>rfl
 | [],_::_,h,_=>by cases h
 | _::_,[],h,_=>by cases h
 | c::r,d::s,h,e=>by
  have hl:r.length=s.length:=by simpa using h
  have h1:=nv_eq r (0 * 256+c.toNat)
  have h2:=nv_eq s (0 * 256+d.toNat)
  simp only [nv] at e
  rw [h1,h2,Nat.zero_mul,Nat.zero_add,Nat.zero_add,hl] at e
  have l1:=nv_lt r
  have l2:=nv_lt s
  rw [hl] at l1
  have hc:c.toNat=d.toNat:=by
   have e1:(c.toNat * 256 ^ s.length+nv 0 r) / 256 ^ s.length=c.toNat:=by
    rw [Nat.mul_comm,Nat.mul_add_div (by omega),Nat.div_eq_of_lt l1,Nat.add_zero]
   have e2:(d.toNat * 256 ^ s.length+nv 0 s) / 256 ^ s.length=d.toNat:=by
    rw [Nat.mul_comm,Nat.mul_add_div (by omega),Nat.div_eq_of_lt l2,Nat.add_zero]
   rw [← e1,← e2,e]
  rw [hc] at e
  rw [UInt8.toNat_inj.1 hc,Vzl r s hl (by omega)]
theorem Vrn (n:BitVec 64):(byt n).toNat=n.toNat % 256:=by
 unfold byt
 show (BitVec.setWidth 8 n).toNat=_
 rw [BitVec.toNat_setWidth]
theorem p256 (k:Nat):2 ^ (8 * k)=256 ^ k:=by rw [Nat.pow_mul]
theorem Vro (n:BitVec 64):∀ k,nv 0 (beb n k)=n.toNat % 256 ^ k
 | 0=>by simp [beb,nv,Nat.mod_one]
 | k+1=>by
  have h1:=nv_eq (beb n k) (0 * 256+(byt (n >>> (8 * k))).toNat)
  simp only [beb,nv]
  rw [h1,Vro n k,Vc6,Vrn,BitVec.toNat_ushiftRight,Nat.shiftRight_eq_div_pow,p256,Nat.zero_mul,Nat.zero_add,Nat.pow_succ,Nat.mod_mul,Nat.mul_comm,Nat.add_comm]
theorem Vewa (n:BitVec 64) (c:UInt8) (h:n.toNat < 256 ^ 7):((n <<< 8) ||| (BitVec.setWidth 64 c.toBitVec)).toNat=n.toNat * 256+c.toNat:=by
 have hc:c.toNat < 256:=c.toNat_lt
 rw [BitVec.toNat_or,BitVec.toNat_shiftLeft,BitVec.toNat_setWidth,Nat.mod_eq_of_lt (a:=n.toNat <<< 8) (by rw [Nat.shiftLeft_eq]; omega)]
 rw [show c.toBitVec.toNat=c.toNat from rfl,Nat.mod_eq_of_lt (a:=c.toNat) (by omega),← Nat.shiftLeft_add_eq_or_of_lt (by omega),Nat.shiftLeft_eq]
theorem Vrp:∀ (l:List UInt8) (n:BitVec 64) (j:Nat),n.toNat < 256 ^ j→j+l.length≤8→(bev n l).toNat=nv n.toNat l
 | [],n,j,_,_=>rfl
 | c::r,n,j,h,hj=>by
  simp only [List.length_cons] at hj
  have hc:c.toNat < 256:=c.toNat_lt
  have e:=Vewa n c (Nat.lt_of_lt_of_le h (Nat.pow_le_pow_right (by omega) (by omega)))
  have:=Vrp r ((n <<< 8) ||| (BitVec.setWidth 64 c.toBitVec)) (j+1) (by rw [e,Nat.pow_succ]; omega) (by omega)
  simp only [bev,nv]
  rw [this,e]
theorem bev0 (l:List UInt8) (hl:l.length≤8):(bev 0#64 l).toNat=nv 0 l:=Vrp l 0#64 0 (by simp) (by omega)
theorem Vbaa (n:BitVec 64) (k:Nat) (hk:k≤8) (hn:n.toNat < 256 ^ k):bev 0#64 (beb n k)=n:=by
 apply BitVec.eq_of_toNat_eq
 rw [bev0 _ (by rw [Vc6]; exact hk),Vro,Nat.mod_eq_of_lt hn]
theorem Vbba (l:List UInt8) (hl:l.length≤8):beb (bev 0#64 l) l.length=l:=by
 apply Vzl
 ·rw [Vc6]
 ·rw [Vro,bev0 l hl,Nat.mod_eq_of_lt (nv_lt l)]
def sho (n:BitVec 64):Nat:=bif decide (n.toNat < 24) then 0 else bif decide (n.toNat < 256) then 1 else bif decide (n.toNat < 65536) then 2 else bif decide (n.toNat < 4294967296) then 4 else 8
def isB (c:UInt8):Bool:=decide (c=244)||decide (c=245)
def hdB:List UInt8→Int×Int×BitVec 64×List UInt8
 | []=>(1,0,0#64,[])
 | c::r=>bif isB c then (0,7,BitVec.ofNat 64 (c.toNat - 244),r) else bif decide (c=246) then (0,8,0#64,r) else bif decide (5 < c.toNat / 32)||decide (27 < c.toNat % 32) then (2,0,0#64,[]) else bif decide (c.toNat % 32 < 24) then (0,((c.toNat / 32:Nat):Int)+1,BitVec.ofNat 64 (c.toNat % 32),r) else bif decide (r.length < 2 ^ (c.toNat % 32 - 24)) then (1,0,0#64,[]) else bif decide (sho (bev 0#64 (r.take (2 ^ (c.toNat % 32 - 24)))) < 2 ^ (c.toNat % 32 - 24)) then (2,0,0#64,[]) else (0,((c.toNat / 32:Nat):Int)+1,bev 0#64 (r.take (2 ^ (c.toNat % 32 - 24))),r.drop (2 ^ (c.toNat % 32 - 24)))
def hdc (n:BitVec 64):UInt8:=bif decide (n.toNat < 24) then byt n else bif decide (n.toNat < 256) then 24 else bif decide (n.toNat < 65536) then 25 else bif decide (n.toNat < 4294967296) then 26 else 27
theorem Vrq (m:UInt8) (n:BitVec 64):hdr m n=(m+hdc n)::beb n (sho n):=by
 unfold hdr hdc sho
 cases decide (n.toNat < 24)<;>cases decide (n.toNat < 256)<;>cases decide (n.toNat < 65536)<;>cases decide (n.toNat < 4294967296)<;>rfl
theorem Vho (n:BitVec 64):(n.toNat < 24∧sho n=0∧hdc n=byt n)∨(24≤n.toNat∧∃ j,j < 4∧sho n=2 ^ j∧hdc n=UInt8.ofNat (24+j)∧n.toNat < 256 ^ (2 ^ j)):=by
 have hn:=n.isLt
 unfold sho hdc
 by_cases h1:n.toNat < 24
 ·left; simp [h1]
 ·right
  refine ⟨by omega,?_⟩
  by_cases h2:n.toNat < 256
  ·exact ⟨0,by omega,by simp [h1,h2],by simp [h1,h2],by simpa using h2⟩
  ·by_cases h3:n.toNat < 65536
   ·exact ⟨1,by omega,by simp [h1,h2,h3],by simp [h1,h2,h3],by simpa using h3⟩
   ·by_cases h4:n.toNat < 4294967296
    ·exact ⟨2,by omega,by simp [h1,h2,h3,h4],by simp [h1,h2,h3,h4],by simpa using h4⟩
    ·exact ⟨3,by omega,by simp [h1,h2,h3,h4],by simp [h1,h2,h3,h4],by simpa using hn⟩
theorem Vrr:∀ (k:Fin 6) (j:Fin 28),isB (mj ((k.val:Int)+1)+UInt8.ofNat j.val)=false∧¬ (mj ((k.val:Int)+1)+UInt8.ofNat j.val)=246∧(mj ((k.val:Int)+1)+UInt8.ofNat j.val).toNat / 32=k.val∧(mj ((k.val:Int)+1)+UInt8.ofNat j.val).toNat % 32=j.val:=by decide +kernel
theorem Vor {k:Int} (h1:1≤k) (h2:k≤6) {j:Nat} (hj:j < 28):isB (mj k+UInt8.ofNat j)=false∧¬ (mj k+UInt8.ofNat j)=246∧(((mj k+UInt8.ofNat j).toNat / 32:Nat):Int)+1=k∧(mj k+UInt8.ofNat j).toNat % 32=j:=by
 obtain ⟨q,rfl⟩:∃ q:Nat,k=(q:Int)+1:=⟨(k - 1).toNat,by omega⟩
 obtain ⟨a,b,c,d⟩:=Vrr ⟨q,by omega⟩ ⟨j,hj⟩
 dsimp only at a b c d
 exact ⟨a,b,by rw [c],d⟩
theorem Vlr {n:BitVec 64} (h:n.toNat < 24):byt n=UInt8.ofNat n.toNat:=by
 apply UInt8.toNat_inj.1
 rw [Vrn]
 simp
theorem Vbca {k:Int} (h1:1≤k) (h2:k≤6) (n:BitVec 64) (r:List UInt8):hdB (hdr (mj k) n++r)=(0,k,n,r):=by
 rw [Vrq,List.cons_append]
 rcases Vho n with ⟨a,b,c⟩ | ⟨a,j,hj,b,c,d⟩
 ·rw [b,c,Vlr a]
  obtain ⟨f1,f2,f3,f4⟩:=Vor h1 h2 (j:=n.toNat) (by omega)
  simp only [hdB]
  rw [f1,f4,f3,show decide (_=(246:UInt8))=false from decide_eq_false f2,show decide (5 < (mj k+UInt8.ofNat n.toNat).toNat / 32)=false from decide_eq_false (by omega),show decide (27 < n.toNat)=false from decide_eq_false (by omega),show decide (n.toNat < 24)=true from decide_eq_true a]
  simp [beb]
 ·rw [b,c]
  obtain ⟨f1,f2,f3,f4⟩:=Vor h1 h2 (j:=24+j) (by omega)
  have hj8:2 ^ j≤8:=Nat.le_trans (Nat.pow_le_pow_right (by omega) (show j≤3 by omega)) (by omega)
  simp only [hdB]
  have et:(beb n (2 ^ j)++r).take (2 ^ j)=beb n (2 ^ j):=by
   rw [List.take_append_of_le_length (by rw [Vc6]; omega),List.take_of_length_le (by rw [Vc6]; omega)]
  have ed:(beb n (2 ^ j)++r).drop (2 ^ j)=r:=by
   have:=List.drop_left (l₁:=beb n (2 ^ j)) (l₂:=r)
   rwa [Vc6] at this
  rw [f1,f4,f3,show decide (_=(246:UInt8))=false from decide_eq_false f2,show decide (5 < (mj k+UInt8.ofNat (24+j)).toNat / 32)=false from decide_eq_false (by omega),show decide (27 < 24+j)=false from decide_eq_false (by omega),show decide (24+j < 24)=false from decide_eq_false (by omega),show 24+j - 24=j by omega,et,ed,Vbaa n _ hj8 d,b,show decide ((beb n (2 ^ j)++r).length < 2 ^ j)=false from decide_eq_false (by rw [List.length_append,Vc6]; omega),show decide (2 ^ j < 2 ^ j)=false from decide_eq_false (by omega)]
  rfl
theorem Vxr:∀ c:Fin 256,c.val / 32≤5→c.val % 32≤27→UInt8.ofNat c.val=mj ((c.val / 32:Nat)+1)+UInt8.ofNat (c.val % 32):=by decide +kernel
theorem Vos {s : List UInt8} {k : Int} {n : BitVec 64} {t : List UInt8} (h : hdB s = (0, k, n, t)) : (1≤k∧k≤6∧s = hdr (mj k) n++t)∨(k = 7∧n.toNat≤1∧s = (244+byt n)::t)∨(k = 8∧n = 0#64∧s = 246::t) := by
 cases s with
 | nil=>simp [hdB] at h
 | cons c r=>
  simp only [hdB] at h
  cases hb:isB c
  ·rw [hb] at h
   simp only [cond_false] at h
   by_cases h6:c=246
   ·rw [show decide (c=246)=true from decide_eq_true h6] at h
    simp only [cond_true,Prod.mk.injEq] at h
    right; right
    exact ⟨h.2.1.symm,h.2.2.1.symm,by rw [h6,h.2.2.2]⟩
   ·rw [show decide (c=246)=false from decide_eq_false h6] at h
    simp only [cond_false] at h
    cases h7:(decide (5 < c.toNat / 32)||decide (27 < c.toNat % 32))
    ·rw [h7] at h
     simp only [cond_false] at h
     simp only [Bool.or_eq_false_iff,decide_eq_false_iff_not,Nat.not_lt] at h7
     have hcl:c.toNat < 256:=c.toNat_lt
     have hc:=Vxr ⟨c.toNat,hcl⟩ h7.1 h7.2
     dsimp only at hc
     rw [UInt8.ofNat_toNat] at hc
     left
     by_cases h8:c.toNat % 32 < 24
     ·rw [show decide (c.toNat % 32 < 24)=true from decide_eq_true h8] at h
      simp only [cond_true,Prod.mk.injEq,true_and] at h
      obtain ⟨e1,e2,e3⟩:=h
      have en:n.toNat=c.toNat % 32:=by rw [← e2,BitVec.toNat_ofNat,Nat.mod_eq_of_lt (by omega)]
      refine ⟨by omega,by omega,?_⟩
      rw [Vrq,e3]
      rcases Vho n with ⟨a,b,d⟩ | ⟨a,_⟩
      ·rw [b,d,Vlr a,en,← e1,← hc]
       rfl
      ·omega
     ·rw [show decide (c.toNat % 32 < 24)=false from decide_eq_false h8] at h
      simp only [cond_false] at h
      generalize hz:c.toNat % 32 - 24=z at h
      have hz3:z≤3:=by omega
      have hz8:2 ^ z≤8:=Nat.le_trans (Nat.pow_le_pow_right (by omega) hz3) (by omega)
      by_cases h9:r.length < 2 ^ z
      ·rw [show decide (r.length < 2 ^ z)=true from decide_eq_true h9] at h
       simp at h
      ·rw [show decide (r.length < 2 ^ z)=false from decide_eq_false h9] at h
       simp only [cond_false] at h
       by_cases h10:sho (bev 0#64 (r.take (2 ^ z))) < 2 ^ z
       ·rw [show decide (sho (bev 0#64 (r.take (2 ^ z))) < 2 ^ z)=true from decide_eq_true h10] at h
        simp at h
       ·rw [show decide (sho (bev 0#64 (r.take (2 ^ z))) < 2 ^ z)=false from decide_eq_false h10] at h
        simp only [cond_false,Prod.mk.injEq,true_and] at h
        obtain ⟨e1,e2,e3⟩:=h
        have hlen:(r.take (2 ^ z)).length=2 ^ z:=by rw [List.length_take]; omega
        have hbb:=Vbba (r.take (2 ^ z)) (by omega)
        have hnn:=bev0 (r.take (2 ^ z)) (by omega)
        have hlt:=nv_lt (r.take (2 ^ z))
        rw [e2] at hbb hnn h10
        rw [hlen] at hbb hlt
        rw [← hnn] at hlt
        refine ⟨by omega,by omega,?_⟩
        rw [Vrq]
        have hz1:1≤2 ^ z:=Nat.one_le_two_pow
        rcases Vho n with ⟨a,b,d⟩ | ⟨a,j,hj,b,d,f⟩
        ·omega
        ·-- the number takes exactly these bytes
         have hjz:j=z:=by
          have h1:z≤j:=by
           rw [b] at h10
           exact (Nat.pow_le_pow_iff_right (a:=2) (by omega)).1 (by omega)
          have h2:¬ z < j:=by
           intro hlt2
           have hs:sho n≤2 ^ z:=by
            unfold sho
            have hh:n.toNat < 256 ^ 2 ^ z:=hlt
            have hz4:z=0∨z=1∨z=2:=by omega
            rcases hz4 with rfl | rfl | rfl
            ·have:n.toNat < 256:=by simpa using hh
             cases decide (n.toNat < 24)<;>simp [this]
            ·have:n.toNat < 65536:=by simpa using hh
             cases decide (n.toNat < 24)<;>cases decide (n.toNat < 256)<;>simp [this]
            ·have:n.toNat < 4294967296:=by simpa using hh
             cases decide (n.toNat < 24)<;>cases decide (n.toNat < 256)<;>cases decide (n.toNat < 65536)<;>simp [this]
           rw [b] at hs
           have:=(Nat.pow_le_pow_iff_right (a:=2) (by omega)).1 hs
           omega
          omega
         subst hjz
         rw [b,d,hbb,← e3,← e1,show 24+j=c.toNat % 32 by omega,← hc,List.cons_append,List.take_append_drop]
    ·rw [h7] at h
     simp at h
  ·rw [hb] at h
   simp only [cond_true,Prod.mk.injEq,true_and] at h
   obtain ⟨e1,e2,e3⟩:=h
   right; left
   unfold isB at hb
   simp only [Bool.or_eq_true,decide_eq_true_eq] at hb
   rcases hb with rfl | rfl
   ·refine ⟨e1.symm,?_,?_⟩
    ·rw [← e2]; decide
    ·rw [← e2,e3]; rfl
   ·refine ⟨e1.symm,?_,?_⟩
    ·rw [← e2]; decide
    ·rw [← e2,e3]; rfl
def bodB (k:Int) (m:BitVec 64) (r:List UInt8):Int×ApiItem×List UInt8:=
 bif isN k then (bif decide (512 < m.toNat) then (8,default,[]) else (0,⟨k,m,[]⟩,r))
 else bif isD k then (bif decide (1024 < m.toNat) then (8,default,[]) else bif decide (r.length < m.toNat) then (1,default,[]) else (0,⟨k,0#64,r.take m.toNat⟩,r.drop m.toNat))
 else (0,⟨k,m,[]⟩,r)
def accB (key:Bool) (before:List UInt8) (q:Int×ApiItem×List UInt8):Int×ApiItem×List UInt8:=
 bif decide (q.1=0) then (acc q.2.1 key before,q.2.1,q.2.2) else q
def getB (n d:Nat) (key:Bool) (before:List UInt8) (s:List UInt8):Int×ApiItem×List UInt8:=
 bif !decide ((hdB s).1=0) then ((hdB s).1,default,[]) else
 bif !decide (adm (hdB s).2.1 n d key=0) then (adm (hdB s).2.1 n d key,default,[]) else
 accB key before (bodB (hdB s).2.1 (hdB s).2.2.1 (hdB s).2.2.2)
theorem Vrs {n d:Nat} {key:Bool} {before s t:List UInt8} {k:Int} {m:BitVec 64} (h:hdB s=(0,k,m,t)) (ha:adm k n d key=0):getB n d key before s=accB key before (bodB k m t):=by
 unfold getB
 rw [h]
 dsimp only
 rw [ha]
 rfl
theorem Vnh {k:Int} (h:isD k=true):isN k=false:=by
 unfold isD at h
 simp only [Bool.or_eq_true,decide_eq_true_eq] at h
 rcases h with rfl | rfl<;>rfl
theorem Vbda {l:List UInt8} (h:l.length≤1024):(BitVec.ofInt 64 (l.length:Int)).toNat=l.length:=by
 rw [BitVec.ofInt_natCast,BitVec.toNat_ofNat,Nat.mod_eq_of_lt (by omega)]
theorem Vexa {x:ApiItem} {n d:Nat} {key:Bool} {b:List UInt8} (h:chk x n d key b=0) (t:List UInt8):bodB x.kind (num x) (x.data++t)=(0,x,t):=by
 obtain ⟨c1,c2,c3,c4⟩:=Vbf h
 obtain ⟨k1,k2,k3⟩:=Voq c1 c2
 obtain ⟨b1,b2⟩:=Vdf c3
 obtain ⟨k,m,l⟩:=x
 dsimp only at *
 unfold bodB num
 dsimp only
 cases hN:isN k
 ·cases hD:isD k
  ·rw [k3 hD]; rfl
  ·have hm:m=0#64:=by
    unfold bad at c2
    dsimp only at c2
    rw [hD] at c2
    simp only [Bool.true_or,Bool.true_and,Bool.or_eq_false_iff,Bool.not_eq_false',decide_eq_true_eq] at c2
    exact c2.1
   simp only [cond_true,cond_false]
   simp only [Vbda b1]
   rw [show decide (1024 < l.length)=false from decide_eq_false (by omega),show decide ((l++t).length < l.length)=false from decide_eq_false (by rw [List.length_append]; omega),hm]
   simp
 ·have hD:isD k=false:=by
   cases hD:isD k
   ·rfl
   ·rw [Vnh hD] at hN; cases hN
  rw [k3 hD,hD]
  simp only [cond_true,cond_false]
  rw [show decide (512 < m.toNat)=false from decide_eq_false (by have:=b2 hN; omega)]
  rfl
theorem byt01 {n:BitVec 64} (h:n.toNat≤1):n=0#64∨n=1#64:=by
 have:n.toNat=0∨n.toNat=1:=by omega
 rcases this with h | h
 ·left; exact BitVec.eq_of_toNat_eq h
 ·right; exact BitVec.eq_of_toNat_eq h
theorem kin8 {x:ApiItem} (h:kin x):(x.kind≠7∧x.kind≠8∧1≤x.kind∧x.kind≤6)∨x.kind=7∨x.kind=8:=by
 obtain ⟨h1,h2,_⟩:=h
 omega
theorem bad7 {x:ApiItem} (h:bad x=false) (h7:x.kind=7):x.number.toNat≤1:=by
 unfold bad at h
 rw [h7] at h
 simp only [decide_true,Bool.true_and,Bool.or_eq_false_iff,decide_eq_false_iff_not] at h
 have:=h.2.1
 omega
theorem bad8 {x:ApiItem} (h:bad x=false) (h8:x.kind=8):x.number=0#64:=by
 unfold bad at h
 rw [h8] at h
 simp only [decide_true,Bool.or_true,Bool.true_and,Bool.or_eq_false_iff,Bool.not_eq_false',decide_eq_true_eq] at h
 exact h.1
theorem Vbea {x:ApiItem} {n d:Nat} {key:Bool} {b:List UInt8} (h:chk x n d key b=0) (t:List UInt8):hdB (hdI x++t)=(0,x.kind,num x,t):=by
 obtain ⟨c1,c2,c3,c4⟩:=Vbf h
 have hk:=Voq c1 c2
 rcases kin8 hk with ⟨q1,q2,q3,q4⟩ | h7 | h8
 ·unfold hdI
  rw [show decide (x.kind=7)=false from decide_eq_false q1,show decide (x.kind=8)=false from decide_eq_false q2]
  exact Vbca q3 q4 _ _
 ·unfold hdI num
  rw [h7]
  rcases byt01 (bad7 c2 h7) with e | e<;>rw [e]<;>rfl
 ·unfold hdI num
  rw [h8,bad8 c2 h8]
  rfl
theorem Vxs {x:ApiItem} {n d:Nat} {key:Bool} {b:List UInt8} (h:chk x n d key b=0) (t:List UInt8):getB n d key b (enc x++t)=(0,x,t):=by
 have e:enc x++t=hdI x++(x.data++t):=by unfold enc; rw [List.append_assoc]
 rw [e,Vrs (Vbea h _) (Vbf h).1,Vexa h]
 unfold accB
 simp [(Vbf h).2.2.2]
theorem Vrt {x:ApiItem} {n d:Nat} {key:Bool} {b s t:List UInt8} (h:getB n d key b s=(0,x,t)):s=enc x++t∧chk x n d key b=0:=by
 unfold getB at h
 by_cases h1:(hdB s).1=0
 ·rw [show decide ((hdB s).1=0)=true from decide_eq_true h1] at h
  by_cases h2:adm (hdB s).2.1 n d key=0
  ·rw [show decide (adm (hdB s).2.1 n d key=0)=true from decide_eq_true h2] at h
   simp only [Bool.not_true,cond_false] at h
   generalize hh:hdB s=q at h h1 h2
   obtain ⟨e,k,m,r⟩:=q
   dsimp only at h h1 h2
   subst h1
   -- the body
   have hbod:(bodB k m r).1=0∧(bodB k m r).2.1=x∧(bodB k m r).2.2=t∧acc x key b=0:=by
    unfold accB at h
    by_cases h3:(bodB k m r).1=0
    ·rw [show decide ((bodB k m r).1=0)=true from decide_eq_true h3] at h
     simp only [cond_true,Prod.mk.injEq] at h
     exact ⟨h3,h.2.1,h.2.2,by rw [← h.2.1]; exact h.1⟩
    ·rw [show decide ((bodB k m r).1=0)=false from decide_eq_false h3] at h
     simp only [cond_false] at h
     rw [h] at h3
     exact absurd rfl h3
   obtain ⟨q1,q2,q3,q4⟩:=hbod
   have main : x.kind = k∧num x = m∧r = x.data++t∧big x = false∧(isD k = true→x.number = 0#64)∧(isD k = false→x.data = []∧x.number = m) := by
    unfold bodB at q1 q2 q3
    cases hN:isN k
    ·rw [hN] at q1 q2 q3
     cases hD:isD k
     ·rw [hD] at q1 q2 q3
      simp only [cond_false] at q2 q3
      subst q2; subst q3
      refine ⟨rfl,?_,by simp,?_,by simp,by simp⟩
      ·unfold num; dsimp only; rw [hD]; rfl
      ·unfold big; dsimp only; rw [hN]; rfl
     ·rw [hD] at q1 q2 q3
      simp only [cond_false,cond_true] at q1 q2 q3
      cases g1:decide (1024 < m.toNat)
      ·rw [g1] at q1 q2 q3
       cases g2:decide (r.length < m.toNat)
       ·rw [g2] at q1 q2 q3
        simp only [cond_false] at q2 q3
        simp only [decide_eq_false_iff_not] at g1 g2
        subst q2; subst q3
        have hl:(r.take m.toNat).length=m.toNat:=by rw [List.length_take]; omega
        refine ⟨rfl,?_,by simp,?_,by simp,by simp⟩
        ·unfold num; dsimp only; rw [hD,hl]
         simp only [cond_true]
         apply BitVec.eq_of_toNat_eq
         rw [BitVec.ofInt_natCast,BitVec.toNat_ofNat,Nat.mod_eq_of_lt m.isLt]
        ·unfold big; dsimp only; rw [hN,hl,show decide (1024 < m.toNat)=false from decide_eq_false g1]; rfl
       ·rw [g2] at q1; simp at q1
      ·rw [g1] at q1; simp at q1
    ·have hD:isD k=false:=by
      cases hD:isD k
      ·rfl
      ·rw [Vnh hD] at hN; cases hN
     rw [hN] at q1 q2 q3
     rw [hD]
     simp only [cond_true] at q1 q2 q3
     cases g1:decide (512 < m.toNat)
     ·rw [g1] at q1 q2 q3
      simp only [cond_false] at q2 q3
      subst q2; subst q3
      refine ⟨rfl,?_,by simp,?_,by simp,by simp⟩
      ·unfold num; dsimp only; rw [hD]; rfl
      ·unfold big; dsimp only; rw [hN,g1]; rfl
     ·rw [g1] at q1; simp at q1
   obtain ⟨m1,m2,m3,m4,m5,m6⟩:=main
   have hbk:=Vos hh
   have hbad:bad x=false:=by
    unfold bad
    rw [m1]
    rcases hbk with ⟨w1,w2,_⟩ | ⟨w1,w2,_⟩ | ⟨w1,w2,_⟩
    ·rw [show decide (k=8)=false from decide_eq_false (by omega),show decide (k=7)=false from decide_eq_false (by omega)]
     cases hD:isD k
     ·simp [(m6 hD).1]
     ·simp [m5 hD]
    ·subst w1
     have:=(m6 rfl)
     rw [this.1,this.2]
     simp [isD]; omega
    ·subst w1
     have:=(m6 rfl)
     rw [this.1,this.2,w2]
     rfl
   refine ⟨?_,?_⟩
   ·have eh:s=hdI x++r:=by
     unfold hdI
     rw [m1,m2]
     rcases hbk with ⟨w1,w2,w3⟩ | ⟨w1,w2,w3⟩ | ⟨w1,w2,w3⟩
     ·rw [show decide (k=7)=false from decide_eq_false (by omega),show decide (k=8)=false from decide_eq_false (by omega)]
      exact w3
     ·subst w1
      rw [w3,(m6 rfl).2]; rfl
     ·subst w1
      rw [w3]; rfl
    rw [eh,m3]
    unfold enc
    rw [List.append_assoc]
   ·unfold chk
    rw [m1,h2,hbad,m4,q4]
    rfl
  ·rw [show decide (adm (hdB s).2.1 n d key=0)=false from decide_eq_false h2] at h
   simp only [Bool.not_true,cond_false,Bool.not_false,cond_true,Prod.mk.injEq] at h
   exact absurd h.1 h2
 ·rw [show decide ((hdB s).1=0)=false from decide_eq_false h1] at h
  simp only [Bool.not_false,cond_true,Prod.mk.injEq] at h
  exact absurd h.1 h1
theorem Vge {σ:Type} (get:Nat→Nat→Bool→List UInt8→σ→Int×ApiItem×σ) (f:Nat) (S:List CborFrame) (n:Nat) (s:σ):(decide (0 < n)&&S.isEmpty)=true∧mach get (f+1) S n s=(0,[],s)∨(decide (0 < n)&&S.isEmpty)=false∧(get n S.length (atK S) (lst S) s).1≠0∧mach get (f+1) S n s=((get n S.length (atK S) (lst S) s).1,[],s)∨(decide (0 < n)&&S.isEmpty)=false∧∃ x t,get n S.length (atK S) (lst S) s=(0,x,t)∧mach get (f+1) S n s=((mach get f (nxt x S) (n+1) t).1,x::(mach get f (nxt x S) (n+1) t).2.1,(mach get f (nxt x S) (n+1) t).2.2):=by
 cases hS:(decide (0 < n)&&S.isEmpty)
 ·right
  by_cases hg:(get n S.length (atK S) (lst S) s).1=0
  ·right
   have e:get n S.length (atK S) (lst S) s=(0,(get n S.length (atK S) (lst S) s).2.1,(get n S.length (atK S) (lst S) s).2.2):=by rw [← hg]
   exact ⟨rfl,_,_,e,Vcp hS e⟩
  ·left
   refine ⟨rfl,hg,Vdm hS (x:=(get n S.length (atK S) (lst S) s).2.1) (t:=(get n S.length (atK S) (lst S) s).2.2) rfl hg⟩
 ·left
  refine ⟨rfl,?_⟩
  unfold mach
  rw [hS]; rfl
theorem Vls {n d:Nat} {key:Bool} {b:List UInt8} {l:List ApiItem} {x:ApiItem} {t:List ApiItem} (h:getL n d key b l=(0,x,t)):l=x::t∧chk x n d key b=0:=by
 cases l with
 | nil=>simp [getL] at h
 | cons y r=>
  simp only [getL,Prod.mk.injEq] at h
  obtain ⟨h1,rfl,rfl⟩:=h
  exact ⟨rfl,h1⟩
theorem Vlt (x:ApiItem) (l:List ApiItem):encA (x::l)=enc x++encA l:=by unfold encA; rw [List.flatMap_cons]
theorem Vru:∀ (f:Nat) (S:List CborFrame) (n:Nat) (l:List ApiItem) (o r:List ApiItem) (t:List UInt8),mach getL f S n l=(0,o,r)→mach getB f S n (encA o++t)=(0,o,t)
 | 0,S,n,l,o,r,t,h=>by simp [mach] at h
 | f+1,S,n,l,o,r,t,h=>by
  rcases Vge getL f S n l with ⟨h1,h2⟩ | ⟨h1,h2,h3⟩ | ⟨h1,x,u,h2,h3⟩
  ·rw [h2] at h
   simp only [Prod.mk.injEq,true_and] at h
   obtain ⟨rfl,rfl⟩:=h
   unfold mach
   rw [h1]; rfl
  ·rw [h3] at h
   simp only [Prod.mk.injEq] at h
   exact absurd h.1 h2
  ·rw [h3] at h
   simp only [Prod.mk.injEq] at h
   obtain ⟨g1,g2,g3⟩:=h
   obtain ⟨_,hc⟩:=Vls h2
   generalize hm:mach getL f (nxt x S) (n+1) u=m at g1 g2 g3
   obtain ⟨m1,m2,m3⟩:=m
   dsimp only at g1 g2 g3
   subst g1; subst g2; subst g3
   have ih:=Vru f (nxt x S) (n+1) u m2 m3 t hm
   rw [Vlt,List.append_assoc,Vcp h1 (Vxs hc _),ih]
def decO (b:List UInt8):List ApiItem×Int×Int:=bif decide ((mach getB 600 [] 0 b).1=0) then ((mach getB 600 [] 0 b).2.1,((b.length - (mach getB 600 [] 0 b).2.2.length:Nat):Int),0) else ([],0,(mach getB 600 [] 0 b).1)
theorem Vxt {o:List ApiItem} (h:valO o=0) (t:List UInt8):decO (encA o++t)=(o,((encA o).length:Int),0):=by
 have:=Vru 600 [] 0 o o [] t (Vee h).1
 unfold decO
 rw [this]
 simp
theorem Vlu {σ τ ρ ρ':Type} {f:σ→Option (σ⊕ρ)} {f':τ→Option (τ⊕ρ')} {e:σ→τ} {g:ρ→ρ'} (h:∀ s,f' (e s)=(f s).map (Sum.map e g)):∀ n s,iter f' n (e s)=(iter f n s).map g
 | 0,s=>rfl
 | n+1,s=>by
  rw [Vae,Vae,h s]
  cases hs:f s with
  | none=>rfl
  | some z=>
   cases z with
   | inl q=>exact Vlu h n q
   | inr r=>rfl
theorem Vef {α β γ δ:Type} {X:Option α} {X':Option β} {e:α→β} {F:α→Option γ} {F':β→Option δ} {g:γ→δ} (h1:X'=X.map e) (h2:∀ y,F' (e y)=(F y).map g):X'.bind F'=(X.bind F).map g:=by
 rw [h1]
 cases X with
 | none=>rfl
 | some y=>exact h2 y
theorem Vap {α γ δ:Type} {X:Option α} {F:α→Option γ} {F':α→Option δ} {g:γ→δ} (h2:∀ y,F' y=(F y).map g):X.bind F'=(X.bind F).map g:=by
 cases X with
 | none=>rfl
 | some y=>exact h2 y
theorem Val {γ δ:Type} {c:Bool} {a b:Option γ} {a' b':Option δ} {g:γ→δ} (h1:a'=a.map g) (h2:b'=b.map g):(bif c then a' else b')=(bif c then a else b).map g:=by
 cases c
 ·exact h2
 ·exact h1
abbrev Wk:=List CborFrame×Int×Unit
abbrev Rd:=List CborFrame×Int×List UInt8×Int×Unit
def rdo (bs:List UInt8) (at0:Int) (w:Wk):Rd:=(w.1,w.2.1,bs,at0,())
theorem Vp8 (bs:List UInt8) (at0:Int) (y:Wk×Int×Unit):Zcb_L0 (rdo bs at0 y.1,y.2.1,())=(Zcu_L0 y).map fun z=>(rdo bs at0 z.1,()):=by
 unfold Zcb_L0 Zcu_L0
 refine Vlu (e:=fun y:Wk×Int×Unit=>((rdo bs at0 y.1,y.2.1,()):Rd×Int×Unit)) (g:=fun z:Wk×Unit=>((rdo bs at0 z.1,()):Rd×Unit)) (fun s=>?_) _ y
 dsimp only
 unfold Zcb_L0b Zcu_L0b rdo
 dsimp only
 refine Val (Val (Vap fun x=>Val (Val (Val rfl rfl) rfl) rfl) rfl) rfl
theorem Vrv (bs:List UInt8) (at0:Int) (w:Wk) (x:ApiItem):Zcb (rdo bs at0 w) x=(Zcu w x).map fun r=>((rdo bs at0 r.1.1,()),()):=by
 unfold Zcb Zcu
 refine Vef (e:=fun j:Wk×(ApiItem×Unit)×Unit=>((rdo bs at0 j.1,j.2.1,()):Rd×(ApiItem×Unit)×Unit)) ?_ fun y=>?_
 ·exact Val (Val (Vap fun x=>Val (Vap fun y=>rfl) rfl) rfl) rfl
 ·refine Vef (e:=fun j:Wk×(ApiItem×Unit)×Unit=>((rdo bs at0 j.1,j.2.1,()):Rd×(ApiItem×Unit)×Unit)) ?_ fun y=>?_
  ·exact Val (Val (Val rfl rfl) rfl) rfl
  ·refine Vef (e:=fun j:Wk×Unit=>((rdo bs at0 j.1,()):Rd×Unit)) ?_ fun y=>?_
   ·exact Val (Val (Val rfl rfl) rfl) rfl
   ·refine Vef (e:=fun j:Wk×Unit=>((rdo bs at0 j.1,()):Rd×Unit)) (Vp8 bs at0 (y.1,(y.1.1.length:Int),())) fun z=>rfl
theorem Vni (bs:List UInt8) (at0:Int) (w:Wk) (x:ApiItem):Zbf (rdo bs at0 w) x=(Zca w x).map fun r=>((rdo bs at0 r.1.1,()),r.2):=by
 have K:∀ w:Wk,(Zcb (rdo bs at0 w) x).bind (fun r13=>some (((r13.1.1.1,r13.1.1.2.1,r13.1.1.2.2.1,r13.1.1.2.2.2.1,()),()),((0:Int),())))=((Zcu w x).bind (fun r25=>some (((r25.1.1.1,r25.1.1.2.1,()),()),((0:Int),())))).map fun (r:(Wk×Unit)×(Int×Unit))=>(((rdo bs at0 r.1.1,()),r.2):(Rd×Unit)×(Int×Unit)):=fun w=>
  Vef (Vrv bs at0 w x) fun z=>rfl
 unfold Zbf Zca
 refine Val (Vap fun r=>Val rfl (Vap fun r2=>Val (Val (Vap fun r3=>Vap fun x4=>Val (Vap fun x5=>Vap fun r6=>Val rfl (Vap fun x7=>Val rfl (K (_,_,())))) (Vap fun x10=>Val rfl (K (_,_,())))) rfl) (K (_,_,())))) (Vap fun r2=>Val (Val (Vap fun r3=>Vap fun x4=>Val (Vap fun x5=>Vap fun r6=>Val rfl (Vap fun x7=>Val rfl (K (_,_,())))) (Vap fun x10=>Val rfl (K (_,_,())))) rfl) (K (_,_,())))
theorem Vp9 (bs:List UInt8) (at0:Int) (S:List CborFrame) (n:Nat) (x:ApiItem) (hk:kin x) (hd:x.data.length < 100000) (hl:S.length < 100000) (hn:n < 1000000) (hw:∀ f∈S,-10≤f.left∧f.left≤2000) (hx:isN x.kind=true→x.number.toNat≤512) :
  Zbf (S.reverse,(n:Int),bs,at0,()) x=some (bif decide (acc x (atK S) (lst S)=0) then ((((nxt x S).reverse,((n+1:Nat):Int),bs,at0,()),()),(0,())) else (((S.reverse,(n:Int),bs,at0,()),()),(acc x (atK S) (lst S),()))):=by
 have:=Vni bs at0 (S.reverse,(n:Int),()) x
 rw [Vfq S n x hk hd hl hn hw hx] at this
 refine Eq.trans this ?_
 unfold res
 by_cases h:acc x (atK S) (lst S)=0
 ·rw [h]; rfl
 ·rw [show decide (acc x (atK S) (lst S)=0)=false from decide_eq_false h]; rfl
theorem Vxu (n:BitVec 64):Zdq n=some ((),(sho n:Int),()):=by
 unfold Zdq sho
 rw [show (24#64).toNat=24 from rfl,show (256#64).toNat=256 from rfl,show (65536#64).toNat=65536 from rfl,show (4294967296#64).toNat=4294967296 from rfl]
 cases decide (n.toNat < 24)<;>cases decide (n.toNat < 256)<;>cases decide (n.toNat < 65536)<;>cases decide (n.toNat < 4294967296)<;>rfl
theorem Vdo {α:Type} {l:List α} {i:Nat} {x:α} (h:l[i]? = some x):getI l (i:Int)=some x:=by unfold getI; simp [h]
theorem headL (st:Rd) (k:Int) (sz:Int) (l:List UInt8) (hl:l.length < 1000):Zby_L1 (st,k,0#64,sz,l,(l.length:Int),0,())=some ((st.1,st.2.1,st.2.2.1,st.2.2.2.1,()),k,bev 0#64 l,sz,()):=by
 have key:∀ (r:List UInt8) (j f:Nat) (v:BitVec 64),l.drop j=r→j≤l.length→r.length < f→iter (fun (y:(Rd×Int×(BitVec 64)×Int×(List (UInt8))×Int×Int×Unit))=>Zby_L1b y.1 y.2.1 y.2.2.1 y.2.2.2.1 y.2.2.2.2.1 y.2.2.2.2.2.1 y.2.2.2.2.2.2.1) f (st,k,v,sz,l,(l.length:Int),(j:Int),())=some ((st.1,st.2.1,st.2.2.1,st.2.2.2.1,()),k,bev v r,sz,()):=by
  intro r
  induction r with
  | nil=>
   intro j f v hr hj hf
   obtain ⟨f,rfl⟩:∃ g,f=g+1:=⟨f - 1,by omega⟩
   have hjl:j=l.length:=by
    have:=congrArg List.length hr
    simp at this
    omega
   rw [Vae]
   dsimp only
   unfold Zby_L1b
   rw [show decide ((j:Int) < (l.length:Int))=false from decide_eq_false (by omega)]
   rfl
  | cons c r ih=>
   intro j f v hr hj hf
   obtain ⟨f,rfl⟩:∃ g,f=g+1:=⟨f - 1,by omega⟩
   have hjl:j < l.length:=by
    have:=congrArg List.length hr
    simp at this
    omega
   have hx:l[j]? = some c:=by
    have:=congrArg (·[0]?) hr
    simpa using this
   have hr2:l.drop (j+1)=r:=by
    have:=congrArg (List.drop 1) hr
    simpa [List.drop_drop] using this
   rw [Vae]
   dsimp only
   unfold Zby_L1b
   rw [show decide ((j:Int) < (l.length:Int))=true from decide_eq_true (by omega),Vdo hx,Vad (n:=(j:Int)+1) (by omega) (by omega)]
   simp only [cond_true,bindS,Sum.elim_inl]
   exact ih (j+1) f _ hr2 (by omega) (by simp at hf; omega)
 unfold Zby_L1
 exact key l 0 rounds 0#64 rfl (by omega) (by rw [Vam]; omega)
theorem u8lt (a:UInt8) (n:UInt8):decide (a.toBitVec.toNat < n.toBitVec.toNat)=decide (a.toNat < n.toNat):=rfl
theorem Vbfa:∀ c:Fin 256,(UInt8.ofBitVec ((UInt8.ofNat c.val).toBitVec >>> 5)).toNat=c.val / 32∧(UInt8.ofBitVec ((UInt8.ofNat c.val).toBitVec &&& (31:UInt8).toBitVec)).toNat=c.val % 32:=by decide +kernel
theorem Veya (c:UInt8):(UInt8.ofBitVec (c.toBitVec >>> 5)).toNat=c.toNat / 32∧(UInt8.ofBitVec (c.toBitVec &&& (31:UInt8).toBitVec)).toNat=c.toNat % 32:=by
 have:=Vbfa ⟨c.toNat,c.toNat_lt⟩
 dsimp only at this
 rwa [UInt8.ofNat_toNat] at this
theorem Vbga:∀ j:Fin 4,(UInt8.ofBitVec ((UInt8.ofNat (24+j.val)).toBitVec - (24:UInt8).toBitVec)).toNat=j.val:=by decide +kernel
theorem Veza {v:UInt8} (h1:24≤v.toNat) (h2:v.toNat≤27):(UInt8.ofBitVec (v.toBitVec - (24:UInt8).toBitVec)).toNat=v.toNat - 24:=by
 have:=Vbga ⟨v.toNat - 24,by omega⟩
 dsimp only at this
 rw [show 24+(v.toNat - 24)=v.toNat by omega,UInt8.ofNat_toNat] at this
 exact this
theorem setw (v:UInt8):BitVec.setWidth 64 v.toBitVec=BitVec.ofNat 64 v.toNat:=by
 apply BitVec.eq_of_toNat_eq
 have:=v.toNat_lt
 rw [BitVec.toNat_setWidth,BitVec.toNat_ofNat]
 rfl
theorem Ve0a (a b:UInt8):decide (a.toBitVec=b.toBitVec)=decide (a=b):=by
 rw [decide_eq_decide]
 exact ⟨fun h=>UInt8.toBitVec_inj.1 h,fun h=>by rw [h]⟩
theorem Vcq {α:Type} {l:List α} {j:Nat} {c:α} {r:List α} (h:l.drop j=c::r):l[j]? = some c∧l.drop (j+1)=r∧j < l.length∧l.length=j+1+r.length:=by
 refine ⟨?_,?_,?_,?_⟩
 ·have:=congrArg (·[0]?) h
  simpa using this
 ·have:=congrArg (List.drop 1) h
  simpa [List.drop_drop] using this
 ·have:=congrArg List.length h
  simp at this
  omega
 ·have:=congrArg List.length h
  simp at this
  omega
theorem Vbha {z:Nat} (h:z≤3):1≤2 ^ z∧2 ^ z≤8:=⟨Nat.one_le_two_pow,Nat.le_trans (Nat.pow_le_pow_right (by omega) h) (by omega)⟩
theorem Vbia {z:Nat} (h:z≤3):IntKind.wrap .i64 ((1:Int) * 2 ^ (min z (IntKind.bits .i64)))=((2 ^ z:Nat):Int):=by
 have hz:z=0∨z=1∨z=2∨z=3:=by omega
 rcases hz with rfl | rfl | rfl | rfl<;>decide
theorem Vbja (o:List CborFrame) (n:Int) (bs:List UInt8) (at0:Nat) (hat:at0≤bs.length) (hbs:bs.length < 1000000) :
  ∃ at1:Nat,at1≤bs.length∧Zby (o,n,bs,(at0:Int),())=some (((o,n,bs,(at1:Int),()),()),((hdB (bs.drop at0)).2.1,(hdB (bs.drop at0)).2.2.1,(hdB (bs.drop at0)).1,()))∧((hdB (bs.drop at0)).1=0→bs.drop at1=(hdB (bs.drop at0)).2.2.2):=by
 unfold Zby
 dsimp only
 cases hs:bs.drop at0 with
 | nil=>
  have:=congrArg List.length hs
  simp at this
  rw [show decide ((bs.length:Int)≤(at0:Int))=true from decide_eq_true (by omega)]
  exact ⟨at0,hat,rfl,fun h=>by simp [hdB] at h⟩
 | cons c r=>
  obtain ⟨d1,d2,d3,d4⟩:=Vcq hs
  rw [show decide ((bs.length:Int)≤(at0:Int))=false from decide_eq_false (by omega),Vdo d1]
  simp only [cond_false,bindS,Ve0a]
  rw [Vad (n:=(at0:Int)+1) (by omega) (by omega),show (at0:Int)+1=((at0+1:Nat):Int) from rfl]
  obtain ⟨m1,m2⟩:=Veya c
  simp only [hdB]
  by_cases hB:isB c=true
  ·rw [hB]
   have hb:=hB
   unfold isB at hb
   simp only [Bool.or_eq_true,decide_eq_true_eq] at hb
   rcases hb with rfl | rfl
   ·exact ⟨at0+1,by omega,rfl,fun _=>d2⟩
   ·exact ⟨at0+1,by omega,rfl,fun _=>d2⟩
  ·have hB':isB c=false:=by cases h:isB c; rfl; exact absurd h hB
   have hb:=hB'
   unfold isB at hb
   simp only [Bool.or_eq_false_iff,decide_eq_false_iff_not] at hb
   rw [hB',show decide (c=244)=false from decide_eq_false hb.1,show decide (c=245)=false from decide_eq_false hb.2]
   by_cases h6:c=246
   ·rw [show decide (c=246)=true from decide_eq_true h6]
    exact ⟨at0+1,by omega,rfl,fun _=>d2⟩
   ·rw [show decide (c=246)=false from decide_eq_false h6]
    simp only [cond_false,bindS,Sum.elim_inl]
    rw [u8lt,u8lt,u8lt,m1,m2,show (5:UInt8).toNat=5 from rfl,show (27:UInt8).toNat=27 from rfl,show (24:UInt8).toNat=24 from rfl]
    by_cases q1:5 < c.toNat / 32
    ·rw [show decide (5 < c.toNat / 32)=true from decide_eq_true q1]
     exact ⟨at0+1,by omega,rfl,fun h=>by simp at h⟩
    ·rw [show decide (5 < c.toNat / 32)=false from decide_eq_false q1]
     by_cases q2:27 < c.toNat % 32
     ·rw [show decide (27 < c.toNat % 32)=true from decide_eq_true q2]
      exact ⟨at0+1,by omega,rfl,fun h=>by simp at h⟩
     ·rw [show decide (27 < c.toNat % 32)=false from decide_eq_false q2]
      simp only [cond_false,Bool.or_self]
      have ek:IntKind.wrap .i64 ((1:Int)+((UInt8.ofBitVec (c.toBitVec >>> 5)).toBitVec.toNat:Int))=((c.toNat / 32:Nat):Int)+1:=by
       rw [show ((UInt8.ofBitVec (c.toBitVec >>> 5)).toBitVec.toNat:Int)=((c.toNat / 32:Nat):Int) by rw [← m1]; rfl,Vad (by omega) (by omega)]
       omega
      rw [ek]
      by_cases q3:c.toNat % 32 < 24
      ·rw [show decide (c.toNat % 32 < 24)=true from decide_eq_true q3,setw,m2]
       exact ⟨at0+1,by omega,rfl,fun _=>d2⟩
      ·rw [show decide (c.toNat % 32 < 24)=false from decide_eq_false q3,Veza (by omega) (by omega),m2]
       generalize hz:c.toNat % 32 - 24=z
       have hz3:z≤3:=by omega
       obtain ⟨p1,p8⟩:=Vbha hz3
       rw [Vbia hz3,Vad (n:=(bs.length:Int) - ((at0+1:Nat):Int)) (by omega) (by omega)]
       simp only [cond_false]
       by_cases q4:r.length < 2 ^ z
       ·rw [show decide ((bs.length:Int) - ((at0+1:Nat):Int) < ((2 ^ z:Nat):Int))=true from decide_eq_true (by omega),show decide (r.length < 2 ^ z)=true from decide_eq_true q4]
        exact ⟨at0+1,by omega,rfl,fun h=>by simp at h⟩
       ·rw [show decide ((bs.length:Int) - ((at0+1:Nat):Int) < ((2 ^ z:Nat):Int))=false from decide_eq_false (by omega),show decide (r.length < 2 ^ z)=false from decide_eq_false q4,Vad (n:=((at0+1:Nat):Int)+((2 ^ z:Nat):Int)) (by omega) (by omega),show (((at0+1:Nat):Int)+((2 ^ z:Nat):Int))=((at0+1+2 ^ z:Nat):Int) from rfl]
        simp only [cond_false,Int.toNat_natCast]
        rw [show (decide ((0:Int)≤((at0+1+2 ^ z:Nat):Int))&&decide (((at0+1+2 ^ z:Nat):Int)≤(bs.length:Int)))=true by (rw [Bool.and_eq_true,decide_eq_true_eq,decide_eq_true_eq]; exact ⟨by omega,by omega⟩),show (decide ((0:Int)≤((at0+1:Nat):Int))&&decide (((at0+1:Nat):Int)≤((at0+1+2 ^ z:Nat):Int)))=true by (rw [Bool.and_eq_true,decide_eq_true_eq,decide_eq_true_eq]; exact ⟨by omega,by omega⟩)]
        simp only [cond_true]
        have hv:List.drop (at0+1) (List.take (at0+1+2 ^ z) bs)=r.take (2 ^ z):=by
         rw [List.drop_take,d2,show at0+1+2 ^ z - (at0+1)=2 ^ z by omega]
        have hvl:(r.take (2 ^ z)).length=2 ^ z:=by rw [List.length_take]; omega
        rw [hv,headL _ _ _ _ (by omega)]
        simp only [bindS,Vxu]
        rw [Vad (n:=((at0+1:Nat):Int)+((2 ^ z:Nat):Int)) (by omega) (by omega),show (((at0+1:Nat):Int)+((2 ^ z:Nat):Int))=((at0+1+2 ^ z:Nat):Int) from rfl,show decide ((sho (bev 0#64 (r.take (2 ^ z))):Int) < ((2 ^ z:Nat):Int))=decide (sho (bev 0#64 (r.take (2 ^ z))) < 2 ^ z) by rw [decide_eq_decide]; omega]
        refine ⟨at0+1+2 ^ z,by omega,?_,?_⟩
        ·cases decide (sho (bev 0#64 (r.take (2 ^ z))) < 2 ^ z)<;>rfl
        ·cases decide (sho (bev 0#64 (r.take (2 ^ z))) < 2 ^ z)
         ·intro _
          show bs.drop (at0+1+2 ^ z)=r.drop (2 ^ z)
          rw [← d2,List.drop_drop]
         ·intro h; simp at h
def RdOut (S:List CborFrame) (n:Nat) (bs:List UInt8) (g:Int×ApiItem×List UInt8) (z:Option ((Rd×Unit)×(ApiItem×Int×Unit))):Prop:=
 ∃ at1:Nat,at1≤bs.length∧(g.1=0→bs.drop at1=g.2.2∧z=some ((((nxt g.2.1 S).reverse,((n+1:Nat):Int),bs,(at1:Int),()),()),(g.2.1,0,())))∧(g.1≠0→∃ st y,z=some (st,(y,g.1,())))
theorem Vcr {S:List CborFrame} {n:Nat} {bs:List UInt8} {e:Int} {x:ApiItem} {t:List UInt8} {st:Rd×Unit} {y:ApiItem} (he:e≠0):RdOut S n bs (e,x,t) (some (st,(y,e,()))):=
 ⟨0,by omega,fun h=>absurd h he,fun _=>⟨_,_,rfl⟩⟩
def tailR (st:Rd) (x:ApiItem):Option ((Rd × Unit) × (ApiItem × Int × Unit)):=
  (Zbf (st.1,st.2.1,st.2.2.1,st.2.2.2.1,()) x).bind fun r20=>(bif (!decide (r20.2.1=(0:Int))) then (some (((r20.1.1.1,r20.1.1.2.1,r20.1.1.2.2.1,r20.1.1.2.2.2.1,()),()),((⟨(0:Int),0#64,([]:List UInt8)⟩:ApiItem),r20.2.1,())))
 else (some (((r20.1.1.1,r20.1.1.2.1,r20.1.1.2.2.1,r20.1.1.2.2.2.1,()),()),(x,(0:Int),()))))
theorem Vnj {S:List CborFrame} {n:Nat} {bs:List UInt8} {at1:Nat} {x:ApiItem} {t:List UInt8} (hS:WS S) (hn:n≤512) (hat:at1≤bs.length) (ht:bs.drop at1=t) (hk:kin x) (hd:x.data.length≤1024) (hx:isN x.kind=true→x.number.toNat≤512) :
  RdOut S n bs (accB (atK S) (lst S) (0,x,t)) (tailR (S.reverse,(n:Int),bs,(at1:Int),()) x):=by
 unfold tailR
 dsimp only
 rw [Vp9 bs (at1:Int) S n x hk (by omega) (by have:=hS.2.2; omega) (by omega) (fun f hf=>by have:=hS.1 f hf; omega) hx]
 simp only [bindS,accB,decide_true,cond_true]
 by_cases h:acc x (atK S) (lst S)=0
 ·rw [h]
  exact ⟨at1,hat,fun _=>⟨ht,rfl⟩,fun h=>absurd rfl h⟩
 ·rw [show decide (acc x (atK S) (lst S)=0)=false from decide_eq_false h]
  simp only [cond_false]
  rw [show decide (acc x (atK S) (lst S)=0)=false from decide_eq_false h]
  exact Vcr h
theorem Ve1a (k:Int):k=5∨k=3∨k=6∨k=4∨(¬ k=5∧¬ k=3∧¬ k=6∧¬ k=4):=by omega
def datR (S:List CborFrame) (n:Int) (bs:List UInt8) (at1:Nat) (k:Int) (m:BitVec 64):Option ((Rd × Unit) × (ApiItem × Int × Unit)):=
  (bif decide ((1024#64).toNat < m.toNat) then some (((S.reverse,n,bs,(at1:Int),()),()),((⟨(0:Int),0#64,([]:List UInt8)⟩:ApiItem),(8:Int),()))
  else bif decide (IntKind.wrap .i64 ((bs.length:Int) - (at1:Int)) < IntKind.wrap .i64 (m.toNat:Int)) then some (((S.reverse,n,bs,(at1:Int),()),()),((⟨(0:Int),0#64,([]:List UInt8)⟩:ApiItem),(1:Int),()))
  else bif (decide ((0:Int) ≤ IntKind.wrap .i64 ((at1:Int) + IntKind.wrap .i64 (m.toNat:Int))) && decide (IntKind.wrap .i64 ((at1:Int) + IntKind.wrap .i64 (m.toNat:Int)) ≤ (bs.length:Int))) then
    (bif (decide ((0:Int) ≤ (at1:Int)) && decide ((at1:Int) ≤ ((IntKind.wrap .i64 ((at1:Int) + IntKind.wrap .i64 (m.toNat:Int))).toNat:Int))) then
      tailR (S.reverse,n,bs,IntKind.wrap .i64 ((at1:Int) + IntKind.wrap .i64 (m.toNat:Int)),()) ⟨k,0#64,List.drop ((at1:Int)).toNat (List.take (IntKind.wrap .i64 ((at1:Int) + IntKind.wrap .i64 (m.toNat:Int))).toNat bs)⟩
     else none)
  else none)
theorem Vzm {S:List CborFrame} {n:Nat} {bs:List UInt8} {at1:Nat} {k:Int} {m:BitVec 64} {t:List UInt8} (hS:WS S) (hn:n≤512) (hbs:bs.length < 1000000) (hat:at1≤bs.length) (ht:bs.drop at1=t) (hk:k=3∨k=4) :
  RdOut S n bs (accB (atK S) (lst S) (bodB k m t)) (datR S n bs at1 k m):=by
 have hD:isD k=true:=by rcases hk with rfl | rfl<;>rfl
 have hN:=Vnh hD
 have htl:=congrArg List.length ht
 rw [List.length_drop] at htl
 unfold datR bodB
 rw [hN,hD,show (1024#64).toNat=1024 from rfl]
 simp only [cond_true,cond_false]
 by_cases h1:1024 < m.toNat
 ·rw [show decide (1024 < m.toNat)=true from decide_eq_true h1]
  exact Vcr (by decide)
 ·rw [show decide (1024 < m.toNat)=false from decide_eq_false h1,Vad (n:=(m.toNat:Int)) (by omega) (by omega),Vad (n:=(bs.length:Int) - (at1:Int)) (by omega) (by omega)]
  simp only [cond_false]
  by_cases h2:t.length < m.toNat
  ·rw [show decide (t.length < m.toNat)=true from decide_eq_true h2,show decide ((bs.length:Int) - (at1:Int) < (m.toNat:Int))=true from decide_eq_true (by omega)]
   exact Vcr (by decide)
  ·rw [show decide (t.length < m.toNat)=false from decide_eq_false h2,show decide ((bs.length:Int) - (at1:Int) < (m.toNat:Int))=false from decide_eq_false (by omega),Vad (n:=(at1:Int)+(m.toNat:Int)) (by omega) (by omega),show ((at1:Int)+(m.toNat:Int))=((at1+m.toNat:Nat):Int) from rfl]
   simp only [cond_false,Int.toNat_natCast]
   rw [show (decide ((0:Int)≤((at1+m.toNat:Nat):Int))&&decide (((at1+m.toNat:Nat):Int)≤(bs.length:Int)))=true by (rw [Bool.and_eq_true,decide_eq_true_eq,decide_eq_true_eq]; exact ⟨by omega,by omega⟩),show (decide ((0:Int)≤(at1:Int))&&decide ((at1:Int)≤((at1+m.toNat:Nat):Int)))=true by (rw [Bool.and_eq_true,decide_eq_true_eq,decide_eq_true_eq]; exact ⟨by omega,by omega⟩)]
   simp only [cond_true]
   have hv:List.drop at1 (List.take (at1+m.toNat) bs)=t.take m.toNat:=by
    rw [List.drop_take,ht,show at1+m.toNat - at1=m.toNat by omega]
   rw [hv]
   refine Vnj hS hn (by omega) (by rw [← ht,List.drop_drop]) ?_ ?_ ?_
   ·refine ⟨?_,?_,?_⟩
    ·dsimp only; omega
    ·dsimp only; omega
    ·intro h; dsimp only at h; rw [hD] at h; cases h
   ·dsimp only; rw [List.length_take]; omega
   ·intro h; dsimp only at h; rw [hN] at h; cases h
theorem Vxv (S:List CborFrame) (n:Nat) (bs:List UInt8) (at0:Nat) (hS:WS S) (hn:n≤512) (hbs:bs.length < 1000000) (hat:at0≤bs.length) :
  RdOut S n bs (getB n S.length (atK S) (lst S) (bs.drop at0)) (Zbz (S.reverse,(n:Int),bs,(at0:Int),())):=by
 obtain ⟨at1,h1,h2,h3⟩:=Vbja S.reverse (n:Int) bs at0 hat hbs
 generalize bs.drop at0=s at h2 h3 ⊢
 unfold Zbz getB
 dsimp only
 rw [h2]
 simp only [bindS]
 have hB:=fun k m t=>Vos (s:=s) (k:=k) (n:=m) (t:=t)
 generalize hdB s=q at h3 hB ⊢
 obtain ⟨e,k,m,t⟩:=q
 dsimp only at h3 hB ⊢
 by_cases he:e=0
 ·subst he
  have ht:=h3 rfl
  have hbk:=hB k m t rfl
  simp only [decide_true,Bool.not_true,cond_false]
  rw [Vop S n k (by have:=hS.2.2; omega)]
  simp only [bindS]
  by_cases ha:adm k n S.length (atK S)=0
  ·rw [show decide (adm k n S.length (atK S)=0)=true from decide_eq_true ha]
   simp only [Bool.not_true,cond_false]
   obtain ⟨a1,a2,a3,a4,a5⟩:=Vcj ha
   have hnum:isN k=true→¬ 512 < m.toNat→RdOut S n bs (accB (atK S) (lst S) (bodB k m t)) (tailR (S.reverse,(n:Int),bs,(at1:Int),()) ⟨k,m,[]⟩):=by
    intro hN hm
    have:bodB k m t=(0,⟨k,m,[]⟩,t):=by
     unfold bodB
     rw [hN,show decide (512 < m.toNat)=false from decide_eq_false hm]; rfl
    rw [this]
    exact Vnj hS hn h1 ht ⟨a2,a3,fun _=>rfl⟩ (by simp) (fun _=>by dsimp only; omega)
   have hbig:isN k=true→512 < m.toNat→bodB k m t=(8,default,[]):=by
    intro hN hm
    unfold bodB
    rw [hN,show decide (512 < m.toNat)=true from decide_eq_true hm]; rfl
   rcases Ve1a k with rfl | rfl | rfl | rfl | ⟨g1,g2,g3,g4⟩
   ·simp only [decide_true,cond_true,show (512#64).toNat=512 from rfl]
    by_cases hm:512 < m.toNat
    ·rw [show decide (512 < m.toNat)=true from decide_eq_true hm,hbig rfl hm]
     exact Vcr (by decide)
    ·rw [show decide (512 < m.toNat)=false from decide_eq_false hm]
     exact hnum rfl hm
   ·have:=Vzm (m:=m) hS hn hbs h1 ht (.inl rfl)
    refine Eq.mp (congrArg (RdOut S n bs _) ?_) this
    unfold datR
    simp only [Int.reduceEq,decide_true,decide_false,cond_true,cond_false]
    cases decide ((1024#64).toNat < m.toNat)
    ·simp only [cond_false]
     generalize decide (IntKind.wrap .i64 ((bs.length:Int) - (at1:Int)) < IntKind.wrap .i64 (m.toNat:Int))=c1
     cases c1
     ·simp only [cond_false]
      generalize (decide ((0:Int)≤IntKind.wrap .i64 ((at1:Int)+IntKind.wrap .i64 (m.toNat:Int)))&&decide (IntKind.wrap .i64 ((at1:Int)+IntKind.wrap .i64 (m.toNat:Int))≤(bs.length:Int)))=c2
      cases c2
      ·rfl
      ·simp only [cond_true]
       generalize (decide ((0:Int)≤(at1:Int))&&decide ((at1:Int)≤((IntKind.wrap .i64 ((at1:Int)+IntKind.wrap .i64 (m.toNat:Int))).toNat:Int)))=c3
       cases c3<;>rfl
     ·rfl
    ·rfl
   ·simp only [Int.reduceEq,decide_true,decide_false,cond_true,cond_false,show (512#64).toNat=512 from rfl]
    by_cases hm:512 < m.toNat
    ·rw [show decide (512 < m.toNat)=true from decide_eq_true hm,hbig rfl hm]
     exact Vcr (by decide)
    ·rw [show decide (512 < m.toNat)=false from decide_eq_false hm]
     exact hnum rfl hm
   ·have:=Vzm (m:=m) hS hn hbs h1 ht (.inr rfl)
    refine Eq.mp (congrArg (RdOut S n bs _) ?_) this
    unfold datR
    simp only [Int.reduceEq,decide_true,decide_false,cond_true,cond_false]
    cases decide ((1024#64).toNat < m.toNat)
    ·simp only [cond_false]
     generalize decide (IntKind.wrap .i64 ((bs.length:Int) - (at1:Int)) < IntKind.wrap .i64 (m.toNat:Int))=c1
     cases c1
     ·simp only [cond_false]
      generalize (decide ((0:Int)≤IntKind.wrap .i64 ((at1:Int)+IntKind.wrap .i64 (m.toNat:Int)))&&decide (IntKind.wrap .i64 ((at1:Int)+IntKind.wrap .i64 (m.toNat:Int))≤(bs.length:Int)))=c2
      cases c2
      ·rfl
      ·simp only [cond_true]
       generalize (decide ((0:Int)≤(at1:Int))&&decide ((at1:Int)≤((IntKind.wrap .i64 ((at1:Int)+IntKind.wrap .i64 (m.toNat:Int))).toNat:Int)))=c3
       cases c3<;>rfl
     ·rfl
    ·rfl
   ·simp only [g1,g2,g3,g4,decide_false,cond_false,bindS,Sum.elim_inl]
    have:bodB k m t=(0,⟨k,m,[]⟩,t):=by
     unfold bodB isN isD
     simp [g1,g2,g3,g4]
    rw [this]
    have hN:isN k=false:=by unfold isN; simp [g1,g3]
    exact Vnj hS hn h1 ht ⟨a2,a3,fun _=>rfl⟩ (by simp) (fun h=>by dsimp only at h; rw [hN] at h; cases h)
  ·rw [show decide (adm k n S.length (atK S)=0)=false from decide_eq_false ha]
   exact Vcr ha
 ·rw [show decide (e=0)=false from decide_eq_false he]
  exact Vcr he
theorem Vqa {n d:Nat} {key:Bool} {b s:List UInt8} {x:ApiItem} {t:List UInt8} (h:getB n d key b s=(0,x,t)):chk x n d key b=0:=(Vrt h).2
theorem Vrw (bs:List UInt8) (hbs:bs.length < 1000000):Zdi bs=some ((),(decO bs).1,(decO bs).2.1,(decO bs).2.2,()):=by
 have key:∀ (fuel:Nat) (S:List CborFrame) (n:Nat) (out:List ApiItem) (at0 f:Nat),WS S→n≤512→out.length=n→at0≤bs.length→600≤fuel+n→fuel≤f →
   (iter (fun (y:(List (ApiItem))×Rd×Unit)=>Zdi_L0b y.1 y.2.1) f (out,(S.reverse,(n:Int),bs,(at0:Int),()),())).bind (Sum.elim (fun (z3:((List (ApiItem))×Int×Int×Unit))=>(some ((),(z3.1,z3.2.1,z3.2.2.1,())):Option (Unit×(List ApiItem×Int×Int×Unit)))) (fun (z4:((List (ApiItem))×Rd×Unit))=>(some ((),(z4.1,z4.2.1.2.2.2.1,(0:Int),())))))=some ((),(bif decide ((mach getB fuel S n (bs.drop at0)).1=0) then (out++(mach getB fuel S n (bs.drop at0)).2.1,((bs.length - (mach getB fuel S n (bs.drop at0)).2.2.length:Nat):Int),(0:Int),()) else ([],(0:Int),(mach getB fuel S n (bs.drop at0)).1,()))):=by
  intro fuel
  induction fuel with
  | zero=>intro S n out at0 f hS hn ho hat h6; omega
  | succ fuel ih=>
   intro S n out at0 f hS hn ho hat h6 hf
   obtain ⟨f,rfl⟩:∃ g,f=g+1:=⟨f - 1,by omega⟩
   rw [Vae]
   have hit:=Vxv S n bs at0 hS hn hbs hat
   have e1:Zdi_L0b out (S.reverse,(n:Int),bs,(at0:Int),())=bif decide (0 < n)&&S.isEmpty then some (Sum.inr (Sum.inr (out,(S.reverse,(n:Int),bs,(at0:Int),()),()))) else (Zbz (S.reverse,(n:Int),bs,(at0:Int),())).bind fun r2=>(bif (!decide (r2.2.2.1=(0:Int))) then (some (Sum.inr (Sum.inl ([],(0:Int),r2.2.2.1,())))) else (bif small ((out).length+(([r2.2.1]:List (ApiItem)):List (ApiItem)).length) 32 then (some (Sum.inl ((out++([r2.2.1]:List (ApiItem))),(r2.1.1.1,r2.1.1.2.1,r2.1.1.2.2.1,r2.1.1.2.2.2.1,()),()))) else none)):=by
    unfold Zdi_L0b
    dsimp only
    rw [Vnd]
    simp only [bindS]
    cases (decide (0 < n)&&S.isEmpty)<;>rfl
   dsimp only
   rw [e1]
   rcases Vge getB fuel S n (bs.drop at0) with ⟨h1,h2⟩ | ⟨h1,h2,h3⟩ | ⟨h1,x,t,h2,h3⟩
   ·rw [h1,h2]
    simp only [cond_true,bindS,Sum.elim_inr,decide_true,List.append_nil,List.length_drop]
    rw [show bs.length - (bs.length - at0)=at0 by omega]
   ·rw [h1,h3]
    obtain ⟨_,_,_,g3⟩:=hit
    obtain ⟨st,y,g4⟩:=g3 h2
    rw [g4]
    simp only [cond_false,bindS]
    rw [show decide ((getB n S.length (atK S) (lst S) (bs.drop at0)).1=0)=false from decide_eq_false h2]
    rfl
   ·rw [h1,h3]
    obtain ⟨at1,g1,g2,_⟩:=hit
    rw [h2] at g2
    obtain ⟨g3,g4⟩:=g2 rfl
    dsimp only at g3 g4
    rw [g4]
    have hc:=Vqa h2
    have hn512:=(Vcj (Vbf hc).1).1
    simp only [cond_false,bindS,decide_true,Bool.not_true,Sum.elim_inl]
    rw [Ved (by simp; omega)]
    simp only [cond_true,bindS,Sum.elim_inl]
    have:=ih (nxt x S) (n+1) (out++[x]) at1 f (Vzj hS hc) (by omega) (by simp; omega) g1 (by omega) (by omega)
    rw [g3] at this
    rw [this,List.append_assoc]
    rfl
 unfold Zdi Zdi_L0 decO
 have:=key 600 [] 0 [] 0 rounds ⟨by simp,trivial,by simp⟩ (by omega) rfl (by omega) (by omega) (by rw [Vam]; omega)
 refine Eq.trans this ?_
 rw [show bs.drop 0=bs from rfl,List.nil_append]
 cases decide ((mach getB 600 [] 0 bs).1=0)<;>rfl
end Go.Proofs.YthoblablopmhfaaGreatDoor

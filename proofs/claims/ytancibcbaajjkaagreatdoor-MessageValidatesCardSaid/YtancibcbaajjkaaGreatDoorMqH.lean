/- SipHash of program and document. No condition. -/
import Derived.Test.YtancibcbaajjkaaGreatDoorFns
import Derived.Test.YtancibcbaajjkaaGreatDoorLib8
set_option linter.unusedVariables false
set_option linter.unusedSimpArgs false
set_option maxRecDepth 100000
namespace Go.Proofs.YtancibcbaajjkaaGreatDoor
open Go Go.Abs
open _root_.Option renaming bind_some → Qa
open _root_.BitVec renaming or_assoc → Qb, ofInt → Qe
open _root_.Sum renaming elim_inl → Qc
open _root_.List renaming length_drop → Qd, getD_eq_getElem?_getD → Qg, drop → Qh, drop_drop → Qi
open _root_.UInt8 renaming ofBitVec → Qf
open _root_.Bool renaming and_self → Qj
namespace Sip
def rot (x:BitVec 64) (n:Nat):BitVec 64:=(x <<< n) ||| (x >>> (64 - n))
def sr (v:Jn):Jn:=
 ⟨rot (v.v0+v.v1) 32+(rot v.v3 16 ^^^ (v.v2+v.v3)),rot (rot v.v1 13 ^^^ (v.v0+v.v1)) 17 ^^^ ((v.v2+v.v3)+(rot v.v1 13 ^^^ (v.v0+v.v1))),rot ((v.v2+v.v3)+(rot v.v1 13 ^^^ (v.v0+v.v1))) 32,
  rot (rot v.v3 16 ^^^ (v.v2+v.v3)) 21 ^^^ (rot (v.v0+v.v1) 32+(rot v.v3 16 ^^^ (v.v2+v.v3)))⟩
def toA (s:Jn):Jp:=⟨s.v0,s.v1,s.v2,s.v3⟩
def ofA (s:Jp):Jn:=⟨s.a0,s.a1,s.a2,s.a3⟩
theorem Vc7a (s:Jn):Zcn (s,()) 2=some (((sr (sr s),()),()),()):=by kernel_rfl
theorem Vc8a (s:Jn):Zcn (s,()) 4=some (((sr (sr (sr (sr s))),()),()),()):=by kernel_rfl
theorem Vp0 (s:Jp):Zfi s=some ((),toA (sr (ofA s)),()):=by kernel_rfl
def ab (s:Jn) (m:BitVec 64):Jn:=
 let t:=sr (sr ⟨s.v0,s.v1,s.v2,s.v3 ^^^ m⟩)
 ⟨t.v0 ^^^ m,t.v1,t.v2,t.v3⟩
theorem Vm4 (s:Jn) (m:BitVec 64):Zcm (s,()) m=some (((ab s m,()),()),()):=by
 unfold Zcm
 rw [Vc7a]
 rfl
def W (c:UInt8):BitVec 64:=BitVec.setWidth 64 c.toBitVec
def litk:List UInt8->Nat->BitVec 64
 | [],_=>0#64
 | c::r,k=>(W c <<< (8 * k)) ||| litk r (k+1)
theorem Vm5 (l:List UInt8) (hl:l.length < 1000000000):Zhw l=some ((),litk l 0,()):=by
 unfold Zhw Zhw_L0
 rw [Vek (λs=>s.2.1=l/\s.2.2.1=(l.length:Int)/\0<=s.2.2.2.1/\s.2.2.2.1<=(l.length:Int)) (λs=>((l.length:Int) - s.2.2.2.1).toNat) (λs=>(s.1 ||| litk (s.2.1.drop s.2.2.2.1.toNat) s.2.2.2.1.toNat,()))]
 ·simp
 ·rintro ⟨m,y1,n,i,u⟩ ⟨h1,h2,h3,h4⟩
  dsimp only at *
  subst h1; subst h2
  simp only [Zhw_L0b]
  by_cases hc:i < y1.length
  ·left
   have e:y1.drop i.toNat=ati y1 i::y1.drop (i.toNat+1):=by
    have:i.toNat < y1.length:=by omega
    rw [List.drop_eq_getElem_cons this]
    simp [ati,this]
   rw [Vfi h3 hc,Vaa (n:=8 * i) (by omega) (by omega),Vaa (n:=i+1) (by omega) (by omega)]
   simp only [hc,decide_true,cond_true,Qa,show (0:Int)<=8 * i by omega]
   refine ⟨_,rfl,⟨rfl,rfl,by dsimp only; omega,by dsimp only; omega⟩,by dsimp only; omega,?_⟩
   dsimp only
   rw [e,show (i+1).toNat=i.toNat+1 by omega]
   simp only [litk,W,show (8 * i).toNat=8 * i.toNat by omega,Qb]
  ·right
   have:i=y1.length:=by omega
   simp only [hc,decide_false,cond_false]
   simp [this,litk]
 ·exact ⟨rfl,rfl,by simp,by simp⟩
 ·rw [Vab]; dsimp only; omega
def cb (d:List UInt8) (n:UInt8) (k:Nat):UInt8:=if k < d.length then d.getD k default else if k=7 then n else 0
def blk (d:List UInt8) (n:UInt8):BitVec 64:=
 W (cb d n 0) ||| (W (cb d n 1) <<< 8) ||| (W (cb d n 2) <<< 16) ||| (W (cb d n 3) <<< 24) ||| (W (cb d n 4) <<< 32) ||| (W (cb d n 5) <<< 40) ||| (W (cb d n 6) <<< 48) ||| (W (cb d n 7) <<< 56)
theorem Vyz (d:List UInt8) (n:UInt8) (h:8<=d.length):blk d n=litk (d.take 8) 0:=by
 match d,h with
 | a0::a1::a2::a3::a4::a5::a6::a7::r,_=>
  simp only [blk,cb,List.length_cons,List.take_succ_cons,List.take_zero,litk]
  simp [List.getD_cons_zero,List.getD_cons_succ,Qb]
theorem W0:W 0=0#64:=rfl
theorem Vy0 (d:List UInt8) (n:UInt8) (h:d.length < 8):blk d n=litk d 0 ||| (W n <<< 56):=by
 match d,h with
 | [],_=>simp [blk,cb,litk,W0]
 | [a0],_=>simp [blk,cb,litk,W0]
 | [a0,a1],_=>simp [blk,cb,litk,W0]
 | [a0,a1,a2],_=>simp [blk,cb,litk,W0,Qb]
 | [a0,a1,a2,a3],_=>simp [blk,cb,litk,W0,Qb]
 | [a0,a1,a2,a3,a4],_=>simp [blk,cb,litk,W0,Qb]
 | [a0,a1,a2,a3,a4,a5],_=>simp [blk,cb,litk,W0,Qb]
 | [a0,a1,a2,a3,a4,a5,a6],_=>simp [blk,cb,litk,W0,Qb]
 | a0::a1::a2::a3::a4::a5::a6::a7::r,h=>simp at h; omega
theorem Vy1 (b:List UInt8) (v:Jp) (i:Int) (m:BitVec 64) (k:Nat) (hk:k < 8) (h0:0<=i) (hl:b.length < 1000000000) (hi:i<=b.length) :
  Zhh_L2b b (v,()) i m k=some (.inl (b,(v,()),i,(m <<< 8) ||| W (cb (b.drop i.toNat) (Qf (Qe 8 (b.length:Int))) k),(k:Int) - 1,())):=by
 unfold Zhh_L2b
 rw [Vaa (n:=i+k) (by omega) (by omega),Vaa (n:=(k:Int) - 1) (by omega) (by omega)]
 simp only [show (0:Int)<=(k:Int) by omega,decide_true,cond_true]
 by_cases hc:i+k < b.length
 ·rw [Vfi (by omega) hc]
  simp only [hc,decide_true,cond_true,Qa,cb,Qd]
  rw [if_pos (by omega)]
  have e:(Qh i.toNat b).getD k default=ati b (i+k):=by
   unfold ati
   rw [Qg,List.getElem?_drop,Qg,show (i+(k:Int)).toNat=i.toNat+k by omega]
  rw [e]
  rfl
 ·simp only [hc,decide_false,cond_false,cb,Qd]
  rw [if_neg (by omega)]
  by_cases h7:k=7
  ·subst h7
   simp
   rfl
  ·have:¬ (k:Int)=7:=by omega
   simp only [this,h7,decide_false,cond_false,if_false]
   rfl
theorem fold8 (x0 x1 x2 x3 x4 x5 x6 x7:BitVec 64):(((((((((0#64 <<< 8 ||| x7) <<< 8 ||| x6) <<< 8 ||| x5) <<< 8 ||| x4) <<< 8 ||| x3) <<< 8 ||| x2) <<< 8 ||| x1) <<< 8 ||| x0))=x0 ||| (x1 <<< 8) ||| (x2 <<< 16) ||| (x3 <<< 24) ||| (x4 <<< 32) ||| (x5 <<< 40) ||| (x6 <<< 48) ||| (x7 <<< 56):=by
 have z:0#64 <<< 8 ||| x7=x7:=by simp
 have L:∀ (y x:BitVec 64) (n m:Nat),8+n=m->(y <<< 8 ||| x) <<< n=y <<< m ||| x <<< n:=by
  intro y x n m h
  rw [BitVec.shiftLeft_or_distrib,<- BitVec.shiftLeft_add,h]
 rw [z,L _ x1 8 16 rfl,L _ x2 16 24 rfl,L _ x3 24 32 rfl,L _ x4 32 40 rfl,L _ x5 40 48 rfl,L _ x6 48 56 rfl]
 generalize x1 <<< 8=y1,x2 <<< 16=y2,x3 <<< 24=y3,x4 <<< 32=y4,x5 <<< 40=y5,x6 <<< 48=y6,x7 <<< 56=y7
 ac_rfl
theorem Vc9a (b:List UInt8) (v:Jp) (i:Int) (m:BitVec 64):Zhh_L2b b (v,()) i m (-1)=some (.inr (b,(v,()),i,m,())):=rfl
theorem Vwf (b:List UInt8) (v:Jp) (i:Int) (h0:0<=i) (hl:b.length < 1000000000) (hi:i<=b.length) :
  Zhh_L2 (b,(v,()),i,0#64,7,())=some (b,(v,()),i,blk (b.drop i.toNat) (Qf (Qe 8 (b.length:Int))),()):=by
 unfold Zhh_L2
 rw [show rounds=1180591620717411303415+1+1+1+1+1+1+1+1+1 from rfl]
 have st:=λm k hk=>Vy1 b v i m k hk h0 hl hi
 rw [Vad]; simp only []
 rw [show (7:Int)=((7:Nat):Int) from rfl,st _ 7 (by omega),Qa,Qc,Vad]; simp only []
 rw [show ((7:Nat):Int) - 1=((6:Nat):Int) from rfl,st _ 6 (by omega),Qa,Qc,Vad]; simp only []
 rw [show ((6:Nat):Int) - 1=((5:Nat):Int) from rfl,st _ 5 (by omega),Qa,Qc,Vad]; simp only []
 rw [show ((5:Nat):Int) - 1=((4:Nat):Int) from rfl,st _ 4 (by omega),Qa,Qc,Vad]; simp only []
 rw [show ((4:Nat):Int) - 1=((3:Nat):Int) from rfl,st _ 3 (by omega),Qa,Qc,Vad]; simp only []
 rw [show ((3:Nat):Int) - 1=((2:Nat):Int) from rfl,st _ 2 (by omega),Qa,Qc,Vad]; simp only []
 rw [show ((2:Nat):Int) - 1=((1:Nat):Int) from rfl,st _ 1 (by omega),Qa,Qc,Vad]; simp only []
 rw [show ((1:Nat):Int) - 1=((0:Nat):Int) from rfl,st _ 0 (by omega),Qa,Qc,Vad]; simp only []
 rw [show ((0:Nat):Int) - 1 = -1 from rfl,Vc9a,Qa,Sum.elim_inr]
 rw [fold8]
 rfl
def blocks:Nat->List UInt8->Jn->Jn
 | 0,_,s=>s
 | k+1,d,s=>blocks k (d.drop 8) (ab s (litk (d.take 8) 0))
def fin4 (s:Jn):BitVec 64:=
 let t:=sr (sr (sr (sr ⟨s.v0,s.v1,s.v2 ^^^ 255#64,s.v3⟩)))
 ((t.v0 ^^^ t.v1) ^^^ t.v2) ^^^ t.v3
def lastW (d:List UInt8) (n:Nat):BitVec 64:=litk d 0 ||| ((Qe 64 (n:Int)) <<< 56)
def s0 (k0 k1:BitVec 64):Jn:=⟨k0 ^^^ 8317987319222330741#64,k1 ^^^ 7237128888997146477#64,k0 ^^^ 7816392313619706465#64,k1 ^^^ 8387220255154660723#64⟩
def sip (k0 k1:BitVec 64) (b:List UInt8):BitVec 64:=fin4 (ab (blocks (b.length / 8) b (s0 k0 k1)) (lastW (b.drop (8 * (b.length / 8))) b.length))
theorem Ve7a (b:List UInt8) (s:Jn) (hl:b.length < 1000000000) (n:Int) (hn:n=(b.length / 8:Nat)) :
  Zil_L0 (b,(s,()),n,n,0,())=some (b,(blocks (b.length / 8) b s,()),n,()):=by
 unfold Zil_L0
 rw [Vek (λq=>q.1=b/\q.2.2.1=n/\q.2.2.2.1=n/\0<=q.2.2.2.2.1/\q.2.2.2.2.1<=n) (λq=>(n - q.2.2.2.2.1).toNat) (λq=>(q.1,(blocks (n - q.2.2.2.2.1).toNat (q.1.drop (8 * q.2.2.2.2.1.toNat)) q.2.1.1,()),q.2.2.1,()))]
 ·show some (b,(blocks (n - 0).toNat (b.drop (8 * (0:Int).toNat)) s,()),n,())=_
  rw [show (n - 0).toNat=b.length / 8 by omega]
  rfl
 ·rintro ⟨y0,⟨s,u⟩,n1,n2,i,u2⟩ ⟨h1,h2,h3,h4,h5⟩
  dsimp only at *
  subst h1; subst h2; subst h3
  simp only [Zil_L0b]
  by_cases hc:i < n2
  ·left
   rw [Vaa (n:=8 * i) (by omega) (by omega),Vaa (n:=8 * i+8) (by omega) (by omega),Vaa (n:=i+1) (by omega) (by omega)]
   simp only [hc,decide_true,cond_true,Qa,show (0:Int)<=8 * i+8 by omega,show 8 * i+8<=(y0.length:Int) by omega,show (0:Int)<=8 * i by omega,show 8 * i<=((8 * i+8).toNat:Int) by omega,Qj]
   have e:Qh (8 * i).toNat (List.take (8 * i+8).toNat y0)=List.take 8 (Qh (8 * i.toNat) y0):=by
    rw [show (8 * i+8).toNat=8 * i.toNat+8 by omega,show (8 * i).toNat=8 * i.toNat by omega,List.drop_take]
    congr 1
    omega
   rw [e,Vm5 _ (by simp; omega)]
   simp only [Qa,Vm4]
   refine ⟨_,rfl,⟨rfl,rfl,rfl,by dsimp only; omega,by dsimp only; omega⟩,by dsimp only; omega,?_⟩
   dsimp only
   rw [show (n2 - i).toNat=(n2 - (i+1)).toNat+1 by omega]
   simp only [blocks,Qi]
   rw [show 8 * (i+1).toNat=8 * i.toNat+8 by omega]
  ·right
   have:(n2 - i).toNat=0:=by omega
   simp only [hc,decide_false,cond_false,this,blocks]
 ·exact ⟨rfl,rfl,rfl,by simp,by dsimp only; omega⟩
 ·rw [Vab]; dsimp only; omega
theorem sum_ok (k0 k1:BitVec 64) (b:List UInt8) (hl:b.length < 1000000000):Zil k0 k1 b=some ((),sip k0 k1 b,()):=by
 unfold Zil
 have hn:IntKind.wrap .i64 (Int.tdiv (b.length:Int) 8)=(b.length / 8:Nat):=by
  have:Int.tdiv (b.length:Int) 8=((b.length / 8:Nat):Int):=rfl
  rw [this,Vaa (by omega) (by omega)]
 rw [hn,show (⟨(k0 ^^^ 8317987319222330741#64),(k1 ^^^ 7237128888997146477#64),(k0 ^^^ 7816392313619706465#64),(k1 ^^^ 8387220255154660723#64)⟩:Jn)=s0 k0 k1 from rfl,Ve7a b (s0 k0 k1) hl _ rfl]
 simp only [Qa]
 rw [Vaa (n:=8 * ((b.length / 8:Nat):Int)) (by omega) (by omega)]
 simp only [show (0:Int)<=8 * ((b.length / 8:Nat):Int) by omega,show 8 * ((b.length / 8:Nat):Int)<=(b.length:Int) by omega,decide_true,Qj,cond_true]
 rw [show (8 * ((b.length / 8:Nat):Int)).toNat=8 * (b.length / 8) by omega,Vm5 _ (by simp; omega)]
 simp only [Qa]
 rw [Vm4]
 simp only [Qa]
 rw [Vc8a]
 rfl
theorem Vdaa (n:Nat):W (Qf (Qe 8 (n:Int))) <<< 56=(Qe 64 (n:Int)) <<< 56:=by
 simp only [W]
 apply BitVec.eq_of_getLsbD_eq
 intro i hi
 simp only [BitVec.getLsbD_shiftLeft,BitVec.getLsbD_setWidth,BitVec.ofInt_natCast,BitVec.getLsbD_ofNat]
 by_cases h:i < 56
 ·simp [h]
 ·have:i - 56 < 8:=by omega
  have:i - 56 < 64:=by omega
  simp [*]
theorem Vwg (b:List UInt8) (s:Jn) (hl:b.length < 1000000000) :
  Zhh_L0 (b,(toA s,()),0,())=some ((toA (ab (blocks (b.length / 8) b s) (lastW (b.drop (8 * (b.length / 8))) b.length)),()),()):=by
 unfold Zhh_L0
 rw [Vek (λq=>q.1=b/\0<=q.2.2.1/\q.2.2.1<=(b.length:Int)+8/\q.2.2.1 % 8=0) (λq=>((b.length:Int)+9 - q.2.2.1).toNat)
  (λq=>((if q.2.2.1<=(b.length:Int) then toA (ab (blocks (((b.length:Int) - q.2.2.1).toNat / 8) (b.drop q.2.2.1.toNat) (ofA q.2.1.1)) (lastW (b.drop (8 * (b.length / 8))) b.length)) else q.2.1.1,()),()))]
 ·simp only [show (0:Int)<=(b.length:Int) by omega,if_true]
  simp only [Int.sub_zero,Int.toNat_natCast,Int.toNat_zero,List.drop_zero]
  rfl
 ·rintro ⟨y0,⟨v,u⟩,i,u2⟩ ⟨h1,h2,h3,h4⟩
  dsimp only at *
  subst h1
  simp only [Zhh_L0b]
  by_cases hc:i<=y0.length
  ·left
   rw [Vwf y0 v i h2 hl hc]
   simp only [hc,decide_true,cond_true,Qa,Vp0]
   rw [Vaa (n:=i+8) (by omega) (by omega)]
   refine ⟨_,rfl,⟨rfl,by dsimp only; omega,by dsimp only; omega,by dsimp only; omega⟩,by dsimp only; omega,?_⟩
   dsimp only
   rw [if_pos trivial]
   by_cases hf:8<=(y0.drop i.toNat).length
   ·rw [Vyz _ _ hf]
    simp only [Qd] at hf
    rw [if_pos (show i+8<=(y0.length:Int) by omega),show ((y0.length:Int) - i).toNat / 8=((y0.length:Int) - (i+8)).toNat / 8+1 by omega]
    simp only [blocks,Qi]
    rw [show (i+8).toNat=i.toNat+8 by omega]
    rfl
   ·have hlt:(y0.drop i.toNat).length < 8:=by omega
    rw [Vy0 _ _ hlt,Vdaa]
    simp only [Qd] at hlt
    rw [if_neg (show ¬ i+8<=(y0.length:Int) by omega),show ((y0.length:Int) - i).toNat / 8=0 by omega]
    simp only [blocks]
    rw [show 8 * (y0.length / 8)=i.toNat by omega]
    rfl
  ·right
   simp only [hc,decide_false,cond_false,if_false]
 ·exact ⟨rfl,by simp,by dsimp only; omega,by simp⟩
 ·rw [Vab]; dsimp only; omega
theorem refsum_ok (k0 k1:BitVec 64) (b:List UInt8) (hl:b.length < 1000000000):Zhh k0 k1 b=some ((),sip k0 k1 b,()):=by
 unfold Zhh
 rw [show (⟨(k0 ^^^ 8317987319222330741#64),(k1 ^^^ 7237128888997146477#64),(k0 ^^^ 7816392313619706465#64),(k1 ^^^ 8387220255154660723#64)⟩:Jp)=toA (s0 k0 k1) from rfl,Vwg b (s0 k0 k1) hl]
 simp only [Qa,Vp0]
 rfl
end Sip
end Go.Proofs.YtancibcbaajjkaaGreatDoor

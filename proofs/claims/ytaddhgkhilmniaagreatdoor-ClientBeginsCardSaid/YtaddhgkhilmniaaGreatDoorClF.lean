/- SipHash of program and document, and as a function of numbers that the kernel runs quickly; the bytes of words. No condition. -/
import Derived.Test.YtaddhgkhilmniaaGreatDoorFns0
import Derived.Test.YtaddhgkhilmniaaGreatDoorLib8
set_option linter.unusedVariables false
set_option linter.unusedSimpArgs false
set_option maxRecDepth 100000
namespace Go.Proofs.YtaddhgkhilmniaaGreatDoor
open Go Go.Abs
open _root_.Option renaming bind_some → Qa
open _root_.UInt8 renaming ofBitVec → Qb, ofNat → Qg
open _root_.BitVec renaming setWidth → Qc, or_assoc → Qf, ofInt → Qk, toNat_shiftLeft → Qm, ofInt_natCast → Qn, toNat_or → Qq, toNat_ushiftRight → Qt, toNat_setWidth → Qv, toNat_ofNat → Qz
open _root_.Nat renaming shiftRight → Qd, xor → Qi, shiftLeft → Qj, lor → Qw, ble → Qx, add → Qy, mod_eq_of_lt → Q1
open _root_.Sum renaming elim_inl → Qh
open _root_.List renaming length_drop → Ql, length_append → Qo, length_cons → Qp, getD_eq_getElem?_getD → Qr, drop_drop → Qs, drop_eq_getElem_cons → Qu, drop → Q0, length_nil → Q2
open _root_.Bool renaming and_self → Q3
namespace Sip
def rot (x:BitVec 64) (n:Nat):BitVec 64:=(x <<< n) ||| (x >>> (64 - n))
def sr (v:Jk):Jk:=
 ⟨rot (v.v0+v.v1) 32+(rot v.v3 16 ^^^ (v.v2+v.v3)),rot (rot v.v1 13 ^^^ (v.v0+v.v1)) 17 ^^^ ((v.v2+v.v3)+(rot v.v1 13 ^^^ (v.v0+v.v1))),rot ((v.v2+v.v3)+(rot v.v1 13 ^^^ (v.v0+v.v1))) 32,
  rot (rot v.v3 16 ^^^ (v.v2+v.v3)) 21 ^^^ (rot (v.v0+v.v1) 32+(rot v.v3 16 ^^^ (v.v2+v.v3)))⟩
def toA (s:Jk):Jt:=⟨s.v0,s.v1,s.v2,s.v3⟩
def ofA (s:Jt):Jk:=⟨s.a0,s.a1,s.a2,s.a3⟩
theorem Vzl (s:Jk):Zdh (s,()) 2=some (((sr (sr s),()),()),()):=by kernel_rfl
theorem Vzm (s:Jk):Zdh (s,()) 4=some (((sr (sr (sr (sr s))),()),()),()):=by kernel_rfl
theorem Vmz (s:Jt):Zgv s=some ((),toA (sr (ofA s)),()):=by kernel_rfl
def ab (s:Jk) (m:BitVec 64):Jk:=
 let t:=sr (sr ⟨s.v0,s.v1,s.v2,s.v3 ^^^ m⟩)
 ⟨t.v0 ^^^ m,t.v1,t.v2,t.v3⟩
theorem Vkb (s:Jk) (m:BitVec 64):Zdg (s,()) m=some (((ab s m,()),()),()):=by
 unfold Zdg;rw [Vzl];rfl
theorem Vxr (a:BitVec 64):∃ l,Zkt [a]=some ((),l,())/\Zgs [a]=some ((),l,())/\l.length=8:=
 ⟨_,(by kernel_rfl:Zkt [a]=some ((),[Qb (Qc 8 (a >>> 56)),Qb (Qc 8 (a >>> 48)),Qb (Qc 8 (a >>> 40)),Qb (Qc 8 (a >>> 32)),Qb (Qc 8 (a >>> 24)),Qb (Qc 8 (a >>> 16)),Qb (Qc 8 (a >>> 8)),Qb (Qc 8 (a >>> 0))],())),by kernel_rfl,rfl⟩
def W (c:UInt8):BitVec 64:=Qc 64 c.toBitVec
def litk:List UInt8->Nat->BitVec 64
 | [],_=>0#64
 | c::r,k=>(W c <<< (8 * k)) ||| litk r (k+1)
theorem Vkc (l:List UInt8) (hl:l.length < 1000000000):Zkd l=some ((),litk l 0,()):=by
 unfold Zkd Zkd_L0 Yi4;rw [Vbs (λs=>s.2.1=l/\s.2.2.1=(l.length:Int)/\0<=s.2.2.2.1/\s.2.2.2.1<=(l.length:Int)) (λs=>((l.length:Int) - s.2.2.2.1).toNat) (λs=>(s.1 ||| litk (s.2.1.drop s.2.2.2.1.toNat) s.2.2.2.1.toNat,()))]
 ·simp
 ·rintro ⟨m,y1,n,i,u⟩ ⟨h1,h2,h3,h4⟩;dsimp only at *;subst h1; subst h2;simp only [Zkd_L0b];by_cases hc:i < y1.length
  ·left;have e:y1.drop i.toNat=ati y1 i::y1.drop (i.toNat+1):=by
    have:i.toNat < y1.length:=by omega
    rw [Qu this];simp [ati,this]
   rw [Vb3 h3 hc,wI (8 * i) (by omega),wI (i+1) (by omega)];simp only [hc,decide_true,cond_true,Qa,show (0:Int)<=8 * i by omega];refine ⟨_,rfl,⟨rfl,rfl,by dsimp only; omega,by dsimp only; omega⟩,by dsimp only; omega,?_⟩;dsimp only;rw [e,show (i+1).toNat=i.toNat+1 by omega];simp only [litk,W,show (8 * i).toNat=8 * i.toNat by omega,Qf]
  ·right;have:i=y1.length:=by omega
   simp only [hc,decide_false,cond_false];simp [this,litk]
 ·exact ⟨rfl,rfl,by simp,by simp⟩
 ·rw [Vab]; dsimp only; omega
def cb (d:List UInt8) (n:UInt8) (k:Nat):UInt8:=if k < d.length then d.getD k default else if k=7 then n else 0
def blk (d:List UInt8) (n:UInt8):BitVec 64:=
 W (cb d n 0) ||| (W (cb d n 1) <<< 8) ||| (W (cb d n 2) <<< 16) ||| (W (cb d n 3) <<< 24) ||| (W (cb d n 4) <<< 32) ||| (W (cb d n 5) <<< 40) ||| (W (cb d n 6) <<< 48) ||| (W (cb d n 7) <<< 56)
theorem Vv0 (d:List UInt8) (n:UInt8) (h:8<=d.length):blk d n=litk (d.take 8) 0:=by
 match d,h with
 | a0::a1::a2::a3::a4::a5::a6::a7::r,_=>
  simp only [blk,cb,Qp,List.take_succ_cons,List.take_zero,litk];simp [List.getD_cons_zero,List.getD_cons_succ,Qf]
theorem W0:W 0=0#64:=rfl
theorem Vv1 (d:List UInt8) (n:UInt8) (h:d.length < 8):blk d n=litk d 0 ||| (W n <<< 56):=by
 match d,h with
 | [],_=>simp [blk,cb,litk,W0]
 | [a0],_=>simp [blk,cb,litk,W0]
 | [a0,a1],_=>simp [blk,cb,litk,W0]
 | [a0,a1,a2],_=>simp [blk,cb,litk,W0,Qf]
 | [a0,a1,a2,a3],_=>simp [blk,cb,litk,W0,Qf]
 | [a0,a1,a2,a3,a4],_=>simp [blk,cb,litk,W0,Qf]
 | [a0,a1,a2,a3,a4,a5],_=>simp [blk,cb,litk,W0,Qf]
 | [a0,a1,a2,a3,a4,a5,a6],_=>simp [blk,cb,litk,W0,Qf]
 | a0::a1::a2::a3::a4::a5::a6::a7::r,h=>simp at h; omega
theorem Vv2 (b:List UInt8) (v:Jt) (i:Int) (m:BitVec 64) (k:Nat) (hk:k < 8) (h0:0<=i) (hl:b.length < 1000000000) (hi:i<=b.length) :
  Zjm_L2b b (v,()) i m k=some (.inl (b,(v,()),i,(m <<< 8) ||| W (cb (b.drop i.toNat) (Qb (Qk 8 (b.length:Int))) k),(k:Int) - 1,())):=by
 unfold Zjm_L2b;rw [wI (i+k) (by omega),wI ((k:Int) - 1) (by omega)];simp only [show (0:Int)<=(k:Int) by omega,decide_true,cond_true];by_cases hc:i+k < b.length
 ·rw [Vb3 (by omega) hc];simp only [hc,decide_true,cond_true,Qa,cb,Ql];rw [if_pos (by omega)];have e:(Q0 i.toNat b).getD k default=ati b (i+k):=by
   unfold ati;rw [Qr,List.getElem?_drop,Qr,show (i+(k:Int)).toNat=i.toNat+k by omega]
  rw [e];rfl
 ·simp only [hc,decide_false,cond_false,cb,Ql];rw [if_neg (by omega)];by_cases h7:k=7
  ·subst h7;simp;rfl
  ·have:¬ (k:Int)=7:=by omega
   simp only [this,h7,decide_false,cond_false,if_false];rfl
theorem fold8 (x0 x1 x2 x3 x4 x5 x6 x7:BitVec 64):(((((((((0#64 <<< 8 ||| x7) <<< 8 ||| x6) <<< 8 ||| x5) <<< 8 ||| x4) <<< 8 ||| x3) <<< 8 ||| x2) <<< 8 ||| x1) <<< 8 ||| x0))=x0 ||| (x1 <<< 8) ||| (x2 <<< 16) ||| (x3 <<< 24) ||| (x4 <<< 32) ||| (x5 <<< 40) ||| (x6 <<< 48) ||| (x7 <<< 56):=by
 have z:0#64 <<< 8 ||| x7=x7:=by simp
 have L:∀ (y x:BitVec 64) (n m:Nat),8+n=m->(y <<< 8 ||| x) <<< n=y <<< m ||| x <<< n:=by
  intro y x n m h;rw [BitVec.shiftLeft_or_distrib,<- BitVec.shiftLeft_add,h]
 rw [z,L _ x1 8 16 rfl,L _ x2 16 24 rfl,L _ x3 24 32 rfl,L _ x4 32 40 rfl,L _ x5 40 48 rfl,L _ x6 48 56 rfl];generalize x1 <<< 8=y1,x2 <<< 16=y2,x3 <<< 24=y3,x4 <<< 32=y4,x5 <<< 40=y5,x6 <<< 48=y6,x7 <<< 56=y7;ac_rfl
theorem Vzn (b:List UInt8) (v:Jt) (i:Int) (m:BitVec 64):Zjm_L2b b (v,()) i m (-1)=some (.inr (b,(v,()),i,m,())):=rfl
theorem Vpm (b:List UInt8) (v:Jt) (i:Int) (h0:0<=i) (hl:b.length < 1000000000) (hi:i<=b.length) :
  Zjm_L2 (b,(v,()),i,0#64,7,())=some (b,(v,()),i,blk (b.drop i.toNat) (Qb (Qk 8 (b.length:Int))),()):=by
 unfold Zjm_L2 Yi5;rw [show rounds=1180591620717411303415+1+1+1+1+1+1+1+1+1 from rfl];have st:=λm k hk=>Vv2 b v i m k hk h0 hl hi;rw [Val]; simp only [];rw [show (7:Int)=((7:Nat):Int) from rfl,st _ 7 (by omega),Qa,Qh,Val]; simp only [];rw [show ((7:Nat):Int) - 1=((6:Nat):Int) from rfl,st _ 6 (by omega),Qa,Qh,Val]; simp only [];rw [show ((6:Nat):Int) - 1=((5:Nat):Int) from rfl,st _ 5 (by omega),Qa,Qh,Val]; simp only [];rw [show ((5:Nat):Int) - 1=((4:Nat):Int) from rfl,st _ 4 (by omega),Qa,Qh,Val]; simp only [];rw [show ((4:Nat):Int) - 1=((3:Nat):Int) from rfl,st _ 3 (by omega),Qa,Qh,Val]; simp only [];rw [show ((3:Nat):Int) - 1=((2:Nat):Int) from rfl,st _ 2 (by omega),Qa,Qh,Val]; simp only [];rw [show ((2:Nat):Int) - 1=((1:Nat):Int) from rfl,st _ 1 (by omega),Qa,Qh,Val]; simp only [];rw [show ((1:Nat):Int) - 1=((0:Nat):Int) from rfl,st _ 0 (by omega),Qa,Qh,Val]; simp only [];rw [show ((0:Nat):Int) - 1 = -1 from rfl,Vzn,Qa,Sum.elim_inr];rw [fold8];rfl
def blocks:Nat->List UInt8->Jk->Jk
 | 0,_,s=>s
 | k+1,d,s=>blocks k (d.drop 8) (ab s (litk (d.take 8) 0))
def fin4 (s:Jk):BitVec 64:=
 let t:=sr (sr (sr (sr ⟨s.v0,s.v1,s.v2 ^^^ 255#64,s.v3⟩)))
 ((t.v0 ^^^ t.v1) ^^^ t.v2) ^^^ t.v3
def lastW (d:List UInt8) (n:Nat):BitVec 64:=litk d 0 ||| ((Qk 64 (n:Int)) <<< 56)
def s0 (k0 k1:BitVec 64):Jk:=⟨k0 ^^^ 8317987319222330741#64,k1 ^^^ 7237128888997146477#64,k0 ^^^ 7816392313619706465#64,k1 ^^^ 8387220255154660723#64⟩
def sip (k0 k1:BitVec 64) (b:List UInt8):BitVec 64:=fin4 (ab (blocks (b.length / 8) b (s0 k0 k1)) (lastW (b.drop (8 * (b.length / 8))) b.length))
theorem Vbha (b:List UInt8) (s:Jk) (hl:b.length < 1000000000) (n:Int) (hn:n=(b.length / 8:Nat)) :
  Zmc_L0 (b,(s,()),n,n,0,())=some (b,(blocks (b.length / 8) b s,()),n,()):=by
 unfold Zmc_L0 Yi5;rw [Vbs (λq=>q.1=b/\q.2.2.1=n/\q.2.2.2.1=n/\0<=q.2.2.2.2.1/\q.2.2.2.2.1<=n) (λq=>(n - q.2.2.2.2.1).toNat) (λq=>(q.1,(blocks (n - q.2.2.2.2.1).toNat (q.1.drop (8 * q.2.2.2.2.1.toNat)) q.2.1.1,()),q.2.2.1,()))]
 ·show some (b,(blocks (n - 0).toNat (b.drop (8 * (0:Int).toNat)) s,()),n,())=_;rw [show (n - 0).toNat=b.length / 8 by omega];rfl
 ·rintro ⟨y0,⟨s,u⟩,n1,n2,i,u2⟩ ⟨h1,h2,h3,h4,h5⟩;dsimp only at *;subst h1; subst h2; subst h3;simp only [Zmc_L0b];by_cases hc:i < n2
  ·left;rw [wI (8 * i) (by omega),wI (8 * i+8) (by omega),wI (i+1) (by omega)];simp only [hc,decide_true,cond_true,Qa,show (0:Int)<=8 * i+8 by omega,show 8 * i+8<=(y0.length:Int) by omega,show (0:Int)<=8 * i by omega,show 8 * i<=((8 * i+8).toNat:Int) by omega,Q3];have e:Q0 (8 * i).toNat (List.take (8 * i+8).toNat y0)=List.take 8 (Q0 (8 * i.toNat) y0):=by
    rw [show (8 * i+8).toNat=8 * i.toNat+8 by omega,show (8 * i).toNat=8 * i.toNat by omega,List.drop_take];congr 1;omega
   rw [e,Vkc _ (by simp; omega)];simp only [Qa,Vkb];refine ⟨_,rfl,⟨rfl,rfl,rfl,by dsimp only; omega,by dsimp only; omega⟩,by dsimp only; omega,?_⟩;dsimp only;rw [show (n2 - i).toNat=(n2 - (i+1)).toNat+1 by omega];simp only [blocks,Qs];rw [show 8 * (i+1).toNat=8 * i.toNat+8 by omega]
  ·right;have:(n2 - i).toNat=0:=by omega
   simp only [hc,decide_false,cond_false,this,blocks]
 ·exact ⟨rfl,rfl,rfl,by simp,by dsimp only; omega⟩
 ·rw [Vab]; dsimp only; omega
theorem Vbia (k0 k1:BitVec 64) (b:List UInt8) (hl:b.length < 1000000000):Zmc k0 k1 b=some ((),sip k0 k1 b,()):=by
 unfold Zmc;have hn:IntKind.wrap .i64 (Int.tdiv (b.length:Int) 8)=(b.length / 8:Nat):=by
  have:Int.tdiv (b.length:Int) 8=((b.length / 8:Nat):Int):=rfl;rw [this,Vbl (by omega) (by omega)]
 rw [hn,show (⟨(k0 ^^^ 8317987319222330741#64),(k1 ^^^ 7237128888997146477#64),(k0 ^^^ 7816392313619706465#64),(k1 ^^^ 8387220255154660723#64)⟩:Jk)=s0 k0 k1 from rfl,Vbha b (s0 k0 k1) hl _ rfl];simp only [Qa];rw [wI (8 * ((b.length / 8:Nat):Int)) (by omega)];simp only [show (0:Int)<=8 * ((b.length / 8:Nat):Int) by omega,show 8 * ((b.length / 8:Nat):Int)<=(b.length:Int) by omega,decide_true,Q3,cond_true];rw [show (8 * ((b.length / 8:Nat):Int)).toNat=8 * (b.length / 8) by omega,Vkc _ (by simp; omega)];simp only [Qa];rw [Vkb];simp only [Qa];rw [Vzm];rfl
theorem Vzo (n:Nat):W (Qb (Qk 8 (n:Int))) <<< 56=(Qk 64 (n:Int)) <<< 56:=by
 simp only [W];apply BitVec.eq_of_getLsbD_eq;intro i hi;simp only [BitVec.getLsbD_shiftLeft,BitVec.getLsbD_setWidth,Qn,BitVec.getLsbD_ofNat];by_cases h:i < 56
 ·simp [h]
 ·have:i - 56 < 8:=by omega
  have:i - 56 < 64:=by omega
  simp [*]
theorem Vpn (b:List UInt8) (s:Jk) (hl:b.length < 1000000000) :
  Zjm_L0 (b,(toA s,()),0,())=some ((toA (ab (blocks (b.length / 8) b s) (lastW (b.drop (8 * (b.length / 8))) b.length)),()),()):=by
 unfold Zjm_L0 Yi3;rw [Vbs (λq=>q.1=b/\0<=q.2.2.1/\q.2.2.1<=(b.length:Int)+8/\q.2.2.1 % 8=0) (λq=>((b.length:Int)+9 - q.2.2.1).toNat)
  (λq=>((if q.2.2.1<=(b.length:Int) then toA (ab (blocks (((b.length:Int) - q.2.2.1).toNat / 8) (b.drop q.2.2.1.toNat) (ofA q.2.1.1)) (lastW (b.drop (8 * (b.length / 8))) b.length)) else q.2.1.1,()),()))]
 ·simp only [show (0:Int)<=(b.length:Int) by omega,if_true];simp only [Int.sub_zero,Int.toNat_natCast,Int.toNat_zero,List.drop_zero];rfl
 ·rintro ⟨y0,⟨v,u⟩,i,u2⟩ ⟨h1,h2,h3,h4⟩;dsimp only at *;subst h1;simp only [Zjm_L0b];by_cases hc:i<=y0.length
  ·left;rw [Vpm y0 v i h2 hl hc];simp only [hc,decide_true,cond_true,Qa,Vmz];rw [wI (i+8) (by omega)];refine ⟨_,rfl,⟨rfl,by dsimp only; omega,by dsimp only; omega,by dsimp only; omega⟩,by dsimp only; omega,?_⟩;dsimp only;rw [if_pos trivial];by_cases hf:8<=(y0.drop i.toNat).length
   ·rw [Vv0 _ _ hf];simp only [Ql] at hf;rw [if_pos (show i+8<=(y0.length:Int) by omega),show ((y0.length:Int) - i).toNat / 8=((y0.length:Int) - (i+8)).toNat / 8+1 by omega];simp only [blocks,Qs];rw [show (i+8).toNat=i.toNat+8 by omega];rfl
   ·have hlt:(y0.drop i.toNat).length < 8:=by omega
    rw [Vv1 _ _ hlt,Vzo];simp only [Ql] at hlt;rw [if_neg (show ¬ i+8<=(y0.length:Int) by omega),show ((y0.length:Int) - i).toNat / 8=0 by omega];simp only [blocks];rw [show 8 * (y0.length / 8)=i.toNat by omega];rfl
  ·right;simp only [hc,decide_false,cond_false,if_false]
 ·exact ⟨rfl,by simp,by dsimp only; omega,by simp⟩
 ·rw [Vab]; dsimp only; omega
theorem Vpo (k0 k1:BitVec 64) (b:List UInt8) (hl:b.length < 1000000000):Zjm k0 k1 b=some ((),sip k0 k1 b,()):=by
 unfold Zjm;rw [show (⟨(k0 ^^^ 8317987319222330741#64),(k1 ^^^ 7237128888997146477#64),(k0 ^^^ 7816392313619706465#64),(k1 ^^^ 8387220255154660723#64)⟩:Jt)=toA (s0 k0 k1) from rfl,Vpn b (s0 k0 k1) hl];simp only [Qa,Vmz];rfl
def fN {α:Type} (n:Nat) (k:Nat->α):α:=match n with | 0=>k 0 | m+1=>k (m+1)
theorem fN_eq {α:Type} (n:Nat) (k:Nat->α):fN n k=k n:=by cases n<;>rfl
def m64 (x:Nat):Nat:=Nat.mod x 18446744073709551616
def rotN (x k j:Nat):Nat:=Qw (m64 (Qj x k)) (Qd x j)
def rndN {α:Type} (a b c d:Nat) (K:Nat->Nat->Nat->Nat->α):α:=
 fN (m64 (Qy a b)) λs=>fN (m64 (Qy c d)) λt=>fN (Qi (rotN b 13 51) s) λu=>fN (Qi (rotN d 16 48) t) λw=>
 fN (m64 (Qy t u)) λp=>fN (m64 (Qy (rotN s 32 32) w)) λq=>fN (Qi (rotN u 17 47) p) λb'=>fN (rotN p 32 32) λc'=>fN (Qi (rotN w 21 43) q) λd'=>K q b' c' d'
def finN (a b c d:Nat):Nat:=fN (Qi c 255) λc=>rndN a b c d λa b c d=>rndN a b c d λa b c d=>rndN a b c d λa b c d=>rndN a b c d λa b c d=>fN (Qi (Qi (Qi a b) c) d) λr=>r
def absN {α:Type} (w a b c d:Nat) (K:Nat->Nat->Nat->Nat->α):α:=fN (Qi d w) λd=>rndN a b c d λa b c d=>rndN a b c d λa b c d=>fN (Qi a w) λa=>K a b c d
def blkN (len:Nat):List UInt8->Nat->Nat->Nat->Nat->Nat->Nat->Nat
 | [],_,w,a,b,c,d=>fN (Qw w (m64 (Qj (m64 len) 56))) λw=>absN w a b c d finN
 | x::r,p,w,a,b,c,d=>fN (Qw w (m64 (Qj x.toNat (Nat.mul 8 p)))) λw=>match Nat.beq p 7 with
  | true=>absN w a b c d λa b c d=>blkN len r 0 0 a b c d
  | false=>fN (Nat.succ p) λp=>blkN len r p w a b c d
def sumN (a b:Nat) (l:List UInt8):Nat:=fN l.length λlen=>fN a λa=>fN b λb=>fN (Qi a 8317987319222330741) λv0=>fN (Qi b 7237128888997146477) λv1=>fN (Qi a 7816392313619706465) λv2=>fN (Qi b 8387220255154660723) λv3=>blkN len l 0 0 v0 v1 v2 v3
theorem Vgr (x:BitVec 64) (k:Nat):rotN x.toNat k (64 - k)=(rot x k).toNat:=by
 unfold rot;rw [Qq,Qm,Qt];rfl
theorem Vzp (x y:BitVec 64):m64 (Qy x.toNat y.toNat)=(x+y).toNat:=by
 rw [BitVec.toNat_add];rfl
theorem Vfh (x y:BitVec 64):Qi x.toNat y.toNat=(x ^^^ y).toNat:=by
 rw [BitVec.toNat_xor];rfl
theorem Vi3 {α:Type} (s:Jk) (K:Nat->Nat->Nat->Nat->α):rndN s.v0.toNat s.v1.toNat s.v2.toNat s.v3.toNat K=K (sr s).v0.toNat (sr s).v1.toNat (sr s).v2.toNat (sr s).v3.toNat:=by
 unfold rndN;simp only [fN_eq,Vzp,Vgr _ 13,Vgr _ 16,Vgr _ 32,Vgr _ 17,Vgr _ 21,Vfh];rfl
theorem Vzq (s:Jk):finN s.v0.toNat s.v1.toNat s.v2.toNat s.v3.toNat=(fin4 s).toNat:=by
 unfold finN;rw [fN_eq,show (255:Nat)=(255#64).toNat from rfl,Vfh];rw [Vi3 ⟨s.v0,s.v1,s.v2 ^^^ 255#64,s.v3⟩];simp only [Vi3,fN_eq,Vfh];rfl
theorem Vpp {α:Type} (m:BitVec 64) (s:Jk) (K:Nat->Nat->Nat->Nat->α):absN m.toNat s.v0.toNat s.v1.toNat s.v2.toNat s.v3.toNat K=K (ab s m).v0.toNat (ab s m).v1.toNat (ab s m).v2.toNat (ab s m).v3.toNat:=by
 unfold absN;rw [fN_eq,Vfh];rw [Vi3 ⟨s.v0,s.v1,s.v2,s.v3 ^^^ m⟩];simp only [Vi3,fN_eq,Vfh];rfl
theorem Vkd:∀ (l:List UInt8) (x:UInt8) (k:Nat),litk (l++[x]) k=litk l k ||| (W x <<< (8 * (k+l.length)))
 | [],x,k=>by simp [litk]
 | c::r,x,k=>by
  simp only [List.cons_append,litk,Vkd r x (k+1),Qp,Qf];rw [show k+1+r.length=k+(r.length+1) by omega]
theorem Vzr (x:UInt8) (k:Nat):m64 (Qj x.toNat k)=(W x <<< k).toNat:=by
 rw [Qm];have:(W x).toNat=x.toNat:=by
  unfold W;rw [Qv];exact Q1 (by have:=x.toNat_lt; omega)
 rw [this]; rfl
def tailS (n:Nat) (d:List UInt8) (s:Jk):BitVec 64:=fin4 (ab (blocks (d.length / 8) d s) (lastW (d.drop (8 * (d.length / 8))) n))
theorem Vlx (n:Nat) (q r:List UInt8) (hq:q.length=8) (s:Jk):tailS n (q++r) s=tailS n r (ab s (litk q 0)):=by
 unfold tailS;have h1:(q++r).length / 8=r.length / 8+1:=by rw [Qo,hq]; omega
 rw [h1];simp only [blocks];have h2:(q++r).drop 8=r:=by rw [<- hq]; exact List.drop_left
 have h3:(q++r).take 8=q:=by rw [<- hq]; exact List.take_left
 have h4:(q++r).drop (8 * (r.length / 8+1))=r.drop (8 * (r.length / 8)):=by
  rw [show 8 * (r.length / 8+1)=8+8 * (r.length / 8) by omega,<- Qs,h2]
 rw [h2,h3,h4]
theorem Vly (n:Nat):∀ (r pre:List UInt8) (s:Jk),pre.length < 8->blkN n r pre.length (litk pre 0).toNat s.v0.toNat s.v1.toNat s.v2.toNat s.v3.toNat=(tailS n (pre++r) s).toNat
 | [],pre,s,h=>by
  unfold blkN;have e:Qw (litk pre 0).toNat (m64 (Qj (m64 n) 56))=(lastW pre n).toNat:=by
   unfold lastW;rw [Qq,Qm,Qn,Qz];rfl
  rw [fN_eq,e,Vpp,Vzq];unfold tailS;rw [List.append_nil,show pre.length / 8=0 by omega];rfl
 | x::r,pre,s,h=>by
  unfold blkN;have e:Qw (litk pre 0).toNat (m64 (Qj x.toNat (Nat.mul 8 pre.length)))=(litk (pre++[x]) 0).toNat:=by
   rw [Vzr,Vkd,Nat.zero_add,Qq];rfl
  rw [fN_eq,e];have hd:pre++x::r=(pre++[x])++r:=by simp
  by_cases h7:pre.length=7
  ·rw [show Nat.beq pre.length 7=true by rw [h7]; rfl];dsimp only;rw [Vpp,hd,Vlx n (pre++[x]) r (by simp [h7])];exact Vly n r [] _ (by simp)
  ·rw [show Nat.beq pre.length 7=false by cases hb:Nat.beq pre.length 7 with | false=>rfl | true=>exact absurd (Nat.eq_of_beq_eq_true hb) h7];dsimp only;rw [fN_eq,hd];have:=Vly n r (pre++[x]) s (by simp; omega);rw [Qo,Qp,Q2] at this;exact this
theorem Vzs (a b:BitVec 64) (l:List UInt8):sumN a.toNat b.toNat l=(sip a b l).toNat:=by
 unfold sumN;simp only [fN_eq];have:=Vly l.length l [] (s0 a b) (by simp);refine Eq.trans ?_ (this.trans ?_)
 ·simp only [s0,Q2,litk];rw [show (8317987319222330741:Nat)=(8317987319222330741#64).toNat from rfl,show (7237128888997146477:Nat)=(7237128888997146477#64).toNat from rfl,show (7816392313619706465:Nat)=(7816392313619706465#64).toNat from rfl,show (8387220255154660723:Nat)=(8387220255154660723#64).toNat from rfl];simp only [Vfh];rfl
 ·rw [List.nil_append]; rfl
end Sip
open Sip
theorem Vdk {P:Program} {C:Cd T} {G:Nat->Option (List D)} {f:FuncId} {ps:List Slot} {rs:List Fld} {F F':tySs T ps->Option (tyO T ps×tyFs T rs)} (h:SoundT P C G f ⟨ps,rs,F⟩) (hl:∀ x r,F' x=some r->F x=some r):SoundT P C G f ⟨ps,rs,F'⟩:=
 ⟨h.1,λI own w args x r h1 h2 h3 h4 h5=>h.2 I own w args x r h1 h2 h3 h4 (hl x r h5)⟩
theorem bleT {a b:Nat} (h:a<=b):Qx a b=true:=Eq.mpr Nat.ble_eq h
theorem bleF {a b:Nat} (h:¬ a<=b):Qx a b=false:=by
 cases hb:Qx a b with
 | false=>rfl
 | true=>exact absurd (Nat.le_of_ble_eq_true hb) h
def passkeyref1_SumF (a0 a1:BitVec 64) (a2:List UInt8):Option (Unit×(BitVec 64×Unit)):=bif Qx a2.length 999999999 then some ((),BitVec.ofNat 64 (sumN a0.toNat a1.toNat a2),()) else none
def S_passkeyref1_SumF:FSpec T:=⟨[.f (.v .u64),.f (.v .u64),.f (.v (.rs 0))],[.v .u64],λx=>passkeyref1_SumF x.1 x.2.1 x.2.2.1⟩
theorem Vgs (a0 a1:BitVec 64) (a2:List UInt8) (h:a2.length < 1000000000):passkeyref1_SumF a0 a1 a2=some ((),sip a0 a1 a2,()):=by
 unfold passkeyref1_SumF;rw [bleT (by omega),Vzs];simp
theorem Vzt (a0 a1:BitVec 64) (a2:List UInt8) {r:Unit×(BitVec 64×Unit)} (h:passkeyref1_SumF a0 a1 a2=some r):Zjm a0 a1 a2=some r:=by
 by_cases hl:a2.length < 1000000000
 ·rw [Vgs _ _ _ hl] at h;rw [Vpo _ _ _ hl,h]
 ·unfold passkeyref1_SumF at h;rw [bleF (by omega)] at h;cases h
theorem Ven:SoundT Tryz.prog cd gdn 186 S_passkeyref1_SumF:=Vdk Vx1 λx r h=>Vzt _ _ _ h
def be8 (n:BitVec 64):Nat->List UInt8
 | 0=>[]
 | k+1=>Qb (Qc 8 (n >>> (8 * k)))::be8 n k
def wordsF:List (BitVec 64)->List UInt8
 | []=>[]
 | x::r=>fN x.toNat λn=>[Qg (Qd n 56),Qg (Qd n 48),Qg (Qd n 40),Qg (Qd n 32),Qg (Qd n 24),Qg (Qd n 16),Qg (Qd n 8),Qg n]++wordsF r
theorem byN (x:BitVec 64) (k:Nat):Qg (Qd x.toNat k)=Qb (Qc 8 (x >>> k)):=by
 apply UInt8.toNat_inj.1;show _=(Qc 8 (x >>> k)).toNat
 rw [Qv,Qt];rfl
theorem Vgt (x:BitVec 64) (r:List (BitVec 64)):wordsF (x::r)=be8 x 8++wordsF r:=by
 have h0:=byN x 0;simp only [wordsF,fN_eq,byN,be8];rw [<- byN x 0];rfl
theorem Vlz {n:Nat} (h:n<=1000000000):small n 1=true:=by
 unfold small;simp only [decide_eq_true_eq];omega
theorem Vv3 (l:List (BitVec 64)) (z:Int) (n:BitVec 64) (hz:getI l z=some n) (out:List UInt8) (ho:out.length<=900000000):Zgs_L2 (l,out,z,7,())=some (l,out++be8 n 8,z,()):=by
 unfold Zgs_L2 Yi4;rw [Vbs (λq=>q.1=l/\q.2.2.1=z/\-1<=q.2.2.2.1/\q.2.2.2.1<=7/\(q.2.1.length:Int)+q.2.2.2.1<=900000100) (λq=>(q.2.2.2.1+1).toNat) (λq=>(q.1,q.2.1++be8 n (q.2.2.2.1+1).toNat,q.2.2.1,()))]
 ·rfl
 ·rintro ⟨l',o,z',i,u⟩ ⟨h0,h1,h2,h3,h4⟩;dsimp only at *;subst h0; subst h1;simp only [Zgs_L2b];by_cases hi:0<=i
  ·left;obtain ⟨j,rfl⟩:∃ j:Nat,i=(j:Int):=⟨i.toNat,by omega⟩;have es:(Qk 64 (8 * (j:Int))).toNat=8 * j:=by
    rw [show (8 * (j:Int))=((8 * j:Nat):Int) by omega,Qn,Qz,Q1 (by omega)]
   rw [wI (8 * (j:Int)) (by omega),wI ((j:Int) - 1) (by omega),show decide ((0:Int)<=(j:Int))=true by simp,hz,es];simp only [cond_true,Qa];rw [Vlz (by simp; omega)];refine ⟨_,rfl,⟨rfl,rfl,by dsimp only; omega,by dsimp only; omega,by dsimp only; simp; omega⟩,by dsimp only; omega,?_⟩;dsimp only;rw [show ((j:Int)+1).toNat=j+1 by omega,show ((j:Int) - 1+1).toNat=j by omega];simp [be8]
  ·right;rw [show decide ((0:Int)<=i)=false by simpa using hi,show (i+1).toNat=0 by omega];simp [be8]
 ·exact ⟨rfl,rfl,by dsimp only; omega,by dsimp only; omega,by dsimp only; omega⟩
 ·rw [Vab]; dsimp only; omega
theorem Vl0 (n:BitVec 64):∀ k,(be8 n k).length=k
 | 0=>rfl
 | k+1=>by simp [be8,Vl0 n k]
theorem Vfi (l:List (BitVec 64)) (h:l.length<=100000000):Zgs l=some ((),wordsF l,()):=by
 unfold Zgs Zgs_L0 Yi3;rw [Vbs (λq=>q.1=l/\0<=q.2.2.1/\q.2.2.1<=(l.length:Int)/\(q.2.1.length:Int)=8 * q.2.2.1) (λq=>((l.length:Int) - q.2.2.1).toNat) (λq=>(q.2.1++wordsF (l.drop q.2.2.1.toNat),()))]
 ·simp
 ·rintro ⟨l',o,i,u⟩ ⟨h0,h1,h2,h3⟩;dsimp only at *;subst h0;simp only [Zgs_L0b];by_cases hi:i < (l'.length:Int)
  ·left;have hlt:i.toNat < l'.length:=by omega
   rw [show decide (i < (l'.length:Int))=true by simpa using hi];simp only [cond_true];rw [Vv3 l' i (ati l' i) (Vb3 h1 hi) o (by omega)];simp only [Qa];rw [wI (i+1) (by omega)];refine ⟨_,rfl,⟨rfl,by dsimp only; omega,by dsimp only; omega,by dsimp only; rw [Qo,Vl0]; omega⟩,by dsimp only; omega,?_⟩;dsimp only;have e:l'.drop i.toNat=ati l' i::l'.drop (i.toNat+1):=by
    rw [Qu hlt];simp [ati,hlt]
   rw [e,Vgt,show (i+1).toNat=i.toNat+1 by omega,List.append_assoc]
  ·right;have:i=l'.length:=by omega
   rw [show decide (i < (l'.length:Int))=false by simpa using hi];subst this;simp [wordsF]
 ·exact ⟨rfl,by simp,by simp,by simp⟩
 ·rw [Vab]; dsimp only; omega
def passkeyref1_WordsF (a0:List (BitVec 64)):Option (Unit×(List UInt8×Unit)):=bif Qx a0.length 100000000 then some ((),wordsF a0,()) else none
def S_passkeyref1_WordsF:FSpec T:=⟨[.f (.v (.rs 4))],[(.own 0)],λx=>passkeyref1_WordsF x.1⟩
theorem Veo (a0:List (BitVec 64)) (h:a0.length<=100000000):passkeyref1_WordsF a0=some ((),wordsF a0,()):=by
 unfold passkeyref1_WordsF;rw [bleT h];rfl
theorem Vpq (a0:List (BitVec 64)) {r:Unit×(List UInt8×Unit)} (h:passkeyref1_WordsF a0=some r):Zgs a0=some r:=by
 by_cases hl:a0.length<=100000000
 ·rw [Veo _ hl] at h;rw [Vfi _ hl,h]
 ·unfold passkeyref1_WordsF at h;rw [bleF hl] at h;cases h
theorem Vdl:SoundT Tryz.prog cd gdn 41 S_passkeyref1_WordsF:=Vdk Vx2 λx r h=>Vpq _ h
end Go.Proofs.YtaddhgkhilmniaaGreatDoor

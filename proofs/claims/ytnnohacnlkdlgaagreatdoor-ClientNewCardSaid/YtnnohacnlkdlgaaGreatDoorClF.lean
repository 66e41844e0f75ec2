/- SipHash of program and document, and as a function of numbers that the kernel runs quickly; the bytes of words. No condition. -/
import Derived.Test.YtnnohacnlkdlgaaGreatDoorFns0
import Derived.Test.YtnnohacnlkdlgaaGreatDoorLib8
set_option linter.unusedVariables false
set_option linter.unusedSimpArgs false
set_option maxRecDepth 100000
namespace Go.Proofs.YtnnohacnlkdlgaaGreatDoor
open Go Go.Abs
open _root_.Option renaming bind_some → Qa
open _root_.Nat renaming shiftRight → Qb, xor → Qg, shiftLeft → Qh, lor → Qu, ble → Qv, add → Qw, mod_eq_of_lt → Qy
open _root_.BitVec renaming or_assoc → Qc, ofInt → Qi, toNat_shiftLeft → Ql, setWidth → Qm, ofInt_natCast → Qn, toNat_or → Qq, toNat_ushiftRight → Qs, toNat_setWidth → Qt, toNat_ofNat → Qx
open _root_.UInt8 renaming ofNat → Qd, ofBitVec → Qj
open _root_.Sum renaming elim_inl → Qf
open _root_.List renaming length_drop → Qk, length_append → Qo, length_cons → Qp, getD_eq_getElem?_getD → Qr, length_nil → Qz, drop_drop → Q0
namespace Sip
def rot (x:BitVec 64) (n:Nat):BitVec 64:=(x <<< n) ||| (x >>> (64 - n))
def sr (v:Jm):Jm:=
 ⟨rot (v.v0+v.v1) 32+(rot v.v3 16 ^^^ (v.v2+v.v3)),rot (rot v.v1 13 ^^^ (v.v0+v.v1)) 17 ^^^ ((v.v2+v.v3)+(rot v.v1 13 ^^^ (v.v0+v.v1))),rot ((v.v2+v.v3)+(rot v.v1 13 ^^^ (v.v0+v.v1))) 32,
  rot (rot v.v3 16 ^^^ (v.v2+v.v3)) 21 ^^^ (rot (v.v0+v.v1) 32+(rot v.v3 16 ^^^ (v.v2+v.v3)))⟩
def toA (s:Jm):Jq:=⟨s.v0,s.v1,s.v2,s.v3⟩
def ofA (s:Jq):Jm:=⟨s.a0,s.a1,s.a2,s.a3⟩
theorem Vls (s:Jq):Zfw s=some ((),toA (sr (ofA s)),()):=by kernel_rfl
def ab (s:Jm) (m:BitVec 64):Jm:=
 let t:=sr (sr ⟨s.v0,s.v1,s.v2,s.v3 ^^^ m⟩)
 ⟨t.v0 ^^^ m,t.v1,t.v2,t.v3⟩
def W (c:UInt8):BitVec 64:=Qm 64 c.toBitVec
def litk:List UInt8->Nat->BitVec 64
 | [],_=>0#64
 | c::r,k=>(W c <<< (8 * k)) ||| litk r (k+1)
def cb (d:List UInt8) (n:UInt8) (k:Nat):UInt8:=if k < d.length then d.getD k default else if k=7 then n else 0
def blk (d:List UInt8) (n:UInt8):BitVec 64:=
 W (cb d n 0) ||| (W (cb d n 1) <<< 8) ||| (W (cb d n 2) <<< 16) ||| (W (cb d n 3) <<< 24) ||| (W (cb d n 4) <<< 32) ||| (W (cb d n 5) <<< 40) ||| (W (cb d n 6) <<< 48) ||| (W (cb d n 7) <<< 56)
theorem Vtr (d:List UInt8) (n:UInt8) (h:8<=d.length):blk d n=litk (d.take 8) 0:=by
 match d,h with
 | a0::a1::a2::a3::a4::a5::a6::a7::r,_=>
  simp only [blk,cb,Qp,List.take_succ_cons,List.take_zero,litk]
  simp [List.getD_cons_zero,List.getD_cons_succ,Qc]
theorem W0:W 0=0#64:=rfl
theorem Vts (d:List UInt8) (n:UInt8) (h:d.length < 8):blk d n=litk d 0 ||| (W n <<< 56):=by
 match d,h with
 | [],_=>simp [blk,cb,litk,W0]
 | [a0],_=>simp [blk,cb,litk,W0]
 | [a0,a1],_=>simp [blk,cb,litk,W0]
 | [a0,a1,a2],_=>simp [blk,cb,litk,W0,Qc]
 | [a0,a1,a2,a3],_=>simp [blk,cb,litk,W0,Qc]
 | [a0,a1,a2,a3,a4],_=>simp [blk,cb,litk,W0,Qc]
 | [a0,a1,a2,a3,a4,a5],_=>simp [blk,cb,litk,W0,Qc]
 | [a0,a1,a2,a3,a4,a5,a6],_=>simp [blk,cb,litk,W0,Qc]
 | a0::a1::a2::a3::a4::a5::a6::a7::r,h=>simp at h; omega
theorem Vtt (b:List UInt8) (v:Jq) (i:Int) (m:BitVec 64) (k:Nat) (hk:k < 8) (h0:0<=i) (hl:b.length < 1000000000) (hi:i<=b.length) :
  Zih_L2b b (v,()) i m k=some (.inl (b,(v,()),i,(m <<< 8) ||| W (cb (b.drop i.toNat) (Qj (Qi 8 (b.length:Int))) k),(k:Int) - 1,())):=by
 unfold Zih_L2b
 rw [wI (i+k) (by omega),wI ((k:Int) - 1) (by omega)]
 simp only [show (0:Int)<=(k:Int) by omega,decide_true,cond_true]
 by_cases hc:i+k < b.length
 ·rw [Vco (by omega) hc]
  simp only [hc,decide_true,cond_true,Qa,cb,Qk]
  rw [if_pos (by omega)]
  have e:(List.drop i.toNat b).getD k default=ati b (i+k):=by
   unfold ati
   rw [Qr,List.getElem?_drop,Qr,show (i+(k:Int)).toNat=i.toNat+k by omega]
  rw [e]
  rfl
 ·simp only [hc,decide_false,cond_false,cb,Qk]
  rw [if_neg (by omega)]
  by_cases h7:k=7
  ·subst h7
   simp
   rfl
  ·have:¬ (k:Int)=7:=by omega
   simp only [this,h7,decide_false,cond_false,if_false]
   rfl
theorem fold8 (x0 x1 x2 x3 x4 x5 x6 x7:BitVec 64):(((((((((0#64 <<< 8 ||| x7) <<< 8 ||| x6) <<< 8 ||| x5) <<< 8 ||| x4) <<< 8 ||| x3) <<< 8 ||| x2) <<< 8 ||| x1) <<< 8 ||| x0))=x0 ||| (x1 <<< 8) ||| (x2 <<< 16) ||| (x3 <<< 24) ||| (x4 <<< 32) ||| (x5 <<< 40) ||| (x6 <<< 48) ||| (x7 <<< 56):=by
 have z:0#64 <<< 8 ||| x7=x7:=by simp
 have L:∀ (y x:BitVec 64) (n m:Nat),8+n=m->(y <<< 8 ||| x) <<< n=y <<< m ||| x <<< n:=by
  intro y x n m h
  rw [BitVec.shiftLeft_or_distrib,<- BitVec.shiftLeft_add,h]
 rw [z,L _ x1 8 16 rfl,L _ x2 16 24 rfl,L _ x3 24 32 rfl,L _ x4 32 40 rfl,L _ x5 40 48 rfl,L _ x6 48 56 rfl]
 generalize x1 <<< 8=y1,x2 <<< 16=y2,x3 <<< 24=y3,x4 <<< 32=y4,x5 <<< 40=y5,x6 <<< 48=y6,x7 <<< 56=y7
 ac_rfl
theorem Vwv (b:List UInt8) (v:Jq) (i:Int) (m:BitVec 64):Zih_L2b b (v,()) i m (-1)=some (.inr (b,(v,()),i,m,())):=rfl
theorem Vnu (b:List UInt8) (v:Jq) (i:Int) (h0:0<=i) (hl:b.length < 1000000000) (hi:i<=b.length) :
  Zih_L2 (b,(v,()),i,0#64,7,())=some (b,(v,()),i,blk (b.drop i.toNat) (Qj (Qi 8 (b.length:Int))),()):=by
 unfold Zih_L2 Yi5
 rw [show rounds=1180591620717411303415+1+1+1+1+1+1+1+1+1 from rfl]
 have st:=λm k hk=>Vtt b v i m k hk h0 hl hi
 rw [Vam]; simp only []
 rw [show (7:Int)=((7:Nat):Int) from rfl,st _ 7 (by omega),Qa,Qf,Vam]; simp only []
 rw [show ((7:Nat):Int) - 1=((6:Nat):Int) from rfl,st _ 6 (by omega),Qa,Qf,Vam]; simp only []
 rw [show ((6:Nat):Int) - 1=((5:Nat):Int) from rfl,st _ 5 (by omega),Qa,Qf,Vam]; simp only []
 rw [show ((5:Nat):Int) - 1=((4:Nat):Int) from rfl,st _ 4 (by omega),Qa,Qf,Vam]; simp only []
 rw [show ((4:Nat):Int) - 1=((3:Nat):Int) from rfl,st _ 3 (by omega),Qa,Qf,Vam]; simp only []
 rw [show ((3:Nat):Int) - 1=((2:Nat):Int) from rfl,st _ 2 (by omega),Qa,Qf,Vam]; simp only []
 rw [show ((2:Nat):Int) - 1=((1:Nat):Int) from rfl,st _ 1 (by omega),Qa,Qf,Vam]; simp only []
 rw [show ((1:Nat):Int) - 1=((0:Nat):Int) from rfl,st _ 0 (by omega),Qa,Qf,Vam]; simp only []
 rw [show ((0:Nat):Int) - 1 = -1 from rfl,Vwv,Qa,Sum.elim_inr]
 rw [fold8]
 rfl
def blocks:Nat->List UInt8->Jm->Jm
 | 0,_,s=>s
 | k+1,d,s=>blocks k (d.drop 8) (ab s (litk (d.take 8) 0))
def fin4 (s:Jm):BitVec 64:=
 let t:=sr (sr (sr (sr ⟨s.v0,s.v1,s.v2 ^^^ 255#64,s.v3⟩)))
 ((t.v0 ^^^ t.v1) ^^^ t.v2) ^^^ t.v3
def lastW (d:List UInt8) (n:Nat):BitVec 64:=litk d 0 ||| ((Qi 64 (n:Int)) <<< 56)
def s0 (k0 k1:BitVec 64):Jm:=⟨k0 ^^^ 8317987319222330741#64,k1 ^^^ 7237128888997146477#64,k0 ^^^ 7816392313619706465#64,k1 ^^^ 8387220255154660723#64⟩
def sip (k0 k1:BitVec 64) (b:List UInt8):BitVec 64:=fin4 (ab (blocks (b.length / 8) b (s0 k0 k1)) (lastW (b.drop (8 * (b.length / 8))) b.length))
theorem Vww (n:Nat):W (Qj (Qi 8 (n:Int))) <<< 56=(Qi 64 (n:Int)) <<< 56:=by
 simp only [W]
 apply BitVec.eq_of_getLsbD_eq
 intro i hi
 simp only [BitVec.getLsbD_shiftLeft,BitVec.getLsbD_setWidth,Qn,BitVec.getLsbD_ofNat]
 by_cases h:i < 56
 ·simp [h]
 ·have:i - 56 < 8:=by omega
  have:i - 56 < 64:=by omega
  simp [*]
theorem Vnv (b:List UInt8) (s:Jm) (hl:b.length < 1000000000) :
  Zih_L0 (b,(toA s,()),0,())=some ((toA (ab (blocks (b.length / 8) b s) (lastW (b.drop (8 * (b.length / 8))) b.length)),()),()):=by
 unfold Zih_L0 Yi3
 rw [Vc0 (λq=>q.1=b/\0<=q.2.2.1/\q.2.2.1<=(b.length:Int)+8/\q.2.2.1 % 8=0) (λq=>((b.length:Int)+9 - q.2.2.1).toNat)
  (λq=>((if q.2.2.1<=(b.length:Int) then toA (ab (blocks (((b.length:Int) - q.2.2.1).toNat / 8) (b.drop q.2.2.1.toNat) (ofA q.2.1.1)) (lastW (b.drop (8 * (b.length / 8))) b.length)) else q.2.1.1,()),()))]
 ·simp only [show (0:Int)<=(b.length:Int) by omega,if_true]
  simp only [Int.sub_zero,Int.toNat_natCast,Int.toNat_zero,List.drop_zero]
  rfl
 ·rintro ⟨y0,⟨v,u⟩,i,u2⟩ ⟨h1,h2,h3,h4⟩
  dsimp only at *
  subst h1
  simp only [Zih_L0b]
  by_cases hc:i<=y0.length
  ·left
   rw [Vnu y0 v i h2 hl hc]
   simp only [hc,decide_true,cond_true,Qa,Vls]
   rw [wI (i+8) (by omega)]
   refine ⟨_,rfl,⟨rfl,by dsimp only; omega,by dsimp only; omega,by dsimp only; omega⟩,by dsimp only; omega,?_⟩
   dsimp only
   rw [if_pos trivial]
   by_cases hf:8<=(y0.drop i.toNat).length
   ·rw [Vtr _ _ hf]
    simp only [Qk] at hf
    rw [if_pos (show i+8<=(y0.length:Int) by omega),show ((y0.length:Int) - i).toNat / 8=((y0.length:Int) - (i+8)).toNat / 8+1 by omega]
    simp only [blocks,Q0]
    rw [show (i+8).toNat=i.toNat+8 by omega]
    rfl
   ·have hlt:(y0.drop i.toNat).length < 8:=by omega
    rw [Vts _ _ hlt,Vww]
    simp only [Qk] at hlt
    rw [if_neg (show ¬ i+8<=(y0.length:Int) by omega),show ((y0.length:Int) - i).toNat / 8=0 by omega]
    simp only [blocks]
    rw [show 8 * (y0.length / 8)=i.toNat by omega]
    rfl
  ·right
   simp only [hc,decide_false,cond_false,if_false]
 ·exact ⟨rfl,by simp,by dsimp only; omega,by simp⟩
 ·rw [Vah]; dsimp only; omega
theorem Vnw (k0 k1:BitVec 64) (b:List UInt8) (hl:b.length < 1000000000):Zih k0 k1 b=some ((),sip k0 k1 b,()):=by
 unfold Zih
 rw [show (⟨(k0 ^^^ 8317987319222330741#64),(k1 ^^^ 7237128888997146477#64),(k0 ^^^ 7816392313619706465#64),(k1 ^^^ 8387220255154660723#64)⟩:Jq)=toA (s0 k0 k1) from rfl,Vnv b (s0 k0 k1) hl]
 simp only [Qa,Vls]
 rfl
def fN {α:Type} (n:Nat) (k:Nat->α):α:=match n with | 0=>k 0 | m+1=>k (m+1)
theorem fN_eq {α:Type} (n:Nat) (k:Nat->α):fN n k=k n:=by cases n<;>rfl
def m64 (x:Nat):Nat:=Nat.mod x 18446744073709551616
def rotN (x k j:Nat):Nat:=Qu (m64 (Qh x k)) (Qb x j)
def rndN {α:Type} (a b c d:Nat) (K:Nat->Nat->Nat->Nat->α):α:=
 fN (m64 (Qw a b)) λs=>fN (m64 (Qw c d)) λt=>fN (Qg (rotN b 13 51) s) λu=>fN (Qg (rotN d 16 48) t) λw=>
 fN (m64 (Qw t u)) λp=>fN (m64 (Qw (rotN s 32 32) w)) λq=>fN (Qg (rotN u 17 47) p) λb'=>fN (rotN p 32 32) λc'=>fN (Qg (rotN w 21 43) q) λd'=>K q b' c' d'
def finN (a b c d:Nat):Nat:=fN (Qg c 255) λc=>rndN a b c d λa b c d=>rndN a b c d λa b c d=>rndN a b c d λa b c d=>rndN a b c d λa b c d=>fN (Qg (Qg (Qg a b) c) d) λr=>r
def absN {α:Type} (w a b c d:Nat) (K:Nat->Nat->Nat->Nat->α):α:=fN (Qg d w) λd=>rndN a b c d λa b c d=>rndN a b c d λa b c d=>fN (Qg a w) λa=>K a b c d
def blkN (len:Nat):List UInt8->Nat->Nat->Nat->Nat->Nat->Nat->Nat
 | [],_,w,a,b,c,d=>fN (Qu w (m64 (Qh (m64 len) 56))) λw=>absN w a b c d finN
 | x::r,p,w,a,b,c,d=>fN (Qu w (m64 (Qh x.toNat (Nat.mul 8 p)))) λw=>match Nat.beq p 7 with
  | true=>absN w a b c d λa b c d=>blkN len r 0 0 a b c d
  | false=>fN (Nat.succ p) λp=>blkN len r p w a b c d
def sumN (a b:Nat) (l:List UInt8):Nat:=fN l.length λlen=>fN a λa=>fN b λb=>fN (Qg a 8317987319222330741) λv0=>fN (Qg b 7237128888997146477) λv1=>fN (Qg a 7816392313619706465) λv2=>fN (Qg b 8387220255154660723) λv3=>blkN len l 0 0 v0 v1 v2 v3
theorem Vfx (x:BitVec 64) (k:Nat):rotN x.toNat k (64 - k)=(rot x k).toNat:=by
 unfold rot
 rw [Qq,Ql,Qs]
 rfl
theorem Vwx (x y:BitVec 64):m64 (Qw x.toNat y.toNat)=(x+y).toNat:=by
 rw [BitVec.toNat_add]
 rfl
theorem Vet (x y:BitVec 64):Qg x.toNat y.toNat=(x ^^^ y).toNat:=by
 rw [BitVec.toNat_xor]
 rfl
theorem Vhy {α:Type} (s:Jm) (K:Nat->Nat->Nat->Nat->α):rndN s.v0.toNat s.v1.toNat s.v2.toNat s.v3.toNat K=K (sr s).v0.toNat (sr s).v1.toNat (sr s).v2.toNat (sr s).v3.toNat:=by
 unfold rndN
 simp only [fN_eq,Vwx,Vfx _ 13,Vfx _ 16,Vfx _ 32,Vfx _ 17,Vfx _ 21,Vet]
 rfl
theorem Vwy (s:Jm):finN s.v0.toNat s.v1.toNat s.v2.toNat s.v3.toNat=(fin4 s).toNat:=by
 unfold finN
 rw [fN_eq,show (255:Nat)=(255#64).toNat from rfl,Vet]
 rw [Vhy ⟨s.v0,s.v1,s.v2 ^^^ 255#64,s.v3⟩]
 simp only [Vhy,fN_eq,Vet]
 rfl
theorem Vnx {α:Type} (m:BitVec 64) (s:Jm) (K:Nat->Nat->Nat->Nat->α):absN m.toNat s.v0.toNat s.v1.toNat s.v2.toNat s.v3.toNat K=K (ab s m).v0.toNat (ab s m).v1.toNat (ab s m).v2.toNat (ab s m).v3.toNat:=by
 unfold absN
 rw [fN_eq,Vet]
 rw [Vhy ⟨s.v0,s.v1,s.v2,s.v3 ^^^ m⟩]
 simp only [Vhy,fN_eq,Vet]
 rfl
theorem Vi8:∀ (l:List UInt8) (x:UInt8) (k:Nat),litk (l++[x]) k=litk l k ||| (W x <<< (8 * (k+l.length)))
 | [],x,k=>by simp [litk]
 | c::r,x,k=>by
  simp only [List.cons_append,litk,Vi8 r x (k+1),Qp,Qc]
  rw [show k+1+r.length=k+(r.length+1) by omega]
theorem Vwz (x:UInt8) (k:Nat):m64 (Qh x.toNat k)=(W x <<< k).toNat:=by
 rw [Ql]
 have:(W x).toNat=x.toNat:=by
  unfold W
  rw [Qt]
  exact Qy (by have:=x.toNat_lt; omega)
 rw [this]; rfl
def tailS (n:Nat) (d:List UInt8) (s:Jm):BitVec 64:=fin4 (ab (blocks (d.length / 8) d s) (lastW (d.drop (8 * (d.length / 8))) n))
theorem Vkq (n:Nat) (q r:List UInt8) (hq:q.length=8) (s:Jm):tailS n (q++r) s=tailS n r (ab s (litk q 0)):=by
 unfold tailS
 have h1:(q++r).length / 8=r.length / 8+1:=by rw [Qo,hq]; omega
 rw [h1]
 simp only [blocks]
 have h2:(q++r).drop 8=r:=by rw [<- hq]; exact List.drop_left
 have h3:(q++r).take 8=q:=by rw [<- hq]; exact List.take_left
 have h4:(q++r).drop (8 * (r.length / 8+1))=r.drop (8 * (r.length / 8)):=by
  rw [show 8 * (r.length / 8+1)=8+8 * (r.length / 8) by omega,<- Q0,h2]
 rw [h2,h3,h4]
theorem Vkr (n:Nat):∀ (r pre:List UInt8) (s:Jm),pre.length < 8->blkN n r pre.length (litk pre 0).toNat s.v0.toNat s.v1.toNat s.v2.toNat s.v3.toNat=(tailS n (pre++r) s).toNat
 | [],pre,s,h=>by
  unfold blkN
  have e:Qu (litk pre 0).toNat (m64 (Qh (m64 n) 56))=(lastW pre n).toNat:=by
   unfold lastW
   rw [Qq,Ql,Qn,Qx]
   rfl
  rw [fN_eq,e,Vnx,Vwy]
  unfold tailS
  rw [List.append_nil,show pre.length / 8=0 by omega]
  rfl
 | x::r,pre,s,h=>by
  unfold blkN
  have e:Qu (litk pre 0).toNat (m64 (Qh x.toNat (Nat.mul 8 pre.length)))=(litk (pre++[x]) 0).toNat:=by
   rw [Vwz,Vi8,Nat.zero_add,Qq]
   rfl
  rw [fN_eq,e]
  have hd:pre++x::r=(pre++[x])++r:=by simp
  by_cases h7:pre.length=7
  ·rw [show Nat.beq pre.length 7=true by rw [h7]; rfl]
   dsimp only
   rw [Vnx,hd,Vkq n (pre++[x]) r (by simp [h7])]
   exact Vkr n r [] _ (by simp)
  ·rw [show Nat.beq pre.length 7=false by cases hb:Nat.beq pre.length 7 with | false=>rfl | true=>exact absurd (Nat.eq_of_beq_eq_true hb) h7]
   dsimp only
   rw [fN_eq,hd]
   have:=Vkr n r (pre++[x]) s (by simp; omega)
   rw [Qo,Qp,Qz] at this
   exact this
theorem Vw0 (a b:BitVec 64) (l:List UInt8):sumN a.toNat b.toNat l=(sip a b l).toNat:=by
 unfold sumN
 simp only [fN_eq]
 have:=Vkr l.length l [] (s0 a b) (by simp)
 refine Eq.trans ?_ (this.trans ?_)
 ·simp only [s0,Qz,litk]
  rw [show (8317987319222330741:Nat)=(8317987319222330741#64).toNat from rfl,show (7237128888997146477:Nat)=(7237128888997146477#64).toNat from rfl,show (7816392313619706465:Nat)=(7816392313619706465#64).toNat from rfl,show (8387220255154660723:Nat)=(8387220255154660723#64).toNat from rfl]
  simp only [Vet]
  rfl
 ·rw [List.nil_append]; rfl
end Sip
open Sip
theorem Vc5 {P:Program} {C:Cd T} {G:Nat->Option (List D)} {f:FuncId} {ps:List Slot} {rs:List Fld} {F F':tySs T ps->Option (tyO T ps×tyFs T rs)} (h:SoundT P C G f ⟨ps,rs,F⟩) (hl:∀ x r,F' x=some r->F x=some r):SoundT P C G f ⟨ps,rs,F'⟩:=
 ⟨h.1,λI own w args x r h1 h2 h3 h4 h5=>h.2 I own w args x r h1 h2 h3 h4 (hl x r h5)⟩
theorem bleT {a b:Nat} (h:a<=b):Qv a b=true:=Eq.mpr Nat.ble_eq h
theorem bleF {a b:Nat} (h:¬ a<=b):Qv a b=false:=by
 cases hb:Qv a b with
 | false=>rfl
 | true=>exact absurd (Nat.le_of_ble_eq_true hb) h
def passkeyref1_SumF (a0 a1:BitVec 64) (a2:List UInt8):Option (Unit×(BitVec 64×Unit)):=bif Qv a2.length 999999999 then some ((),BitVec.ofNat 64 (sumN a0.toNat a1.toNat a2),()) else none
def S_passkeyref1_SumF:FSpec T:=⟨[.f (.v .u64),.f (.v .u64),.f (.v (.rs 0))],[.v .u64],λx=>passkeyref1_SumF x.1 x.2.1 x.2.2.1⟩
theorem Vny (a0 a1:BitVec 64) (a2:List UInt8) (h:a2.length < 1000000000):passkeyref1_SumF a0 a1 a2=some ((),sip a0 a1 a2,()):=by
 unfold passkeyref1_SumF
 rw [bleT (by omega),Vw0]
 simp
theorem Vw1 (a0 a1:BitVec 64) (a2:List UInt8) {r:Unit×(BitVec 64×Unit)} (h:passkeyref1_SumF a0 a1 a2=some r):Zih a0 a1 a2=some r:=by
 by_cases hl:a2.length < 1000000000
 ·rw [Vny _ _ _ hl] at h
  rw [Vnw _ _ _ hl,h]
 ·unfold passkeyref1_SumF at h
  rw [bleF (by omega)] at h
  cases h
theorem Vd4:SoundT Tryz.prog cd gdn 216 S_passkeyref1_SumF:=Vc5 Vvk λx r h=>Vw1 _ _ _ h
def be8 (n:BitVec 64):Nat->List UInt8
 | 0=>[]
 | k+1=>Qj (Qm 8 (n >>> (8 * k)))::be8 n k
def wordsF:List (BitVec 64)->List UInt8
 | []=>[]
 | x::r=>fN x.toNat λn=>[Qd (Qb n 56),Qd (Qb n 48),Qd (Qb n 40),Qd (Qb n 32),Qd (Qb n 24),Qd (Qb n 16),Qd (Qb n 8),Qd n]++wordsF r
theorem byN (x:BitVec 64) (k:Nat):Qd (Qb x.toNat k)=Qj (Qm 8 (x >>> k)):=by
 apply UInt8.toNat_inj.1
 show _=(Qm 8 (x >>> k)).toNat
 rw [Qt,Qs]
 rfl
theorem Vks (x:BitVec 64) (r:List (BitVec 64)):wordsF (x::r)=be8 x 8++wordsF r:=by
 have h0:=byN x 0
 simp only [wordsF,fN_eq,byN,be8]
 rw [<- byN x 0]
 rfl
theorem Vnz {n:Nat} (h:n<=1000000000):small n 1=true:=by
 unfold small
 simp only [decide_eq_true_eq]
 omega
theorem Vtu (l:List (BitVec 64)) (z:Int) (n:BitVec 64) (hz:getI l z=some n) (out:List UInt8) (ho:out.length<=900000000):Zft_L2 (l,out,z,7,())=some (l,out++be8 n 8,z,()):=by
 unfold Zft_L2 Yi4
 rw [Vc0 (λq=>q.1=l/\q.2.2.1=z/\-1<=q.2.2.2.1/\q.2.2.2.1<=7/\(q.2.1.length:Int)+q.2.2.2.1<=900000100) (λq=>(q.2.2.2.1+1).toNat) (λq=>(q.1,q.2.1++be8 n (q.2.2.2.1+1).toNat,q.2.2.1,()))]
 ·rfl
 ·rintro ⟨l',o,z',i,u⟩ ⟨h0,h1,h2,h3,h4⟩
  dsimp only at *
  subst h0; subst h1
  simp only [Zft_L2b]
  by_cases hi:0<=i
  ·left
   obtain ⟨j,rfl⟩:∃ j:Nat,i=(j:Int):=⟨i.toNat,by omega⟩
   have es:(Qi 64 (8 * (j:Int))).toNat=8 * j:=by
    rw [show (8 * (j:Int))=((8 * j:Nat):Int) by omega,Qn,Qx,Qy (by omega)]
   rw [wI (8 * (j:Int)) (by omega),wI ((j:Int) - 1) (by omega),show decide ((0:Int)<=(j:Int))=true by simp,hz,es]
   simp only [cond_true,Qa]
   rw [Vnz (by simp; omega)]
   refine ⟨_,rfl,⟨rfl,rfl,by dsimp only; omega,by dsimp only; omega,by dsimp only; simp; omega⟩,by dsimp only; omega,?_⟩
   dsimp only
   rw [show ((j:Int)+1).toNat=j+1 by omega,show ((j:Int) - 1+1).toNat=j by omega]
   simp [be8]
  ·right
   rw [show decide ((0:Int)<=i)=false by simpa using hi,show (i+1).toNat=0 by omega]
   simp [be8]
 ·exact ⟨rfl,rfl,by dsimp only; omega,by dsimp only; omega,by dsimp only; omega⟩
 ·rw [Vah]; dsimp only; omega
theorem Vn0 (n:BitVec 64):∀ k,(be8 n k).length=k
 | 0=>rfl
 | k+1=>by simp [be8,Vn0 n k]
theorem Vmy (l:List (BitVec 64)) (h:l.length<=100000000):Zft l=some ((),wordsF l,()):=by
 unfold Zft Zft_L0 Yi3
 rw [Vc0 (λq=>q.1=l/\0<=q.2.2.1/\q.2.2.1<=(l.length:Int)/\(q.2.1.length:Int)=8 * q.2.2.1) (λq=>((l.length:Int) - q.2.2.1).toNat) (λq=>(q.2.1++wordsF (l.drop q.2.2.1.toNat),()))]
 ·simp
 ·rintro ⟨l',o,i,u⟩ ⟨h0,h1,h2,h3⟩
  dsimp only at *
  subst h0
  simp only [Zft_L0b]
  by_cases hi:i < (l'.length:Int)
  ·left
   have hlt:i.toNat < l'.length:=by omega
   rw [show decide (i < (l'.length:Int))=true by simpa using hi]
   simp only [cond_true]
   rw [Vtu l' i (ati l' i) (Vco h1 hi) o (by omega)]
   simp only [Qa]
   rw [wI (i+1) (by omega)]
   refine ⟨_,rfl,⟨rfl,by dsimp only; omega,by dsimp only; omega,by dsimp only; rw [Qo,Vn0]; omega⟩,by dsimp only; omega,?_⟩
   dsimp only
   have e:l'.drop i.toNat=ati l' i::l'.drop (i.toNat+1):=by
    rw [List.drop_eq_getElem_cons hlt]
    simp [ati,hlt]
   rw [e,Vks,show (i+1).toNat=i.toNat+1 by omega,List.append_assoc]
  ·right
   have:i=l'.length:=by omega
   rw [show decide (i < (l'.length:Int))=false by simpa using hi]
   subst this
   simp [wordsF]
 ·exact ⟨rfl,by simp,by simp,by simp⟩
 ·rw [Vah]; dsimp only; omega
def passkeyref1_WordsF (a0:List (BitVec 64)):Option (Unit×(List UInt8×Unit)):=bif Qv a0.length 100000000 then some ((),wordsF a0,()) else none
def S_passkeyref1_WordsF:FSpec T:=⟨[.f (.v (.rs 4))],[(.own 0)],λx=>passkeyref1_WordsF x.1⟩
theorem Vkt (a0:List (BitVec 64)) (h:a0.length<=100000000):passkeyref1_WordsF a0=some ((),wordsF a0,()):=by
 unfold passkeyref1_WordsF
 rw [bleT h]
 rfl
theorem Vn1 (a0:List (BitVec 64)) {r:Unit×(List UInt8×Unit)} (h:passkeyref1_WordsF a0=some r):Zft a0=some r:=by
 by_cases hl:a0.length<=100000000
 ·rw [Vkt _ hl] at h
  rw [Vmy _ hl,h]
 ·unfold passkeyref1_WordsF at h
  rw [bleF hl] at h
  cases h
theorem Vc6:SoundT Tryz.prog cd gdn 122 S_passkeyref1_WordsF:=Vc5 Vvl λx r h=>Vn1 _ h
end Go.Proofs.YtnnohacnlkdlgaaGreatDoor

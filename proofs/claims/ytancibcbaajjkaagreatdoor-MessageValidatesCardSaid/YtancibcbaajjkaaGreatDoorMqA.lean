/- Out of the texts of another seat of this chapter: what the laws of requests need. Written by a program. -/
import Derived.Test.YtancibcbaajjkaaGreatDoorFns
import Derived.Test.YtancibcbaajjkaaGreatDoorLib8
set_option linter.unusedVariables false
set_option linter.unusedSimpArgs false
set_option maxRecDepth 100000
namespace Go.Proofs.YtancibcbaajjkaaGreatDoor
open Go Go.Abs
open _root_.List renaming length_append → Qa, length_cons → Qb, getElem?_eq_getElem → Qd, append_assoc → Qe, mem_of_getElem? → Qg, cons_append → Qh, getD_eq_getElem?_getD → Ql, flatten_cons → Qm, append_nil → Qp, reverse_cons → Qs, range → Qu, length_nil → Qv, take_of_length_le → Q1, take_add_one → Q2, replicate → Q3, length_take → Q6, drop_eq_getElem_cons → Q9, flatMap_cons → Qaa, length_singleton → Qae, mem_cons_of_mem → Qaf, map_cons → Qah, zip_cons_cons → Qaj, isEmpty_iff → Qao, drop_drop → Qaq, mem_cons → Qas, take_append_drop → Qax, singleton_append → Qay, set_append_right → Qaz, length_replicate → Qa0, getElem?_map → Qa3, take_length → Qa5, nil_append → Qa6, mem_append → Qa7, headD_cons → Qa8
open _root_.BitVec renaming ofInt → Qc, ofNat → Qf, setWidth → Qo, ofInt_natCast → Qr, toNat_ofNat → Qt, getLsbD_shiftLeft → Qar, eq_of_toNat_eq → Qat
open _root_.UInt8 renaming ofBitVec → Qi
open _root_.Bool renaming not_true → Qj, or_eq_false_iff → Qw, and_eq_true → Qx, true_and → Q0, not_false → Q4, false_and → Q5, false_or → Qab, and_self → Qac, and_false → Qag, or_false → Qai, not_eq_false' → Qak, or_self → Qal, true_or → Qav, or_true → Qaw, and_eq_false_iff → Qa1, and_true → Qbb, not_not → Qbd
open Go.IntKind renaming wrap → Qk, bits → Qa9
open _root_.Int renaming toNat_natCast → Qn, natCast_nonneg → Qa4, tmod → Qba
open _root_.Sum renaming elim_inl → Qq, inl → Q8, elim_inr → Qad, inr → Qam
open _root_.Prod.mk renaming injEq → Qy
open _root_.Nat renaming mod_eq_of_lt → Qz, add_mul → Qap, add_assoc → Qbc
open _root_.Option renaming toList_some → Q7, bind → Qan, bind_some → Qa2
open _root_.Option.some renaming inj → Qau
theorem Vcp {n:Nat} (h:n < 1000000000):small n 1=true:=by
 unfold small; simp; omega
theorem Vvq {n:Nat} (h:n < 1000000):small n 40=true:=by
 unfold small; simp; omega
theorem Vh3 {n:Nat} (h:n < 1000000):small n 32=true:=by
 unfold small; simp; omega
theorem Vawa {a b:Nat} (h:a<=b):Nat.ble a b=true:=Eq.mpr Nat.ble_eq h
def byt (n:BitVec 64):UInt8:=Qi (Qo 8 n)
def beb (n:BitVec 64):Nat->List UInt8
 | 0=>[]
 | k+1=>byt (n >>> (8 * k))::beb n k
def hdr (m:UInt8) (n:BitVec 64):List UInt8:=
 bif decide (n.toNat < 24) then [m+byt n] else bif decide (n.toNat < 256) then (m+24)::beb n 1 else bif decide (n.toNat < 65536) then (m+25)::beb n 2 else bif decide (n.toNat < 4294967296) then (m+26)::beb n 4 else (m+27)::beb n 8
def mj (k:Int):UInt8:=bif decide (k=2) then 32 else bif decide (k=3) then 64 else bif decide (k=4) then 96 else bif decide (k=5) then 128 else bif decide (k=6) then 160 else 0
def isD (k:Int):Bool:=decide (k=3)||decide (k=4)
def isN (k:Int):Bool:=decide (k=5)||decide (k=6)
def num (x:Ja):BitVec 64:=bif isD x.kind then Qc 64 (x.data.length:Int) else x.number
def hdI (x:Ja):List UInt8:=bif decide (x.kind=7) then [244+byt x.number] else bif decide (x.kind=8) then [246] else hdr (mj x.kind) (num x)
def enc (x:Ja):List UInt8:=hdI x++x.data
theorem Vk6 (n:BitVec 64):∀ k,(beb n k).length=k
 | 0=>rfl
 | k+1=>by simp [beb,Vk6 n k]
theorem Vvr (m:UInt8) (n:BitVec 64):1<=(hdr m n).length/\(hdr m n).length<=9:=by
 unfold hdr
 cases decide (n.toNat < 24)<;>cases decide (n.toNat < 256)<;>cases decide (n.toNat < 65536)<;>cases decide (n.toNat < 4294967296)<;>simp [Vk6]
theorem Vh4 (x:Ja):1<=(hdI x).length/\(hdI x).length<=9:=by
 unfold hdI
 have:=Vvr (mj x.kind) (num x)
 cases decide (x.kind=7)<;>cases decide (x.kind=8)<;>simp<;>omega
theorem Veta (x:Ja):enc x≠[]:=by
 have h1:=(Vh4 x).1
 intro h
 have h2:=congrArg List.length h
 unfold enc at h2
 rw [Qa,Qv] at h2
 omega
theorem Vgx (out:List UInt8) (n:BitVec 64) (k:Nat) (hk:k<=8) (ho:out.length < 100000000):Zgw_L1 (out,n,(k:Int) - 1,())=some (out++beb n k,()):=by
 unfold Zgw_L1
 rw [Vek (λq=>q.2.1=n/\-1<=q.2.2.1/\q.2.2.1<=7/\(q.1.length:Int)+q.2.2.1<=200000000) (λq=>(q.2.2.1+1).toNat) (λq=>(q.1++beb q.2.1 (q.2.2.1+1).toNat,()))]
 ·rw [show ((k:Int) - 1+1).toNat=k by omega]
 ·rintro ⟨o,m,i,u⟩ ⟨h1,h2,h3,h4⟩
  dsimp only at *
  subst h1
  simp only [Zgw_L1b]
  by_cases hi:0<=i
  ·left
   obtain ⟨j,rfl⟩:∃ j:Nat,i=(j:Int):=⟨i.toNat,by omega⟩
   rw [Vaa (n:=8 * (j:Int)) (by omega) (by omega),Vaa (n:=(j:Int) - 1) (by omega) (by omega),show decide ((0:Int)<=(j:Int))=true by simp,show decide ((0:Int)<=8 * (j:Int))=true by simp; omega,Vcp (by simp; omega)]
   refine ⟨_,rfl,⟨rfl,by dsimp only; omega,by dsimp only; omega,by dsimp only; simp; omega⟩,by dsimp only; omega,?_⟩
   dsimp only
   rw [show ((j:Int)+1).toNat=j+1 by omega,show ((j:Int) - 1+1).toNat=j by omega,show (8 * (j:Int)).toNat=8 * j by omega]
   simp [beb,byt]
  ·right
   rw [show decide ((0:Int)<=i)=false by simpa using hi,show (i+1).toNat=0 by omega]
   simp [beb]
 ·exact ⟨rfl,by dsimp only; omega,by dsimp only; omega,by dsimp only; omega⟩
 ·rw [Vab]; dsimp only; omega
theorem Vbc (out:List UInt8) (m:UInt8) (n:BitVec 64) (ho:out.length < 10000000):Zgw out m n=some ((),out++hdr (Qi (m.toBitVec <<< 5)) n,()):=by
 unfold Zgw hdr
 have e24:(24#64).toNat=24:=rfl
 have e256:(256#64).toNat=256:=rfl
 have e16:(65536#64).toNat=65536:=rfl
 have e32:(4294967296#64).toNat=4294967296:=rfl
 rw [e24,e256,e16,e32]
 generalize Qi (m.toBitVec <<< 5)=f
 by_cases h1:n.toNat < 24
 ·simp only [h1,decide_true,cond_true]
  rw [Vcp (by simp; omega)]
  rfl
 ·by_cases h2:n.toNat < 256
  ·simp only [h1,h2,decide_true,decide_false,cond_true,cond_false,bindS,Qq]
   rw [Vcp (by simp; omega),Vaa (n:=(1:Int) - 1) (by omega) (by omega),show (1:Int) - 1=((1:Nat):Int) - 1 from rfl,Vgx _ _ 1 (by omega) (by simp; omega)]
   simp only [cond_true,bindS,Qe]
   rfl
  ·by_cases h3:n.toNat < 65536
   ·simp only [h1,h2,h3,decide_true,decide_false,cond_true,cond_false,bindS,Qq]
    rw [Vcp (by simp; omega),Vaa (n:=(2:Int) - 1) (by omega) (by omega),show (2:Int) - 1=((2:Nat):Int) - 1 from rfl,Vgx _ _ 2 (by omega) (by simp; omega)]
    simp only [cond_true,bindS,Qe]
    rfl
   ·by_cases h4:n.toNat < 4294967296
    ·simp only [h1,h2,h3,h4,decide_true,decide_false,cond_true,cond_false,bindS,Qq]
     rw [Vcp (by simp; omega),Vaa (n:=(4:Int) - 1) (by omega) (by omega),show (4:Int) - 1=((4:Nat):Int) - 1 from rfl,Vgx _ _ 4 (by omega) (by simp; omega)]
     simp only [cond_true,bindS,Qe]
     rfl
    ·simp only [h1,h2,h3,h4,decide_true,decide_false,cond_true,cond_false,bindS,Qq]
     rw [Vcp (by simp; omega),Vaa (n:=(8:Int) - 1) (by omega) (by omega),show (8:Int) - 1=((8:Nat):Int) - 1 from rfl,Vgx _ _ 8 (by omega) (by simp; omega)]
     simp only [cond_true,bindS,Qe]
     rfl
def kin (x:Ja):Prop:=1<=x.kind/\x.kind<=8/\(isD x.kind=false->x.data=[])
theorem Vfj (out:List UInt8) (x:Ja) (hk:kin x) (ho:out.length < 1000000) (hx:x.data.length < 1000000):Zgx out x=some ((),out++enc x,()):=by
 obtain ⟨k,n,d⟩:=x
 obtain ⟨h1,h2,h3⟩:=hk
 dsimp only at h1 h2 h3 hx
 unfold Zgx enc hdI num
 dsimp only
 have hl:=λm n=>(Vvr m n).2
 have hk:k=1\/k=2\/k=3\/k=4\/k=5\/k=6\/k=7\/k=8:=by omega
 rcases hk with rfl | rfl | rfl | rfl | rfl | rfl | rfl | rfl
 ·rw [h3 rfl,Qp]
  exact (congrArg (λq=>Qan q λr9=>some ((),(r9.2.1,()))) (Vbc out 0 n (by omega))).trans rfl
 ·rw [h3 rfl,Qp]
  exact (congrArg (λq=>Qan q λr9=>some ((),(r9.2.1,()))) (Vbc out 1 n (by omega))).trans rfl
 ·have:=Vbc out 2 (Qc 64 (d.length:Int)) (by omega)
  have hs:=Vcp (n:=(out++hdr 64 (Qc 64 (d.length:Int))).length+d.length) (by have:=hl 64 (Qc 64 (d.length:Int)); rw [Qa]; omega)
  have e:(Qi ((2:UInt8).toBitVec <<< 5))=64:=by decide
  rw [e] at this
  show ((Zgw out 2 (Qc 64 (d.length:Int))).bind λr3=>(bif small ((r3.2.1).length+(d:List (UInt8)).length) 1 then (some ((),((r3.2.1++d),()))) else none))=_
  rw [this]
  simp only [bindS]
  rw [hs]
  simp only [cond_true,Qe]
  rfl
 ·have:=Vbc out 3 (Qc 64 (d.length:Int)) (by omega)
  have hs:=Vcp (n:=(out++hdr 96 (Qc 64 (d.length:Int))).length+d.length) (by have:=hl 96 (Qc 64 (d.length:Int)); rw [Qa]; omega)
  have e:(Qi ((3:UInt8).toBitVec <<< 5))=96:=by decide
  rw [e] at this
  show ((Zgw out 3 (Qc 64 (d.length:Int))).bind λr3=>(bif small ((r3.2.1).length+(d:List (UInt8)).length) 1 then (some ((),((r3.2.1++d),()))) else none))=_
  rw [this]
  simp only [bindS]
  rw [hs]
  simp only [cond_true,Qe]
  rfl
 ·rw [h3 rfl,Qp]
  exact (congrArg (λq=>Qan q λr9=>some ((),(r9.2.1,()))) (Vbc out 4 n (by omega))).trans rfl
 ·rw [h3 rfl,Qp]
  exact (congrArg (λq=>Qan q λr9=>some ((),(r9.2.1,()))) (Vbc out 5 n (by omega))).trans rfl
 ·rw [h3 rfl,Qp]
  show (bif small (out.length+1) 1 then _ else none)=_
  rw [Vcp (by omega)]
  rfl
 ·rw [h3 rfl,Qp]
  show (bif small (out.length+1) 1 then _ else none)=_
  rw [Vcp (by omega)]
  rfl
theorem Vyl (n:BitVec 64):passkeyref1_Words [n]=some ((),beb n 8,()):=by
 have hL : ∀ out : List UInt8, out.length<=100->passkeyref1_Words_L2 ([n], out, 0, 7, ()) = some ([n], out++beb n 8, 0, ()) := by
  intro out ho
  unfold passkeyref1_Words_L2
  rw [Vek (λq=>q.1=[n]/\q.2.2.1=0/\-1<=q.2.2.2.1/\q.2.2.2.1<=7/\(q.2.1.length:Int)+q.2.2.2.1<=200) (λq=>(q.2.2.2.1+1).toNat) (λq=>(q.1,q.2.1++beb n (q.2.2.2.1+1).toNat,q.2.2.1,()))]
  ·rfl
  ·rintro ⟨l,o,z,i,u⟩ ⟨h0,h1,h2,h3,h4⟩
   dsimp only at *
   subst h0; subst h1
   simp only [passkeyref1_Words_L2b]
   by_cases hi:0<=i
   ·left
    obtain ⟨j,rfl⟩:∃ j:Nat,i=(j:Int):=⟨i.toNat,by omega⟩
    have eg:getI [n] 0=some n:=rfl
    have es:(Qc 64 (8 * (j:Int))).toNat=8 * j:=by
     rw [show (8 * (j:Int))=((8 * j:Nat):Int) by omega,Qr,Qt,Qz (by omega)]
    rw [Vaa (n:=8 * (j:Int)) (by omega) (by omega),Vaa (n:=(j:Int) - 1) (by omega) (by omega),show decide ((0:Int)<=(j:Int))=true by simp,eg,es]
    simp only [cond_true,bindS]
    rw [Vcp (by simp; omega)]
    refine ⟨_,rfl,⟨rfl,rfl,by dsimp only; omega,by dsimp only; omega,by dsimp only; simp; omega⟩,by dsimp only; omega,?_⟩
    dsimp only
    rw [show ((j:Int)+1).toNat=j+1 by omega,show ((j:Int) - 1+1).toNat=j by omega]
    simp [beb,byt]
   ·right
    rw [show decide ((0:Int)<=i)=false by simpa using hi,show (i+1).toNat=0 by omega]
    simp [beb]
  ·exact ⟨rfl,rfl,by dsimp only; omega,by dsimp only; omega,by dsimp only; omega⟩
  ·rw [Vab]; dsimp only; omega
 unfold passkeyref1_Words passkeyref1_Words_L0
 rw [Vab,show (1180591620717411303424:Nat)=1180591620717411303422+1+1 from rfl,Vad]
 have e1:passkeyref1_Words_L0b [n] [] 0=some (.inl ([n],beb n 8,1,())):=by
  unfold passkeyref1_Words_L0b
  rw [hL [] (by simp)]
  rfl
 have e2:passkeyref1_Words_L0b [n] (beb n 8) 1=some (.inr (beb n 8,())):=rfl
 dsimp only
 rw [e1,bindS,Qq,Vad]
 dsimp only
 rw [e2,bindS,Qad,bindS]
def tailH (j2:(BitVec 64) × UInt8 × Unit):Option (Unit × (List UInt8 × Unit)):=(bif (decide (j2.1.toNat < (24#64).toNat)) then (let v3:UInt8:=(Qi (j2.2.1.toBitVec + (Qi (Qo 8 j2.1)).toBitVec))
 (some ((),(([v3]:List (UInt8)),()))))
 else (bif (decide (j2.1.toNat < (256#64).toNat)) then (let v4:List (UInt8):=([(Qi (j2.2.1.toBitVec + (24:UInt8).toBitVec)),(Qi (Qo 8 j2.1))]:List (UInt8))
 (some ((),(v4,()))))
 else (bif (decide (j2.1.toNat < (65536#64).toNat)) then (let v5:List (UInt8):=([(Qi (j2.2.1.toBitVec + (25:UInt8).toBitVec)),(Qi (Qo 8 (j2.1 >>> 8))),(Qi (Qo 8 j2.1))]:List (UInt8))
 (some ((),(v5,()))))
 else (bif (decide (j2.1.toNat < (4294967296#64).toNat)) then (let v6:List (UInt8):=([(Qi (j2.2.1.toBitVec + (26:UInt8).toBitVec)),(Qi (Qo 8 (j2.1 >>> 24))),(Qi (Qo 8 (j2.1 >>> 16))),(Qi (Qo 8 (j2.1 >>> 8))),(Qi (Qo 8 j2.1))]:List (UInt8))
 (some ((),(v6,()))))
 else (let v7:List (UInt8):=([(Qi (j2.2.1.toBitVec + (27:UInt8).toBitVec))]:List (UInt8))
 ((passkeyref1_Words ([j2.1]:List (BitVec 64))).bind λr8=>(bif small ((v7).length + (r8.2.1:List (UInt8)).length) 1 then (some ((),((v7 ++ r8.2.1),())))
 else none)))))))
theorem Vcma (x:Ja):Zgf x=some ((),hdI x,()):=by
 have key:∀ (m:UInt8) (n:BitVec 64),tailH (n,m,())=some ((),hdr m n,()):=by
  intro m n
  unfold tailH
  dsimp only
  have e24:(24#64).toNat=24:=rfl
  have e256:(256#64).toNat=256:=rfl
  have e16:(65536#64).toNat=65536:=rfl
  have e32:(4294967296#64).toNat=4294967296:=rfl
  have es:n >>> (8 * 0)=n:=by simp
  rw [e24,e256,e16,e32]
  unfold hdr
  simp only [beb,byt,es]
  by_cases h1:n.toNat < 24
  ·simp only [h1,decide_true,cond_true]; rfl
  ·by_cases h2:n.toNat < 256
   ·simp only [h1,h2,decide_true,decide_false,cond_true,cond_false]; rfl
   ·by_cases h3:n.toNat < 65536
    ·simp only [h1,h2,h3,decide_true,decide_false,cond_true,cond_false]; rfl
    ·by_cases h4:n.toNat < 4294967296
     ·simp only [h1,h2,h3,h4,decide_true,decide_false,cond_true,cond_false]; rfl
     ·simp only [h1,h2,h3,h4,decide_true,decide_false,cond_true,cond_false]
      rw [Vyl]
      simp only [bindS]
      rw [Vcp (by simp [Vk6])]
      simp only [cond_true,beb,byt,es]
      rfl
 unfold Zgf hdI num isD mj
 by_cases h7:x.kind=7
 ·simp only [h7,decide_true,cond_true]; rfl
 ·by_cases h8:x.kind=8
  ·simp only [h8,decide_true,cond_true]; rfl
  ·by_cases h2:x.kind=2
   ·simp only [h2]; exact key _ _
   ·by_cases h3:x.kind=3
    ·simp only [h3]; exact key _ _
    ·by_cases h4:x.kind=4
     ·simp only [h4]; exact key _ _
     ·by_cases h5:x.kind=5
      ·simp only [h5]; exact key _ _
      ·by_cases h6:x.kind=6
       ·simp only [h6]; exact key _ _
       ·simp only [h2,h3,h4,h5,h6,h7,h8,decide_false,cond_false,Qal]; exact key _ _
theorem Vfk (x:Ja) (hx:x.data.length < 1000000):Zff x=some ((),enc x,()):=by
 unfold Zff enc
 rw [Vcma]
 simp only [bindS]
 rw [Vawa (by have:=(Vh4 x).2; omega)]
 rfl
def lss (a b:List UInt8):Bool:=bif decide (a.length=b.length) then Op.bytesLess a b else decide (a.length < b.length)
theorem Vn8 (a b:List UInt8):Zgh a b=some ((),lss a b,()):=by
 unfold Zgh lss
 by_cases h:a.length=b.length
 ·simp [h]
 ·rw [show decide ((a.length:Int)=(b.length:Int))=false by simp; omega,show decide (a.length=b.length)=false by simpa using h]
  simp
theorem Vpt:∀ a b:List UInt8,decide (Lib.compareBytes a b < 0)=Op.bytesLess a b
 | [],[]=>rfl
 | [],_::_=>rfl
 | _::_,[]=>rfl
 | a::x,b::y=>by
  unfold Lib.compareBytes Op.bytesLess
  by_cases h1:a < b
  ·simp [h1]
  ·by_cases h2:b < a
   ·have:a≠b:=λe=>by subst e; exact absurd h2 h1
    simp [h1,h2,this]
   ·have:a=b:=by
     apply UInt8.toNat_inj.1
     have h1':¬ a.toNat < b.toNat:=h1
     have h2':¬ b.toNat < a.toNat:=h2
     omega
    subst this
    simp [h1,Vpt x y]
theorem Vq3 (a b:List UInt8):Zib a b=some ((),lss a b,()):=by
 unfold Zib lss Zhu
 by_cases h:a.length=b.length
 ·rw [show decide ((a.length:Int)=(b.length:Int))=true by simp [h],show decide (a.length=b.length)=true by simpa using h]
  simp only [Qj,cond_false,cond_true,bindS]
  rw [Vpt]
 ·rw [show decide ((a.length:Int)=(b.length:Int))=false by simp; omega,show decide (a.length=b.length)=false by simpa using h]
  simp
def isK (k:Int):Bool:=decide (k=1)||(decide (k=2)||decide (k=4))
def bad (x:Ja):Bool:=((isD x.kind||decide (x.kind=8))&&!decide (x.number=0#64))||((decide (x.kind=7)&&decide (1 < x.number.toNat))||(!isD x.kind&&!decide (x.data=[])))
def big (x:Ja):Bool:=decide (1024 < x.data.length)||(isN x.kind&&decide (512 < x.number.toNat))
def adm (k:Int) (n d:Nat) (key:Bool):Int:=
 bif decide (512<=n) then 8 else bif !(decide (1<=k)&&decide (k<=8))||(key&&!isK k) then 3 else bif decide (8 < d) then 5 else 0
def acc (x:Ja) (key:Bool) (before:List UInt8):Int:=
 bif decide (x.kind=4)&&!Lib.validD x.data then 6 else bif key&&(!before.isEmpty&&!lss before (enc x)) then 7 else 0
def chk (x:Ja) (n d:Nat) (key:Bool) (before:List UInt8):Int:=
 bif !decide (adm x.kind n d key=0) then adm x.kind n d key else bif bad x then 4 else bif big x then 8 else acc x key before
theorem Vbh {l:List UInt8} (h:l.length < 1000000):Zgv l=some ((),Lib.validD l,()):=by
 unfold Zgv
 rw [show decide (l.length<=9223372036854775807)=true by simp; omega]
 rfl
theorem Vk7 (k:Int):Zfh k=some ((),isK k,()):=by
 unfold Zfh isK
 cases decide (k=1)<;>cases decide (k=2)<;>rfl
theorem Vmt (k:Int):Zeb k 1 8=some ((),decide (1<=k)&&decide (k<=8),()):=by
 unfold Zeb
 cases decide (1<=k)<;>rfl
theorem kinds (k:Int):k=3\/k=4\/k=5\/k=6\/k=7\/k=8\/(¬ k=3/\¬ k=4/\¬ k=5/\¬ k=6/\¬ k=7/\¬ k=8):=by omega
theorem bindC {α β:Type} (c:Bool) (a b:Option α) (f:α->Option β):(bif c then a else b).bind f=bif c then a.bind f else b.bind f:=by cases c<;>rfl
theorem Vym (x:Ja) (n d:Nat) (key:Bool) (before:List UInt8) (hx:x.data.length < 1000000):Zfg x n d key before=some ((),chk x n d key before,()):=by
  obtain ⟨k,m,l⟩:=x
  have qB:=Vfk ⟨k,m,l⟩ hx
  dsimp only at hx
  have qV:=Vbh hx
  have q1:decide ((512:Int) <= (n:Int))=decide (512 <= n):=by rw [decide_eq_decide]; omega
  have q2:decide ((8:Int) < (d:Int))=decide (8 < d):=by rw [decide_eq_decide]; omega
  have q3:decide ((1024:Int) < (l.length:Int))=decide (1024 < l.length):=by rw [decide_eq_decide]; omega
  have q4:(512#64).toNat=512:=rfl
  have q5:(1#64).toNat=1:=rfl
  have eb:decide (before=[])=before.isEmpty:=by cases before <;> rfl
  unfold Zfg chk adm acc bad big
  rcases kinds k with rfl | rfl | rfl | rfl | rfl | rfl | ⟨g1,g2,g3,g4,g5,g6⟩
  rotate_right
  · simp only [g1,g2,g3,g4,g5,g6,isD,isN,bindC,bindS,Vmt,Vk7,qV,qB,Vn8,q1,q2,q3,q4,q5,eb,Int.reduceEq,Int.reduceLE,decide_true,decide_false,cond_true,cond_false,Qaw,Qai,Qav,Qab,Q0,Q5,Qbb,Qag,Qj,Q4,Qac,Qal]
    generalize isK k=ik
    generalize decide (1 <= k)=w1
    generalize decide (k <= 8)=w2
    generalize lss before (enc _)=ls
    generalize before.isEmpty=be
    generalize Lib.validD l=va
    generalize decide (512 <= n)=c1
    generalize decide (8 < d)=c2
    generalize decide (1024 < l.length)=c3
    generalize decide (512 < m.toNat)=c4
    generalize decide (1 < m.toNat)=c5
    generalize decide (m=0#64)=c6
    generalize decide (l=[])=c7
    cases c1 <;> first | rfl | (cases w1 <;> first | rfl | (cases w2 <;> first | rfl | (cases key <;> cases ik <;> first | rfl | (cases c2 <;> first | rfl | (cases c7 <;> first | rfl | (cases c3 <;> first | rfl | (cases be <;> cases ls <;> rfl)))))))
  all_goals
    (simp only [isK,isD,isN,bindC,bindS,Vmt,Vk7,qV,qB,Vn8,q1,q2,q3,q4,q5,eb,Int.reduceEq,Int.reduceLE,decide_true,decide_false,cond_true,cond_false,Qaw,Qai,Qav,Qab,Q0,Q5,Qbb,Qag,Qj,Q4,Qac,Qal]
     generalize lss before (enc _)=ls
     generalize before.isEmpty=be
     generalize Lib.validD l=va
     generalize decide (512 <= n)=c1
     generalize decide (8 < d)=c2
     generalize decide (1024 < l.length)=c3
     generalize decide (512 < m.toNat)=c4
     generalize decide (1 < m.toNat)=c5
     generalize decide (m=0#64)=c6
     generalize decide (l=[])=c7
     cases c1 <;> first | rfl | (cases key <;> first | rfl | (cases c2 <;> first | rfl | (cases c6 <;> first | rfl | (cases c5 <;> first | rfl | (cases c7 <;> first | rfl | (cases c3 <;> first | rfl | (cases c4 <;> first | rfl | (cases va <;> first | rfl | (cases be <;> cases ls <;> rfl))))))))))
def atK:List Je->Bool
 | []=>false
 | f::_=>f.jw&&decide (Qba f.left 2=0)
def lst:List Je->List UInt8
 | []=>[]
 | f::_=>f.jal
def dcr:List Je->List Je
 | []=>[]
 | f::r=>⟨f.jw,f.left - 1,f.jal⟩::r
def setl (b:List UInt8):List Je->List Je
 | []=>[]
 | f::r=>⟨f.jw,f.left,b⟩::r
def psh (x:Ja) (S:List Je):List Je:=
 bif decide (0 < x.number.toNat) then (bif decide (x.kind=5) then ⟨false,(x.number.toNat:Int),[]⟩::S else bif decide (x.kind=6) then ⟨true,2 * (x.number.toNat:Int),[]⟩::S else S) else S
def pop:List Je->List Je
 | []=>[]
 | f::r=>bif decide (f.left=0) then pop r else f::r
def mrk (x:Ja) (S:List Je):List Je:=bif atK S then setl (enc x) S else S
def nxt (x:Ja) (S:List Je):List Je:=pop (psh x (dcr (mrk x S)))
theorem Vk8 (r:List Je) (f:Je):(r.reverse++[f])[r.length]? = some f:=by simp
theorem Vvs (r:List Je) (f g:Je):(r.reverse++[f]).set r.length g=r.reverse++[g]:=by
 rw [Qaz _ _ (by simp)]; simp
theorem Vyn (r:List Je) (f:Je):(r.reverse++[f]).take r.length=r.reverse:=by
 rw [List.take_append_of_le_length (by simp)]; simp [Q1]
theorem Vn9 (r:List Je) (f:Je) (h:r.length < 1000000):Qk .i64 (((r.reverse++[f]).length:Int) - 1)=(r.length:Int):=by
 rw [Vaa (by simp<;>omega) (by simp<;>omega)]; simp
theorem Vpu (S:List Je) (n:Int) (hl:S.length < 1000000):Zgz ⟨S.reverse,n⟩=some ((),atK S,()):=by
 unfold Zgz
 cases S with
 | nil=>rfl
 | cons f r=>
  simp only [Qs]
  rw [Vn9 r f (by simp at hl; omega)]
  have eg:getI (r.reverse++[f]) (r.length:Int)=some f:=by unfold getI; simp [Vk8]
  rw [eg,show decide ((0:Int) < ((r.reverse++[f]).length:Int))=true by simp<;>omega]
  simp only [cond_true,bindS,atK]
  cases f.jw<;>rfl
theorem Vvt (S:List Je) (n:Nat):Zho ⟨S.reverse,(n:Int)⟩=some ((),decide (0 < n)&&S.isEmpty,()):=by
 unfold Zho
 cases n with
 | zero=>rfl
 | succ n=>
  rw [show decide ((0:Int) < ((n+1:Nat):Int))=true by simp<;>omega]
  cases S with
  | nil=>rfl
  | cons f r=>
   simp only [cond_true]
   rw [show decide ((((f::r).reverse).length:Int)=0)=false by simp; omega]
   rfl
theorem Vyo (S:List Je) (n:Nat) (k:Int) (hl:S.length < 1000000):Zgy ⟨S.reverse,(n:Int)⟩ k=some ((),adm k n S.length (atK S),()):=by
 unfold Zgy adm isK
 simp only [Vpu S n hl,bindS]
 rw [show decide ((512:Int)<=(n:Int))=decide (512<=n) by rw [decide_eq_decide]; omega,show decide ((8:Int) < ((S.reverse).length:Int))=decide (8 < S.length) by rw [decide_eq_decide]; simp; omega,show decide (k < 1) = !decide (1<=k) by rw [<- decide_not,decide_eq_decide]; omega,show decide ((8:Int) < k) = !decide (k<=8) by rw [<- decide_not,decide_eq_decide]; omega]
 generalize decide (512<=n)=c1
 generalize decide (8 < S.length)=c2
 generalize decide (1<=k)=c3
 generalize decide (k<=8)=c4
 generalize decide (k=1)=c5
 generalize decide (k=2)=c6
 generalize decide (k=4)=c7
 cases c1<;>cases c3<;>cases c4<;>cases atK S<;>cases c2<;>first | rfl | (cases c5<;>cases c6<;>cases c7<;>rfl)
theorem Vvu (x:Ja):Zig x=some ((),!bad x,()):=by
 obtain ⟨k,m,l⟩:=x
 unfold Zig bad isD
 rw [show (1#64).toNat=1 from rfl]
 dsimp only
 rw [show decide (m.toNat<=1) = !decide (1 < m.toNat) by rw [<- decide_not,decide_eq_decide]; omega]
 generalize decide (1 < m.toNat)=c5
 generalize decide (m=0#64)=c6
 generalize decide (l=[])=c7
 rcases kinds k with rfl | rfl | rfl | rfl | rfl | rfl | ⟨g1,g2,g3,g4,g5,g6⟩
 all_goals first | (cases c5<;>cases c6<;>cases c7<;>rfl) | skip
 simp only [g1,g2,g3,g4,g5,g6,decide_false,cond_false,Qai,Q5,Qab,Q4,Q0]
 cases c7<;>rfl
theorem Veua (S:List Je) (n:Int) (hl:S.length < 1000000):Zhp_L0 ((S.reverse,n,()),(S.length:Int),())=some (((pop S).reverse,n,()),()):=by
 unfold Zhp_L0
 rw [Vek (λq=>∃ R:List Je,q.1.1=R.reverse/\q.2.1=(R.length:Int)/\R.length < 1000000) (λq=>q.1.1.length) (λq=>(((pop q.1.1.reverse).reverse,q.1.2.1,()),()))]
 ·simp
 ·rintro ⟨⟨L,m,u⟩,i,u2⟩ ⟨R,h1,h2,h3⟩
  dsimp only at *
  subst h1; subst h2
  simp only [Zhp_L0b,List.reverse_reverse]
  cases R with
  | nil=>right; rfl
  | cons f r=>
   simp only [Qb] at h3
   simp only [Qs]
   have ei:Qk .i64 (((f::r).length:Int) - 1)=(r.length:Int):=by
    rw [Vaa (by simp<;>omega) (by simp<;>omega)]; simp
   rw [ei,show decide ((0:Int) < ((f::r).length:Int))=true by simp<;>omega,show decide ((0:Int)<=(r.length:Int))=true by simp,show decide ((r.length:Int) < ((r.reverse++[f]).length:Int))=true by simp<;>omega,show decide ((r.length:Int)<=((r.reverse++[f]).length:Int))=true by simp<;>omega,Qn,show decide (r.length<=(r.reverse++[f]).length)=true by simp,Vk8,Vyn]
   simp only [Qac,cond_true,bindS,pop]
   cases hf:decide (f.left=0)
   ·right
    simp
   ·left
    simp only [cond_true]
    refine ⟨_,rfl,⟨r,rfl,rfl,by omega⟩,by simp,by simp⟩
 ·exact ⟨S,rfl,rfl,hl⟩
 ·rw [Vab]; dsimp only; simp; omega
theorem Voa (S:List Je) (n:Nat) (x:Ja) (hl:S.length < 100000) (hn:n < 1000000) (hw:∀ f ∈ S,-10 <= f.left /\ f.left <= 2000) (hx:isN x.kind=true -> x.number.toNat <= 512):Zhp (S.reverse,(n:Int),()) x=some ((((pop (psh x (dcr S))).reverse,((n + 1:Nat):Int),()),()),()):=by
  have e1:∀ (L:List Je) (c:Int),L=(dcr S).reverse -> c=((n + 1:Nat):Int) -> ((some ((L,c,()),(x,()),()):Option (((List (Je)) × Int × Unit) × (Ja × Unit) × Unit)).bind (λ(j4:(((List (Je)) × Int × Unit) × (Ja × Unit) × Unit))=>((bif (decide (j4.2.1.1.kind=(5:Int))) then (bif (decide ((0#64).toNat < j4.2.1.1.number.toNat)) then (let v5:List (Je):=([(⟨false,(Qk .i64 (j4.2.1.1.number.toNat:Int)),[]⟩:Je)]:List (Je))
 (bif small ((j4.1.1).length + (v5:List (Je)).length) 40 then (some (((j4.1.1 ++ v5),j4.1.2.1,()),(j4.2.1.1,()),()))
 else none))
 else (some ((j4.1.1,j4.1.2.1,()),(j4.2.1.1,()),())))
 else (some ((j4.1.1,j4.1.2.1,()),(j4.2.1.1,()),()))).bind (λ(j6:(((List (Je)) × Int × Unit) × (Ja × Unit) × Unit))=>((bif (decide (j6.2.1.1.kind=(6:Int))) then (bif (decide ((0#64).toNat < j6.2.1.1.number.toNat)) then (let v7:Int:=(Qk .i64 ((2:Int) * (Qk .i64 (j6.2.1.1.number.toNat:Int))))
 (bif small ((j6.1.1).length + (([(⟨true,v7,[]⟩:Je)]:List (Je)):List (Je)).length) 40 then (let v8:List (Je):=(j6.1.1 ++ ([(⟨true,v7,[]⟩:Je)]:List (Je)))
 (some ((v8,j6.1.2.1,()),())))
 else none))
 else (some ((j6.1.1,j6.1.2.1,()),())))
 else (some ((j6.1.1,j6.1.2.1,()),()))).bind (λ(j9:(((List (Je)) × Int × Unit) × Unit))=>((Zhp_L0 ((j9.1.1,j9.1.2.1,()),((j9.1.1).length:Int),())).bind (λ(z11:(((List (Je)) × Int × Unit) × Unit))=>(some (((z11.1.1,z11.1.2.1,()),()),()))))))))))=some ((((pop (psh x (dcr S))).reverse,((n + 1:Nat):Int),()),()),()):=by
    intro L c hL hc
    subst hL; subst hc
    simp only [bindS]
    have hdl:(dcr S).length=S.length:=by cases S <;> rfl
    have fin:∀ R:List Je,R.length < 1000000 -> ((Zhp_L0 ((R.reverse,((n + 1:Nat):Int),()),((R.reverse).length:Int),())).bind (λ(z11:(((List (Je)) × Int × Unit) × Unit))=>(some (((z11.1.1,z11.1.2.1,()),()),()))))=some ((((pop R).reverse,((n + 1:Nat):Int),()),()),()):=by
      intro R hR
      rw [List.length_reverse,Veua R _ hR]
      simp only [bindS]
    rw [show (0#64).toNat=0 from rfl]
    unfold psh
    by_cases h0:0 < x.number.toNat
    · by_cases h5:x.kind=5
      · have hm:=hx (by simp [isN,h5])
        simp only [h0,h5,decide_true,cond_true,Int.reduceEq,decide_false,cond_false]
        rw [Vvq (by simp [hdl]; omega),Vaa (n:=(x.number.toNat:Int)) (by omega) (by omega)]
        simp only [cond_true,bindS,h5,Int.reduceEq,decide_false,cond_false]
        have:=fin (⟨false,(x.number.toNat:Int),[]⟩ :: dcr S) (by simp [hdl]; omega)
        rw [Qs] at this
        exact this
      · by_cases h6:x.kind=6
        · have hm:=hx (by simp [isN,h6])
          simp only [h0,h6,decide_true,cond_true,Int.reduceEq,decide_false,cond_false,bindS]
          rw [Vvq (by simp [hdl]; omega),Vaa (n:=(x.number.toNat:Int)) (by omega) (by omega),Vaa (n:=2 * (x.number.toNat:Int)) (by omega) (by omega)]
          simp only [cond_true,bindS]
          have:=fin (⟨true,2 * (x.number.toNat:Int),[]⟩ :: dcr S) (by simp [hdl]; omega)
          rw [Qs] at this
          exact this
        · simp only [h0,h5,h6,decide_true,decide_false,cond_true,cond_false,bindS]
          exact fin _ (by rw [hdl]; omega)
    · simp only [h0,decide_false,cond_false]
      by_cases h5:x.kind=5
      · simp only [h0,h5,decide_true,decide_false,cond_true,cond_false,bindS,Int.reduceEq]
        exact fin _ (by rw [hdl]; omega)
      · by_cases h6:x.kind=6
        · simp only [h0,h6,decide_true,decide_false,cond_true,cond_false,bindS,Int.reduceEq]
          exact fin _ (by rw [hdl]; omega)
        · simp only [h0,h5,h6,decide_true,decide_false,cond_true,cond_false,bindS]
          exact fin _ (by rw [hdl]; omega)
  unfold Zhp
  dsimp only
  rw [Vaa (n:=(n:Int) + 1) (by omega) (by omega)]
  cases S with
  | nil=>exact e1 [] _ rfl (by omega)
  | cons f r=>
    simp only [Qb] at hl
    have hf:=hw f (by simp)
    simp only [Qs]
    rw [Vn9 r f (by omega),show decide ((0:Int) < ((r.reverse ++ [f]).length:Int))=true by simp <;> omega,show decide ((0:Int) <= (r.length:Int))=true by simp,show decide ((r.length:Int) < ((r.reverse ++ [f]).length:Int))=true by simp <;> omega,Qn,Vk8]
    simp only [Qac,cond_true,bindS]
    rw [Vvs,Vaa (n:=f.left - 1) (by omega) (by omega)]
    have:=e1 (r.reverse ++ [⟨f.jw,f.left - 1,f.jal⟩]) ((n:Int) + 1) (by simp [dcr]) (by omega)
    simp only [bindS] at this
    exact this
def accK (a0:((List (Je)) × Int × Unit)) (a1:Ja):Option ((((List (Je)) × Int × Unit) × Unit) × (Int × Unit)):=((Zgz (⟨a0.1,a0.2.1⟩:Jy)).bind λr14=>(bif r14.2.1 then (bif (decide ((0:Int) <= (Qk .i64 (((a0.1).length:Int) - (1:Int)))) && decide ((Qk .i64 (((a0.1).length:Int) - (1:Int))) < ((a0.1).length:Int))) then ((Zgx [] a1).bind λr15=>(((a0.1)[((Qk .i64 (((a0.1).length:Int) - (1:Int)))).toNat]?).bind λx16=>(bif (!(x16.jal).isEmpty) then (((a0.1)[((Qk .i64 (((a0.1).length:Int) - (1:Int)))).toNat]?).bind λx17=>((Zib x17.jal r15.2.1).bind λr18=>(bif (!r18.2.1) then (some (((a0.1,a0.2.1,()),()),((7:Int),())))
 else (((a0.1)[((Qk .i64 (((a0.1).length:Int) - (1:Int)))).toNat]?).bind λx19=>(bif (r15.2.1).isEmpty then none
 else (let v20:List (Je):=(List.set a0.1 ((Qk .i64 (((a0.1).length:Int) - (1:Int)))).toNat (⟨x19.jw,x19.left,r15.2.1⟩:Je))
 ((Zhp (v20,a0.2.1,()) a1).bind λr21=>(some (((r21.1.1.1,r21.1.1.2.1,()),()),((0:Int),()))))))))))
 else (((a0.1)[((Qk .i64 (((a0.1).length:Int) - (1:Int)))).toNat]?).bind λx22=>(bif (r15.2.1).isEmpty then none
 else (let v23:List (Je):=(List.set a0.1 ((Qk .i64 (((a0.1).length:Int) - (1:Int)))).toNat (⟨x22.jw,x22.left,r15.2.1⟩:Je))
 ((Zhp (v23,a0.2.1,()) a1).bind λr24=>(some (((r24.1.1.1,r24.1.1.2.1,()),()),((0:Int),()))))))))))
 else none)
 else ((Zhp (a0.1,a0.2.1,()) a1).bind λr25=>(some (((r25.1.1.1,r25.1.1.2.1,()),()),((0:Int),()))))))
theorem Vvv (a0:((List (Je))×Int×Unit)) (a1:Ja):Zfo a0 a1=bif decide (a1.kind=4) then ((Zgv a1.data).bind λr1=>bif !r1.2.1 then some (((a0.1,a0.2.1,()),()),((6:Int),())) else accK a0 a1) else accK a0 a1:=rfl
def res (S S':List Je) (n:Nat) (e:Int):(((List (Je))×Int×Unit)×Unit)×(Int×Unit):=bif decide (e=0) then (((S'.reverse,((n+1:Nat):Int),()),()),(e,())) else (((S.reverse,(n:Int),()),()),(e,()))
theorem Vcna (S:List Je) (n:Nat) (x:Ja) (hk:kin x) (hd:x.data.length < 100000) (hl:S.length < 100000) (hn:n < 1000000) (hw:∀ f∈S,-10<=f.left/\f.left<=2000) (hx:isN x.kind=true->x.number.toNat<=512) :
  accK (S.reverse,(n:Int),()) x=some (res S (nxt x S) n (bif atK S&&(!(lst S).isEmpty&&!lss (lst S) (enc x)) then 7 else 0)):=by
 unfold accK
 dsimp only
 rw [Vpu S n (by omega)]
 simp only [bindS]
 cases S with
 | nil=>
  have e:atK ([]:List Je)=false:=rfl
  rw [e]
  have:=Voa [] n x (by simp) hn (by simp) hx
  simp only [cond_false,Q5]
  rw [this]
  rfl
 | cons f r=>
  simp only [Qb] at hl
  cases ha:atK (f::r)
  ·simp only [cond_false,Q5]
   rw [Voa (f::r) n x (by simp; omega) hn hw hx]
   simp [res,nxt,mrk,ha]
  ·simp only [cond_true,Q0,Qs]
   rw [Vn9 r f (by omega),show decide ((0:Int)<=(r.length:Int))=true by simp,show decide ((r.length:Int) < ((r.reverse++[f]).length:Int))=true by simp<;>omega,Qn,Vk8,Vfj [] x hk (by simp) (by omega)]
   simp only [Qac,cond_true,bindS,Qa6,lst,Vvs]
   have he:(enc x).isEmpty=false:=by
    cases h:enc x with
    | nil=>exact absurd h (Veta x)
    | cons _ _=>rfl
   have hst:=Voa (⟨f.jw,f.left,enc x⟩::r) n x (by simp; omega) hn (by
    intro g hg
    rcases List.mem_cons.1 hg with rfl | hg
    ·exact hw f (by simp)
    ·exact hw g (by simp [hg])) hx
   simp only [Qs] at hst
   rw [he,Vq3]
   simp only [bindS,cond_false]
   rw [hst]
   have hnx:nxt x (f::r)=pop (psh x (dcr (⟨f.jw,f.left,enc x⟩::r))):=by
    unfold nxt mrk
    rw [ha]; rfl
   rw [hnx]
   cases f.jal.isEmpty
   ·simp only [Q4,cond_true,Q0]
    cases lss f.jal (enc x)
    ·simp [res]
    ·simp [res]
   ·simp [res]
theorem Vh5 (S:List Je) (n:Nat) (x:Ja) (hk:kin x) (hd:x.data.length < 100000) (hl:S.length < 100000) (hn:n < 1000000) (hw:∀ f∈S,-10<=f.left/\f.left<=2000) (hx:isN x.kind=true->x.number.toNat<=512) :
  Zfo (S.reverse,(n:Int),()) x=some (res S (nxt x S) n (acc x (atK S) (lst S))):=by
 rw [Vvv,Vcna S n x hk hd hl hn hw hx,Vbh (by omega)]
 unfold acc
 simp only [bindS]
 cases decide (x.kind=4)
 ·simp
 ·cases Lib.validD x.data
  ·simp [res]
  ·simp
theorem Vaxa {x:Ja} {n d:Nat} {key:Bool} (h1:adm x.kind n d key=0) (h2:bad x=false):kin x:=by
 unfold adm at h1
 cases hc:decide (512<=n)
 ·rw [hc] at h1
  cases hk:(!(decide (1<=x.kind)&&decide (x.kind<=8))||(key&&!isK x.kind))
  ·simp only [Qw,Qak,Qx,decide_eq_true_eq] at hk
   refine ⟨hk.1.1,hk.1.2,λh=>?_⟩
   unfold bad at h2
   simp only [h,Qw,Q4,Q0,Qak,decide_eq_true_eq] at h2
   exact h2.2.2
  ·rw [hk] at h1; simp at h1
 ·rw [hc] at h1; simp at h1
theorem Vcoa (S:List Je) (n:Nat) (x:Ja) (hd:x.data.length < 100000) (hl:S.length < 100000) (hn:n < 1000000) (hw:∀ f∈S,-10<=f.left/\f.left<=2000) :
  Zep (S.reverse,(n:Int),()) x=some (res S (nxt x S) n (bif decide (0 < n)&&S.isEmpty then 2 else chk x n S.length (atK S) (lst S))):=by
 unfold Zep
 dsimp only
 rw [Vvt,Vyo S n x.kind (by omega),Vvu]
 simp only [bindS]
 cases decide (0 < n)&&S.isEmpty
 ·simp only [cond_false]
  unfold chk
  by_cases h1:adm x.kind n S.length (atK S)=0
  ·rw [show decide (adm x.kind n S.length (atK S)=0)=true by simpa using h1]
   simp only [Qj,cond_false,Qbd]
   cases hb:bad x
   ·have hk := Vaxa h1 hb
    simp only [cond_false]
    unfold big isN
    rw [show decide ((1024:Int) < (x.data.length:Int))=decide (1024 < x.data.length) by rw [decide_eq_decide]; omega,show (512#64).toNat=512 from rfl]
    cases decide (1024 < x.data.length)
    ·simp only [cond_false,Qab]
     by_cases h5:x.kind=5
     ·by_cases hm:512 < x.number.toNat
      ·simp [h5,hm,res]
      ·rw [Vh5 S n x hk hd hl hn hw (λ_=>by omega)]
       simp only [h5,hm,decide_true,decide_false,cond_true,cond_false,bindS,Qav,Qag]
     ·by_cases h6:x.kind=6
      ·by_cases hm:512 < x.number.toNat
       ·simp [h6,hm,res]
       ·rw [Vh5 S n x hk hd hl hn hw (λ_=>by omega)]
        simp only [h6,hm,decide_true,decide_false,cond_true,cond_false,bindS,Qaw,Qag,Int.reduceEq]
      ·rw [Vh5 S n x hk hd hl hn hw (λh=>by simp [isN,h5,h6] at h)]
       simp only [h5,h6,decide_true,decide_false,cond_true,cond_false,bindS,Qal,Q5]
    ·simp [res]
   ·simp [res]
  ·rw [show decide (adm x.kind n S.length (atK S)=0)=false by simpa using h1]
   simp [res,h1]
 ·simp [res]
def mach {σ:Type} (get:Nat->Nat->Bool->List UInt8->σ->Int×Ja×σ):Nat->List Je->Nat->σ->Int×List Ja×σ
 | 0,_,_,s=>(99,[],s)
 | f+1,S,n,s=>bif decide (0 < n)&&S.isEmpty then (0,[],s) else bif decide ((get n S.length (atK S) (lst S) s).1=0) then ((mach get f (nxt (get n S.length (atK S) (lst S) s).2.1 S) (n+1) (get n S.length (atK S) (lst S) s).2.2).1,(get n S.length (atK S) (lst S) s).2.1::(mach get f (nxt (get n S.length (atK S) (lst S) s).2.1 S) (n+1) (get n S.length (atK S) (lst S) s).2.2).2.1,(mach get f (nxt (get n S.length (atK S) (lst S) s).2.1 S) (n+1) (get n S.length (atK S) (lst S) s).2.2).2.2) else ((get n S.length (atK S) (lst S) s).1,[],s)
theorem Vfm {σ:Type} {get:Nat->Nat->Bool->List UInt8->σ->Int×Ja×σ} {f n:Nat} {s:σ} (hn:0 < n):mach get (f+1) [] n s=(0,[],s):=by
 unfold mach
 simp [hn]
theorem Vdh {σ:Type} {get:Nat->Nat->Bool->List UInt8->σ->Int×Ja×σ} {f n:Nat} {s:σ} {S:List Je} {e:Int} {x:Ja} {t:σ} (hS:(decide (0 < n)&&S.isEmpty)=false) (hg:get n S.length (atK S) (lst S) s=(e,x,t)) (he:e≠0):mach get (f+1) S n s=(e,[],s):=by
 unfold mach
 rw [hS,hg]
 simp [he]
theorem Vc2 {σ:Type} {get:Nat->Nat->Bool->List UInt8->σ->Int×Ja×σ} {f n:Nat} {s:σ} {S:List Je} {x:Ja} {t:σ} (hS:(decide (0 < n)&&S.isEmpty)=false) (hg:get n S.length (atK S) (lst S) s=(0,x,t)):mach get (f+1) S n s=((mach get f (nxt x S) (n+1) t).1,x::(mach get f (nxt x S) (n+1) t).2.1,(mach get f (nxt x S) (n+1) t).2.2):=by
 conv=>lhs; unfold mach
 rw [hS,hg]
 simp
def getL (n d:Nat) (key:Bool) (before:List UInt8):List Ja->Int×Ja×List Ja
 | []=>(1,default,[])
 | x::r=>(chk x n d key before,x,r)
def top:List Je->Prop
 | []=>True
 | f::_=>0 < f.left
def WS (S:List Je):Prop:=(∀ f∈S,0<=f.left/\f.left<=1024)/\top S/\S.length<=9
theorem Vvw:∀ {S:List Je} {f:Je},f∈pop S->f∈S
 | g::r,f,h=>by
  unfold pop at h
  cases hg:decide (g.left=0)
  ·rw [hg] at h; exact h
  ·rw [hg] at h; exact Qaf _ (Vvw h)
theorem Vvx:∀ S:List Je,(pop S).length<=S.length
 | []=>Nat.le_refl _
 | g::r=>by
  unfold pop
  cases decide (g.left=0)
  ·exact Nat.le_refl _
  ·exact Nat.le_trans (Vvx r) (Nat.le_succ _)
theorem Vvy:∀ {S:List Je},(∀ f∈S,0<=f.left)->top (pop S)
 | [],_=>trivial
 | g::r,h=>by
  unfold pop
  by_cases hg:g.left=0
  ·simp only [hg,decide_true,cond_true]
   exact Vvy λf hf=>h f (by simp [hf])
  ·simp only [hg,decide_false,cond_false]
   have:=h g (by simp)
   show 0 < g.left
   omega
theorem Vdi {x:Ja} {n d:Nat} {key:Bool} {before:List UInt8} (h:chk x n d key before=0):adm x.kind n d key=0/\bad x=false/\big x=false/\acc x key before=0:=by
 unfold chk at h
 by_cases h1:adm x.kind n d key=0
 ·rw [show decide (adm x.kind n d key=0)=true by simpa using h1] at h
  cases h2:bad x
  ·rw [h2] at h
   cases h3:big x
   ·rw [h3] at h
    exact ⟨h1,rfl,rfl,h⟩
   ·rw [h3] at h; simp at h
  ·rw [h2] at h; simp at h
 ·rw [show decide (adm x.kind n d key=0)=false by simpa using h1] at h
  exact absurd h h1
theorem Vdj {k:Int} {n d:Nat} {key:Bool} (h:adm k n d key=0):n < 512/\1<=k/\k<=8/\(key=true->isK k=true)/\d<=8:=by
 unfold adm at h
 by_cases h1:512<=n
 ·rw [show decide (512<=n)=true by simpa using h1] at h; simp at h
 ·rw [show decide (512<=n)=false by simpa using h1] at h
  cases h2:(!(decide (1<=k)&&decide (k<=8))||(key&&!isK k))
  ·rw [h2] at h
   simp only [Qw,Qak,Qx,decide_eq_true_eq,Qa1] at h2
   by_cases h3:8 < d
   ·rw [show decide (8 < d)=true by simpa using h3] at h; simp at h
   ·refine ⟨by omega,h2.1.1,h2.1.2,λhk=>?_,by omega⟩
    rcases h2.2 with q | q
    ·rw [hk] at q; cases q
    ·exact q
  ·rw [h2] at h; simp at h
theorem Veva {S:List Je} {x:Ja} (h:WS S) (hd:S.length<=8) (hx:isN x.kind=true->x.number.toNat<=512):WS (nxt x S):=by
 obtain ⟨h1,h2,h3⟩:=h
 have hm:(∀ f∈mrk x S,0<=f.left/\f.left<=1024)/\top (mrk x S)/\(mrk x S).length=S.length:=by
  unfold mrk
  cases atK S
  ·exact ⟨h1,h2,rfl⟩
  ·cases S with
   | nil=>exact ⟨h1,h2,rfl⟩
   | cons f r=>
    refine ⟨?_,h2,rfl⟩
    intro g hg
    rcases List.mem_cons.1 hg with rfl | hg
    ·exact h1 f (by simp)
    ·exact h1 g (by simp [hg])
 unfold nxt
 generalize mrk x S=M at hm |-
 obtain ⟨m1,m2,m3⟩:=hm
 have hdc:(∀ f∈dcr M,0<=f.left/\f.left<=1024)/\(dcr M).length=S.length:=by
  cases M with
  | nil=>exact ⟨m1,m3⟩
  | cons f r=>
   refine ⟨?_,m3⟩
   intro g hg
   rcases List.mem_cons.1 hg with rfl | hg
   ·have:=m1 f (by simp)
    have h0:0 < f.left:=m2
    dsimp only
    omega
   ·exact m1 g (by simp [hg])
 have hp : (∀ f∈psh x (dcr M), 0<=f.left/\f.left<=1024)/\(psh x (dcr M)).length<=9 := by
  unfold psh
  by_cases h0:0 < x.number.toNat
  ·rw [show decide (0 < x.number.toNat)=true by simpa using h0]
   by_cases h5:x.kind=5
   ·have:=hx (by simp [isN,h5])
    rw [show decide (x.kind=5)=true by simpa using h5]
    refine ⟨?_,by simp [hdc.2]; omega⟩
    intro g hg
    rcases List.mem_cons.1 hg with rfl | hg
    ·dsimp only; omega
    ·exact hdc.1 g hg
   ·rw [show decide (x.kind=5)=false by simpa using h5]
    by_cases h6:x.kind=6
    ·have:=hx (by simp [isN,h6])
     rw [show decide (x.kind=6)=true by simpa using h6]
     refine ⟨?_,by simp [hdc.2]; omega⟩
     intro g hg
     rcases List.mem_cons.1 hg with rfl | hg
     ·dsimp only; omega
     ·exact hdc.1 g hg
    ·rw [show decide (x.kind=6)=false by simpa using h6]
     exact ⟨hdc.1,by simp [hdc.2]; omega⟩
  ·rw [show decide (0 < x.number.toNat)=false by simpa using h0]
   exact ⟨hdc.1,by simp [hdc.2]; omega⟩
 exact ⟨λf hf=>hp.1 f (Vvw hf),Vvy λf hf=>(hp.1 f hf).1,Nat.le_trans (Vvx _) hp.2⟩
theorem Vfn {x:Ja} (h:big x=false):x.data.length<=1024/\(isN x.kind=true->x.number.toNat<=512):=by
 unfold big at h
 simp only [Qw,decide_eq_false_iff_not,Qa1] at h
 refine ⟨by omega,λhk=>?_⟩
 rcases h.2 with q | q
 ·rw [hk] at q; cases q
 ·omega
theorem Vewa {S:List Je} {x:Ja} {n:Nat} (h:WS S) (hc:chk x n S.length (atK S) (lst S)=0):WS (nxt x S):=by
 obtain ⟨c1,c2,c3,c4⟩:=Vdi hc
 exact Veva h (Vdj c1).2.2.2.2 (Vfn c3).2
def valE (m:Int×List Ja×List Ja):Int:=bif !decide (m.1=0) then m.1 else bif m.2.2.isEmpty then 0 else 2
def valO (l:List Ja):Int:=valE (mach getL 600 [] 0 l)
theorem Ve1 (l:List Ja) (hl:l.length < 1000000) (hd:∀ x ∈ l,x.data.length < 100000):Zhv l=some ((),valO l,()):=by
  have key:∀ (r:List Ja) (S:List Je) (n f fuel:Nat),l.drop n=r -> n <= l.length -> WS S -> r.length < f -> 600 <= fuel + n -> 0 < fuel ->
      (iter (λ(y:(((List (Je)) × Int × Unit) × (List (Ja)) × Int × Int × Unit))=>Zhv_L0b y.1 y.2.1 y.2.2.1 y.2.2.2.1) f ((S.reverse,(n:Int),()),l,(l.length:Int),(n:Int),())).bind (Sum.elim (λ(z3:(Int × Unit))=>(some ((),(z3.1,())))) (λ(z4:(((List (Je)) × Int × Unit) × Unit))=>((Zho (⟨z4.1.1,z4.1.2.1⟩:Jy)).bind λr5=>(bif (!r5.2.1) then (some ((),((1:Int),()))) else (some ((),((0:Int),())))))))=some ((),valE (mach getL fuel S n r),()):=by
    intro r
    induction r with
    | nil=>
      intro S n f fuel hr hn hS hf hfu hfu0
      have hnl:n=l.length:=by
        have:=congrArg List.length hr
        simp at this
        omega
      obtain ⟨f,rfl⟩:∃ g,f=g + 1:=⟨f - 1,by omega⟩
      obtain ⟨fuel,rfl⟩:∃ g,fuel=g + 1:=⟨fuel - 1,by omega⟩
      rw [Vad]
      have e1:Zhv_L0b (S.reverse,(n:Int),()) l (l.length:Int) (n:Int)=some (.inr (.inr ((S.reverse,(n:Int),()),()))):=by
        unfold Zhv_L0b
        rw [show decide ((n:Int) < (l.length:Int))=false by simp; omega]
        rfl
      dsimp only
      rw [e1,bindS,Qad,bindS,Qad]
      dsimp only
      rw [Vvt,bindS]
      dsimp only
      cases hS2:(decide (0 < n) && S.isEmpty)
      · rw [Vdh hS2 (show getL n S.length (atK S) (lst S) []=(1,default,[]) from rfl) (by decide)]
        rfl
      · simp only [Qx,decide_eq_true_eq,Qao] at hS2
        obtain ⟨q1,rfl⟩:=hS2
        rw [Vfm q1]
        rfl
    | cons x r ih=>
      intro S n f fuel hr hn hS hf hfu hfu0
      have hnl:n < l.length:=by
        have:=congrArg List.length hr
        simp at this
        omega
      have hx:l[n]? = some x:=by
        have:=congrArg (·[0]?) hr
        simpa using this
      have hr2:l.drop (n + 1)=r:=by
        have:=congrArg (List.drop 1) hr
        simpa [Qaq] using this
      obtain ⟨f,rfl⟩:∃ g,f=g + 1:=⟨f - 1,by omega⟩
      obtain ⟨fuel,rfl⟩:∃ g,fuel=g + 1:=⟨fuel - 1,by omega⟩
      rw [Vad]
      have hit:=Vcoa S n x (hd x (Qg hx)) (by have:=hS.2.2; omega) (by omega) (λg hg=>by have:=hS.1 g hg; omega)
      have eg:getI l (n:Int)=some x:=by unfold getI; simp [hx]
      have e1:Zhv_L0b (S.reverse,(n:Int),()) l (l.length:Int) (n:Int)=(bif (!decide ((res S (nxt x S) n (bif decide (0 < n) && S.isEmpty then 2 else chk x n S.length (atK S) (lst S))).2.1=(0:Int))) then (some (Qam (Q8 ((res S (nxt x S) n (bif decide (0 < n) && S.isEmpty then 2 else chk x n S.length (atK S) (lst S))).2.1,()))))
 else (some (Q8 (((res S (nxt x S) n (bif decide (0 < n) && S.isEmpty then 2 else chk x n S.length (atK S) (lst S))).1.1.1,(res S (nxt x S) n (bif decide (0 < n) && S.isEmpty then 2 else chk x n S.length (atK S) (lst S))).1.1.2.1,()),l,(l.length:Int),(n:Int) + 1,())))):=by
        unfold Zhv_L0b
        rw [show decide ((n:Int) < (l.length:Int))=true by simp; omega,eg,Vaa (n:=(n:Int) + 1) (by omega) (by omega)]
        simp only [cond_true,bindS]
        rw [hit]
        simp only [bindS]
      dsimp only
      rw [e1]
      cases hS2:(decide (0 < n) && S.isEmpty)
      · simp only [cond_false]
        by_cases hc:chk x n S.length (atK S) (lst S)=0
        · have em:mach getL (fuel + 1) S n (x :: r)=_:=Vc2 hS2 (show getL n S.length (atK S) (lst S) (x :: r)=(0,x,r) by simp [getL,hc])
          rw [em]
          have hn512:=(Vdj (Vdi hc).1).1
          have:=ih (nxt x S) (n + 1) f fuel hr2 (by omega) (Vewa hS hc) (by simp at hf; omega) (by omega) (by omega)
          unfold res
          rw [hc]
          simp only [decide_true,cond_true,Qj,cond_false,bindS,Qq]
          rw [show ((n:Int) + 1)=((n + 1:Nat):Int) by omega]
          exact this
        · rw [Vdh hS2 (show getL n S.length (atK S) (lst S) (x :: r)=(chk x n S.length (atK S) (lst S),x,r) from rfl) hc]
          unfold res valE
          simp [hc]
      · simp only [cond_true]
        have hS3:=hS2
        simp only [Qx,decide_eq_true_eq,Qao] at hS3
        obtain ⟨q1,rfl⟩:=hS3
        rw [Vfm q1]
        rfl
  unfold Zhv Zhv_L0 valO
  exact key l [] 0 rounds 600 (by simp) (by simp) ⟨by simp,trivial,by simp⟩ (by rw [Vab]; omega) (by omega) (by omega)
abbrev Res (σ:Type):=Int×List Ja×σ
def LA {σ:Type} (rec:σ->Nat->Res σ):Nat->σ->Nat->Res σ
 | 0,s,_=>(0,[],s)
 | k+1,s,n=>bif decide ((rec s n).1=0) then ((LA rec k (rec s n).2.2 (n+(rec s n).2.1.length)).1,(rec s n).2.1++(LA rec k (rec s n).2.2 (n+(rec s n).2.1.length)).2.1,(LA rec k (rec s n).2.2 (n+(rec s n).2.1.length)).2.2) else ((rec s n).1,[],s)
def LM {σ:Type} (recK:σ->Nat->List UInt8->Res σ) (recV:σ->Nat->Res σ):Nat->σ->Nat->List UInt8->Res σ
 | 0,s,_,_=>(0,[],s)
 | k+1,s,n,last=>
  let a:=recK s n last
  bif decide (a.1=0) then
   let b:=recV a.2.2 (n+a.2.1.length)
   bif decide (b.1=0) then
    let q:=LM recK recV k b.2.2 (n+a.2.1.length+b.2.1.length) (enc (a.2.1.headD default))
    (q.1,a.2.1++(b.2.1++q.2.1),q.2.2)
   else (b.1,[],s)
  else (a.1,[],s)
def W {σ:Type} (get:Nat->Nat->Bool->List UInt8->σ->Int×Ja×σ):Nat->σ->Nat->Nat->Bool->List UInt8->Res σ
 | 0,s,_,_,_,_=>(99,[],s)
 | f+1,s,n,d,key,before=>
  let g:=get n d key before s
  bif decide (g.1=0) then
   let q:=bif decide (g.2.1.kind=5) then LA (λs n=>W get f s n (d+1) false []) g.2.1.number.toNat g.2.2 (n+1)
    else bif decide (g.2.1.kind=6) then LM (λs n last=>W get f s n (d+1) true last) (λs n=>W get f s n (d+1) false []) g.2.1.number.toNat g.2.2 (n+1) []
    else (0,[],g.2.2)
   (q.1,g.2.1::q.2.1,q.2.2)
  else (g.1,[],s)
structure GetOk {σ:Type} (get:Nat->Nat->Bool->List UInt8->σ->Int×Ja×σ):Prop where
 small:∀ {n d:Nat} {k:Bool} {b:List UInt8} {s:σ} {x:Ja} {t:σ},get n d k b s=(0,x,t)->n < 512/\d<=8/\(isN x.kind=true->x.number.toNat<=512)
 free:∀ (n d:Nat) (b b':List UInt8) (s:σ),get n d false b s=get n d false b' s
def Goes {σ:Type} (get:Nat->Nat->Bool->List UInt8->σ->Int×Ja×σ) (m:Nat) (S:List Je) (n:Nat) (s:σ) (w:Res σ) (T:List Je):Prop:=
 (w.1≠0->(mach get m S n s).1=w.1) /\
 (w.1=0->n+w.2.1.length<=512/\mach get m S n s=((mach get (m - w.2.1.length) T (n+w.2.1.length) w.2.2).1,w.2.1++(mach get (m - w.2.1.length) T (n+w.2.1.length) w.2.2).2.1,(mach get (m - w.2.1.length) T (n+w.2.1.length) w.2.2).2.2))
theorem Goes.trans {σ:Type} {get:Nat->Nat->Bool->List UInt8->σ->Int×Ja×σ} {m n:Nat} {S T U:List Je} {s:σ} {a b:Res σ} (h1:Goes get m S n s a T) (ha:a.1=0) (h2:Goes get (m - a.2.1.length) T (n+a.2.1.length) a.2.2 b U):Goes get m S n s (b.1,a.2.1++b.2.1,b.2.2) U:=by
 obtain ⟨_,h1⟩:=h1
 obtain ⟨i1,i2⟩:=h1 ha
 refine ⟨λhb=>?_,λhb=>?_⟩
 ·rw [i2]; exact h2.1 hb
 ·obtain ⟨j1,j2⟩:=h2.2 hb
  dsimp only at *
  refine ⟨by rw [Qa]; omega,?_⟩
  rw [i2,j2,Qa,Nat.sub_sub,Qbc,Qe]
theorem Goes.fail {σ:Type} {get:Nat->Nat->Bool->List UInt8->σ->Int×Ja×σ} {m n:Nat} {S T U:List Je} {s:σ} {a:Res σ} {e:Int} {o:List Ja} {t:σ} (h1:Goes get m S n s a T) (ha:a.1≠0) (he:e=a.1):Goes get m S n s (e,o,t) U:=by
 subst he
 exact ⟨λ_=>h1.1 ha,λh=>absurd h ha⟩
theorem Goes.fail2 {σ:Type} {get:Nat->Nat->Bool->List UInt8->σ->Int×Ja×σ} {m n:Nat} {S T U V:List Je} {s:σ} {a b:Res σ} {o:List Ja} {t:σ} (h1:Goes get m S n s a T) (ha:a.1=0) (h2:Goes get (m - a.2.1.length) T (n+a.2.1.length) a.2.2 b U) (hb:b.1≠0):Goes get m S n s (b.1,o,t) V:=by
 obtain ⟨i1,i2⟩:=h1.2 ha
 refine ⟨λ_=>?_,λh=>absurd h hb⟩
 rw [i2]; exact h2.1 hb
theorem Goes.nil {σ:Type} {get:Nat->Nat->Bool->List UInt8->σ->Int×Ja×σ} {m n:Nat} {S:List Je} {s:σ} (hn:n<=512):Goes get m S n s (0,[],s) S:=
 ⟨λh=>absurd rfl h,λ_=>⟨by simpa using hn,by simp⟩⟩
theorem W_ne {σ:Type} {get:Nat->Nat->Bool->List UInt8->σ->Int×Ja×σ} {f:Nat} {s:σ} {n d:Nat} {key:Bool} {b:List UInt8} (h:(W get f s n d key b).1=0):∃ x r,(W get f s n d key b).2.1=x::r:=by
 cases f with
 | zero=>simp [W] at h
 | succ f=>
  unfold W at h |-
  dsimp only at h |-
  by_cases hg:(get n d key b s).1=0
  ·rw [show decide ((get n d key b s).1=0)=true by simpa using hg]
   exact ⟨_,_,rfl⟩
  ·rw [show decide ((get n d key b s).1=0)=false by simpa using hg] at h
   exact absurd h hg
theorem tmod2 (j:Nat):Qba (2 * ((j+1:Nat):Int)) 2=0/\Qba (2 * ((j+1:Nat):Int) - 1) 2=1:=by
 constructor
 ·rw [show (2 * ((j+1:Nat):Int))=((2 * (j+1):Nat):Int) by omega]
  show (((2 * (j+1)) % 2:Nat):Int)=0
  omega
 ·rw [show (2 * ((j+1:Nat):Int) - 1)=((2 * j+1:Nat):Int) by omega]
  show (((2 * j+1) % 2:Nat):Int)=1
  omega
theorem Vaya {σ : Type} {get : Nat->Nat->Bool->List UInt8->σ->Int×Ja×σ} (G : GetOk get) : ∀ (f : Nat) (S : List Je) (n m : Nat) (s : σ), WS S->(S = []->n = 0)->10<=f+S.length->600<=m+n->n<=512 ->
  Goes get m S n s (W get f s n S.length (atK S) (lst S)) (pop (dcr (mrk ((W get f s n S.length (atK S) (lst S)).2.1.headD default) S)))
 | 0,S,n,m,s,hS,_,hf,_,_=>by have:=hS.2.2; omega
 | f+1, S, n, m, s, hS, hS0, hf, hm, hn => by
  have ih:=Vaya G f
  have hSe:(decide (0 < n)&&S.isEmpty)=false:=by
   cases S with
   | nil=>rw [hS0 rfl]; rfl
   | cons _ _=>simp
  obtain ⟨m,rfl⟩:∃ q,m=q+1:=⟨m - 1,by omega⟩
  unfold W
  dsimp only
  rcases hg:get n S.length (atK S) (lst S) s with ⟨e,x,t⟩
  dsimp only
  by_cases he:e=0
  ·subst he
   simp only [decide_true,cond_true,Qa8]
   obtain ⟨g1,g2,g3⟩:=G.small hg
   have hstep:=Vc2 (f:=m) hSe hg
   have hM:(∀ f∈dcr (mrk x S),0<=f.left/\f.left<=1024)/\(dcr (mrk x S)).length=S.length:=by
    cases S with
    | nil=>exact ⟨by simp [mrk,atK,dcr],rfl⟩
    | cons f r=>
     have h0:0 < f.left:=hS.2.1
     have h1:=hS.1 f (by simp)
     have h2:∀ g∈r,0<=g.left/\g.left<=1024:=λg hg=>hS.1 g (by simp [hg])
     unfold mrk
     cases atK (f::r)
     ·refine ⟨?_,rfl⟩
      intro g hg
      rcases List.mem_cons.1 hg with rfl | hg
      ·dsimp only; omega
      ·exact h2 g hg
     ·refine ⟨?_,rfl⟩
      intro g hg
      rcases List.mem_cons.1 hg with rfl | hg
      ·dsimp only; omega
      ·exact h2 g hg
   generalize hD:dcr (mrk x S)=D at hM
   obtain ⟨D1,D2⟩:=hM
   have hnx:nxt x S=pop (psh x D):=by unfold nxt; rw [hD]
   rw [hnx] at hstep
   -- the first item is taken
   have h1:Goes get (m+1) S n s (0,[x],t) (pop (psh x D)):=⟨λh=>absurd rfl h,λ_=>⟨by simp; omega,by
    dsimp only
    rw [hstep]; rfl⟩⟩
   -- a frame over D
   have wsF:∀ (p:Bool) (j:Int) (l:List UInt8),0 < j->j<=1024->WS (⟨p,j,l⟩::D):=λp j l hj hj2=>⟨λg hg=>by
    rcases List.mem_cons.1 hg with rfl | hg
    ·dsimp only; omega
    ·exact D1 g hg,hj,by simp [D2]; omega⟩
   have popF:∀ (p:Bool) (j:Int) (l:List UInt8),j≠0->pop (⟨p,j,l⟩::D)=⟨p,j,l⟩::D:=λp j l hj=>by
    conv=>lhs; unfold pop
    simp [hj]
   have popZ:∀ (p:Bool) (l:List UInt8),pop (⟨p,0,l⟩::D)=pop D:=λp l=>by
    conv=>lhs; unfold pop
    simp
   have fin:∀ q:Res σ,Goes get m (pop (psh x D)) (n+1) t q (pop D)->Goes get (m+1) S n s (q.1,x::q.2.1,q.2.2) (pop D):=λq hq=>h1.trans rfl hq
   refine fin _ ?_
   by_cases hk0:0 < x.number.toNat
   ·by_cases h5 : x.kind = 5
    ·have hk := g3 (by simp [isN, h5])
     have hp:pop (psh x D)=⟨false,(x.number.toNat:Int),[]⟩::D:=by
      unfold psh
      simp only [h5,hk0,decide_true,cond_true]
      exact popF _ _ _ (by omega)
     rw [hp]
     simp only [h5,decide_true,cond_true]
     have loop:∀ (k:Nat) (s:σ) (n m:Nat),0 < k->k<=512->600<=m+n->0 < n->n<=512->Goes get m (⟨false,(k:Int),[]⟩::D) n s (LA (λs n=>W get f s n (S.length+1) false []) k s n) (pop D):=by
      intro k
      induction k with
      | zero=>intro s n m h; omega
      | succ k ihk=>
       intro s n m _ hk2 hm2 hn0 hn2
       have hr:=ih (⟨false,((k+1:Nat):Int),[]⟩::D) n m s (wsF _ _ _ (by omega) (by omega)) (by simp) (by simp [D2]; omega) hm2 hn2
       have ea:atK (⟨false,((k+1:Nat):Int),[]⟩::D)=false:=rfl
       have el:(⟨false,((k+1:Nat):Int),[]⟩::D:List Je).length=S.length+1:=by simp [D2]
       have elst:lst (⟨false,((k+1:Nat):Int),[]⟩::D)=[]:=rfl
       have em:∀ y,pop (dcr (mrk y (⟨false,((k+1:Nat):Int),[]⟩::D)))=pop (⟨false,(k:Int),[]⟩::D):=λy=>by
        unfold mrk
        rw [ea]
        show pop (⟨false,((k+1:Nat):Int) - 1,[]⟩::D)=_
        rw [show ((k+1:Nat):Int) - 1=(k:Int) by omega]
       rw [ea,el,elst,em] at hr
       unfold LA
       generalize hw:W get f s n (S.length+1) false []=w at hr
       by_cases hw0:w.1=0
       ·rw [show decide (w.1=0)=true by simpa using hw0]
        simp only [cond_true]
        obtain ⟨i1,i2⟩:=hr.2 hw0
        obtain ⟨y,r,hy⟩:=W_ne (get:=get) (f:=f) (s:=s) (n:=n) (d:=S.length+1) (key:=false) (b:=[]) (by rw [hw]; exact hw0)
        rw [hw] at hy
        have hl1:1<=w.2.1.length:=by rw [hy]; simp
        refine hr.trans hw0 ?_
        by_cases hk1:0 < k
        ·rw [popF _ _ _ (by omega)]
         exact ihk w.2.2 (n+w.2.1.length) (m - w.2.1.length) hk1 (by omega) (by omega) (by omega) (by omega)
        ·have:k=0:=by omega
         subst this
         rw [show ((0:Nat):Int)=0 from rfl,popZ]
         exact Goes.nil (by omega)
       ·rw [show decide (w.1=0)=false by simpa using hw0]
        exact hr.fail hw0 rfl
     exact loop _ t (n+1) m hk0 hk (by omega) (by omega) (by omega)
    ·by_cases h6 : x.kind = 6
     ·have hk := g3 (by simp [isN, h6])
      have hp:pop (psh x D)=⟨true,2 * (x.number.toNat:Int),[]⟩::D:=by
       unfold psh
       simp only [h6,hk0,decide_true,cond_true,Int.reduceEq,decide_false,cond_false]
       exact popF _ _ _ (by omega)
      rw [hp]
      simp only [h6,decide_true,cond_true,Int.reduceEq,decide_false,cond_false]
      have loop : ∀ (k : Nat) (s : σ) (n m : Nat) (l : List UInt8), 0 < k->k<=512->600<=m+n->0 < n->n<=512->Goes get m (⟨true, 2 * (k : Int), l⟩::D) n s (LM (λs n last => W get f s n (S.length+1) true last) (λs n => W get f s n (S.length+1) false []) k s n l) (pop D) := by
       intro k
       induction k with
       | zero=>intro s n m l h; omega
       | succ k ihk=>
        intro s n m l _ hk2 hm2 hn0 hn2
        obtain ⟨t0,t1⟩:=tmod2 k
        -- the key
        have hr:=ih (⟨true,2 * ((k+1:Nat):Int),l⟩::D) n m s (wsF _ _ _ (by omega) (by omega)) (by simp) (by simp [D2]; omega) hm2 hn2
        have ea:atK (⟨true,2 * ((k+1:Nat):Int),l⟩::D)=true:=by simp only [atK,t0]; rfl
        have el:∀ g:Je,(g::D).length=S.length+1:=λg=>by simp [D2]
        have elst:lst (⟨true,2 * ((k+1:Nat):Int),l⟩::D)=l:=rfl
        have em:∀ y,pop (dcr (mrk y (⟨true,2 * ((k+1:Nat):Int),l⟩::D)))=⟨true,2 * ((k+1:Nat):Int) - 1,enc y⟩::D:=λy=>by
         unfold mrk
         rw [ea]
         exact popF true (2 * ((k+1:Nat):Int) - 1) (enc y) (by omega)
        rw [ea,el,elst,em] at hr
        unfold LM
        dsimp only
        generalize hw:W get f s n (S.length+1) true l=w at hr
        by_cases hw0:w.1=0
        ·rw [show decide (w.1=0)=true by simpa using hw0]
         simp only [cond_true]
         obtain ⟨i1,i2⟩:=hr.2 hw0
         obtain ⟨y,r,hy⟩:=W_ne (get:=get) (f:=f) (s:=s) (n:=n) (d:=S.length+1) (key:=true) (b:=l) (by rw [hw]; exact hw0)
         rw [hw] at hy
         have hl1:1<=w.2.1.length:=by rw [hy]; simp
         generalize hky:enc (w.2.1.headD default)=ky at hr
         -- the value
         have hv:=ih (⟨true,2 * ((k+1:Nat):Int) - 1,ky⟩::D) (n+w.2.1.length) (m - w.2.1.length) w.2.2 (wsF _ _ _ (by omega) (by omega)) (by simp) (by simp [D2]; omega) (by omega) (by omega)
         have eb:atK (⟨true,2 * ((k+1:Nat):Int) - 1,ky⟩::D)=false:=by simp only [atK,t1]; rfl
         have eWf:∀ (s:σ) (n:Nat) (b:List UInt8),W get f s n (S.length+1) false b=W get f s n (S.length+1) false []:=λs n b=>by
          cases f with
          | zero=>rfl
          | succ f=>
           unfold W
           rw [G.free n (S.length+1) b []]
         have em2:∀ y,pop (dcr (mrk y (⟨true,2 * ((k+1:Nat):Int) - 1,ky⟩::D)))=pop (⟨true,2 * (k:Int),ky⟩::D):=λy=>by
          unfold mrk
          rw [eb]
          show pop (⟨true,2 * ((k+1:Nat):Int) - 1 - 1,ky⟩::D)=_
          rw [show 2 * ((k+1:Nat):Int) - 1 - 1=2 * (k:Int) by omega]
         rw [eb,el,eWf,em2] at hv
         generalize hw2:W get f w.2.2 (n+w.2.1.length) (S.length+1) false []=v at hv
         by_cases hv0:v.1=0
         ·rw [show decide (v.1=0)=true by simpa using hv0]
          simp only [cond_true]
          obtain ⟨p1,p2⟩:=hv.2 hv0
          refine hr.trans hw0 (hv.trans hv0 ?_)
          by_cases hk1:0 < k
          ·rw [popF _ _ _ (by omega)]
           exact ihk v.2.2 (n+w.2.1.length+v.2.1.length) (m - w.2.1.length - v.2.1.length) ky hk1 (by omega) (by omega) (by omega) (by omega)
          ·have:k=0:=by omega
           subst this
           rw [show (2 * ((0:Nat):Int))=0 from rfl,popZ]
           exact Goes.nil (by omega)
         ·rw [show decide (v.1=0)=false by simpa using hv0]
          exact hr.fail2 hw0 hv hv0
        ·rw [show decide (w.1=0)=false by simpa using hw0]
         exact hr.fail hw0 rfl
      exact loop _ t (n+1) m [] hk0 hk (by omega) (by omega) (by omega)
     ·have hp:psh x D=D:=by
       unfold psh
       simp only [h5,h6,decide_false,cond_false]
       cases decide (0 < x.number.toNat)<;>rfl
      rw [hp]
      simp only [h5,h6,decide_false,cond_false]
      exact Goes.nil (by omega)
   ·have hk1:x.number.toNat=0:=by omega
    have hp:psh x D=D:=by
     unfold psh
     simp [hk1]
    rw [hp,hk1]
    have:(bif decide (x.kind=5) then LA (λs n=>W get f s n (S.length+1) false []) 0 t (n+1) else bif decide (x.kind=6) then LM (λs n last=>W get f s n (S.length+1) true last) (λs n=>W get f s n (S.length+1) false []) 0 t (n+1) [] else ((0:Int),([]:List Ja),t))=(0,[],t):=by
     cases decide (x.kind=5)<;>cases decide (x.kind=6)<;>rfl
    rw [this]
    exact Goes.nil (by omega)
  ·rw [show decide (e=0)=false by simpa using he]
   simp only [cond_false]
   refine ⟨λ_=>?_,λh=>absurd h he⟩
   rw [Vdh hSe hg he]
theorem Vvz {σ:Type} {get:Nat->Nat->Bool->List UInt8->σ->Int×Ja×σ} (G:GetOk get) (f:Nat) (hf:10<=f) (s:σ):((W get f s 0 0 false []).1≠0->(mach get 600 [] 0 s).1=(W get f s 0 0 false []).1)/\((W get f s 0 0 false []).1=0->mach get 600 [] 0 s=W get f s 0 0 false []):=by
 have h:=Vaya G f [] 0 600 s ⟨by simp,trivial,by simp⟩ (λ_=>rfl) (by simpa using hf) (by omega) (by omega)
 refine ⟨λhw=>h.1 hw,λhw=>?_⟩
 obtain ⟨h1,h2⟩:=h.2 hw
 obtain ⟨x,r,hx⟩:=W_ne hw
 have:mach get 600 [] 0 s=_:=h2
 rw [this]
 have e:pop (dcr (mrk ((W get f s 0 ([]:List Je).length (atK []) (lst [])).2.1.headD default) []))=[]:=rfl
 rw [e]
 have hl:0 < (W get f s 0 0 false []).2.1.length:=by rw [hx]; simp
 have hl2:0+(W get f s 0 0 false []).2.1.length<=512:=h1
 show (_,_,_)=_
 have hd:=Vfm (get:=get) (f:=600 - (W get f s 0 0 false []).2.1.length - 1) (n:=0+(W get f s 0 0 false []).2.1.length) (s:=(W get f s 0 0 false []).2.2) (by omega)
 rw [show 600 - (W get f s 0 0 false []).2.1.length - 1+1=600 - (W get f s 0 0 false []).2.1.length by omega] at hd
 have e2:(W get f s 0 ([]:List Je).length (atK []) (lst []))=W get f s 0 0 false []:=rfl
 rw [e2,hd]
 simp only [Qp]
 rw [<- hw]
theorem Vob:GetOk getL:=by
 constructor
 ·intro n d k b s x t h
  cases s with
  | nil=>simp [getL] at h
  | cons y r=>
   simp only [getL,Qy] at h
   obtain ⟨h1,rfl,rfl⟩:=h
   obtain ⟨c1,c2,c3,c4⟩:=Vdi h1
   exact ⟨(Vdj c1).1,(Vdj c1).2.2.2.2,(Vfn c3).2⟩
 ·intro n d b b' s
  cases s with
  | nil=>rfl
  | cons y r=>
   have:chk y n d false b=chk y n d false b':=by unfold chk acc; simp
   simp [getL,this]
theorem Vmu:∀ (f:Nat) (s:List Ja) (n d:Nat) (key:Bool) (b:List UInt8),(W getL f s n d key b).1=0->s=(W getL f s n d key b).2.1++(W getL f s n d key b).2.2
 | 0,s,n,d,key,b,h=>by simp [W] at h
 | f+1, s, n, d, key, b, h => by
  have ih:=Vmu f
  unfold W at h |-
  dsimp only at h |-
  rcases hg:getL n d key b s with ⟨e,x,t⟩
  rw [hg] at h
  dsimp only at h |-
  by_cases he:e=0
  ·subst he
   simp only [decide_true,cond_true] at h |-
   have hs:s=x::t:=by
    cases s with
    | nil=>simp [getL] at hg
    | cons y r=>
     simp only [getL,Qy] at hg
     rw [hg.2.1,hg.2.2]
   rw [hs,Qh]
   congr 1
   by_cases h5:x.kind=5
   ·simp only [h5,decide_true,cond_true] at h |-
    have loop:∀ (k:Nat) (t:List Ja) (n:Nat),(LA (λs n=>W getL f s n (d+1) false []) k t n).1=0->t=(LA (λs n=>W getL f s n (d+1) false []) k t n).2.1++(LA (λs n=>W getL f s n (d+1) false []) k t n).2.2:=by
     intro k
     induction k with
     | zero=>intro t n _; rfl
     | succ k ihk=>
      intro t n h
      unfold LA at h |-
      have i1:=ih t n (d+1) false []
      generalize W getL f t n (d+1) false []=w at h i1 |-
      by_cases hw:w.1=0
      ·rw [show decide (w.1=0)=true by simpa using hw] at h |-
       simp only [cond_true] at h |-
       rw [Qe,<- ihk _ _ h]
       exact i1 hw
      ·rw [show decide (w.1=0)=false by simpa using hw] at h
       exact absurd h hw
    exact loop _ _ _ h
   ·by_cases h6:x.kind=6
    ·simp only [h6,decide_true,cond_true,Int.reduceEq,decide_false,cond_false] at h |-
     have loop:∀ (k:Nat) (t:List Ja) (n:Nat) (l:List UInt8),(LM (λs n last=>W getL f s n (d+1) true last) (λs n=>W getL f s n (d+1) false []) k t n l).1=0->t=(LM (λs n last=>W getL f s n (d+1) true last) (λs n=>W getL f s n (d+1) false []) k t n l).2.1++(LM (λs n last=>W getL f s n (d+1) true last) (λs n=>W getL f s n (d+1) false []) k t n l).2.2:=by
      intro k
      induction k with
      | zero=>intro t n l _; rfl
      | succ k ihk=>
       intro t n l h
       unfold LM at h |-
       dsimp only at h |-
       have i1:=ih t n (d+1) true l
       generalize W getL f t n (d+1) true l=w at h i1 |-
       by_cases hw:w.1=0
       ·rw [show decide (w.1=0)=true by simpa using hw] at h |-
        simp only [cond_true] at h |-
        have i2:=ih w.2.2 (n+w.2.1.length) (d+1) false []
        generalize W getL f w.2.2 (n+w.2.1.length) (d+1) false []=v at h i2 |-
        by_cases hv:v.1=0
        ·rw [show decide (v.1=0)=true by simpa using hv] at h |-
         simp only [cond_true] at h |-
         rw [Qe,Qe,<- ihk _ _ _ h,<- i2 hv]
         exact i1 hw
        ·rw [show decide (v.1=0)=false by simpa using hv] at h
         exact absurd h hv
       ·rw [show decide (w.1=0)=false by simpa using hw] at h
        exact absurd h hw
     exact loop _ _ _ _ h
    ·simp only [h5,h6,decide_false,cond_false]
     rfl
  ·rw [show decide (e=0)=false by simpa using he] at h
   exact absurd h he
def Zr (w:Res (List Ja)) (n:Nat) (z:(Int×Int×Unit)⊕(Int×Unit)):Prop:=(w.1=0->z = .inr (((n+w.2.1.length:Nat):Int),()))/\(w.1≠0->∃ j,z = .inl (j,w.1,()))
theorem Voc {l a b:List Ja} {n:Nat} (h:l.drop n=a++b):l.drop (n+a.length)=b:=by
 rw [<- Qaq,h]; simp
theorem Vv0 (l:List Ja) (hl:l.length < 1000000) (hd:∀ x∈l,x.data.length < 100000):∀ (f n d:Nat) (key:Bool) (b:List UInt8),n<=l.length->d<=9->10<=f+d ->
  ∃ j:Int,passkeyref1_walk_n f l (n:Int) (d:Int) key b=some ((),j,(W getL f (l.drop n) n d key b).1,())/\((W getL f (l.drop n) n d key b).1=0->j=((n+(W getL f (l.drop n) n d key b).2.1.length:Nat):Int))
 | 0,n,d,key,b,hn,hd9,hf=>by omega
 | f+1, n, d, key, b, hn, hd9, hf => by
  have ih:=Vv0 l hl hd f
  show ∃ j:Int,passkeyref1_walk_R (passkeyref1_walk_n f) l (n:Int) (d:Int) key b=_/\_
  unfold passkeyref1_walk_R
  unfold W
  dsimp only
  by_cases hnl:n=l.length
  ·rw [show decide ((l.length:Int)<=(n:Int))=true by simp; omega,show l.drop n=[] by simp [hnl]]
   exact ⟨n,rfl,λh=>by simp [getL] at h⟩
  ·have hlt:n < l.length:=by omega
   rw [show decide ((l.length:Int)<=(n:Int))=false by simp; omega]
   obtain ⟨x,hx⟩:∃ x,l[n]? = some x:=⟨l[n],by simp [hlt]⟩
   have hdr:l.drop n=x::l.drop (n+1):=by
    rw [Q9 hlt]
    congr 1
    rw [Qd hlt] at hx
    exact Qau hx
   have eg:getI l (n:Int)=some x:=by unfold getI; simp [hx]
   rw [hdr,eg]
   simp only [cond_false,bindS,getL,Vym x n d key b (by have:=hd x (Qg hx); omega)]
   rw [Vaa (n:=(n:Int)+1) (by omega) (by omega)]
   by_cases hc:chk x n d key b=0
   ·simp only [hc,decide_true,Qj,cond_false,cond_true]
    obtain ⟨c1,c2,c3,c4⟩:=Vdi hc
    have hd8:=(Vdj c1).2.2.2.2
    have hnum:=(Vfn c3).2
    -- the loop
    have ed:Qk .i64 ((d:Int)+1)=((d+1:Nat):Int):=by
     rw [Vaa (n:=(d:Int)+1) (by omega) (by omega)]; rfl
    have ebv:∀ i:Nat,i<=2000->(Qf 64 i).toNat=i:=λi hi=>by
     rw [Qt,Qz (by omega)]
    have ebs:∀ i:Nat,i<=1000->Qf 64 i+1#64=Qf 64 (i+1):=λi hi=>by
     apply Qat
     rw [BitVec.toNat_add,ebv i (by omega),ebv (i+1) (by omega)]
     rw [show (1#64).toNat=1 from rfl,Qz (by omega)]
    have key2 : ∃ z, passkeyref1_walk_L0 (passkeyref1_walk_n f) (l, (d : Int), (x, ()), (n : Int)+1, [], 0#64, ()) = some z/\Zr (bif decide (x.kind = 5) then LA (λs n => W getL f s n (d+1) false []) x.number.toNat (l.drop (n+1)) (n+1) else bif decide (x.kind = 6) then LM (λs n last => W getL f s n (d+1) true last) (λs n => W getL f s n (d+1) false []) x.number.toNat (l.drop (n+1)) (n+1) [] else ((0 : Int), ([] : List Ja), l.drop (n+1))) (n+1) z := by
     unfold passkeyref1_walk_L0
     rw [show ((n:Int)+1)=((n+1:Nat):Int) by omega,show (0#64)=Qf 64 0 from rfl]
     by_cases h5:x.kind=5
     ·have hk := hnum (by simp [isN, h5])
      have loop:∀ (k i m fuel:Nat) (last:List UInt8),i+k=x.number.toNat->m<=l.length->k < fuel->∃ z,iter (λ(y:((List (Ja))×Int×(Ja×Unit)×Int×(List UInt8)×(BitVec 64)×Unit))=>passkeyref1_walk_L0b (passkeyref1_walk_n f) y.1 y.2.1 y.2.2.1 y.2.2.2.1 y.2.2.2.2.1 y.2.2.2.2.2.1) fuel (l,(d:Int),(x,()),(m:Int),last,Qf 64 i,())=some z/\Zr (LA (λs n=>W getL f s n (d+1) false []) k (l.drop m) m) m z:=by
       intro k
       induction k with
       | zero=>
        intro i m fuel last hi hm hfu
        obtain ⟨fuel,rfl⟩:∃ g,fuel=g+1:=⟨fuel - 1,by omega⟩
        rw [Vad]
        refine ⟨.inr ((m:Int),()),?_,λ_=>rfl,λh=>absurd rfl h⟩
        dsimp only
        unfold passkeyref1_walk_L0b
        rw [ebv i (by omega),show decide (i < x.number.toNat)=false by simp; omega]
        rfl
       | succ k ihk=>
        intro i m fuel last hi hm hfu
        obtain ⟨fuel,rfl⟩:∃ g,fuel=g+1:=⟨fuel - 1,by omega⟩
        rw [Vad]
        obtain ⟨j,hj1,hj2⟩:=ih m (d+1) false [] hm (by omega) (by omega)
        have hwl:=λh=>Vmu f (l.drop m) m (d+1) false [] h
        have e1:passkeyref1_walk_L0b (passkeyref1_walk_n f) l (d:Int) (x,()) (m:Int) last (Qf 64 i)=(bif (!decide ((W getL f (l.drop m) m (d+1) false []).1=(0:Int))) then (some (Qam (Q8 (j,(W getL f (l.drop m) m (d+1) false []).1,())))) else (some (Q8 (l,(d:Int),(x,()),j,last,(Qf 64 (i+1)),())))):=by
         unfold passkeyref1_walk_L0b
         rw [ebv i (by omega),show decide (i < x.number.toNat)=true by simp; omega]
         simp only [h5,decide_true,cond_true,Int.reduceEq,decide_false,cond_false,bindS,Qq,ed,ebs i (by omega)]
         rw [hj1]
         simp only [bindS]
        dsimp only
        rw [e1]
        unfold LA
        generalize W getL f (l.drop m) m (d+1) false []=w at hj2 hwl |-
        by_cases hw:w.1=0
        ·rw [show decide (w.1=0)=true by simpa using hw]
         simp only [Qj,cond_false,cond_true,bindS,Qq]
         rw [hj2 hw]
         have hdw:=Voc (hwl hw)
         have hle:m+w.2.1.length<=l.length:=by
          have:=congrArg List.length (hwl hw)
          simp at this
          omega
         obtain ⟨z,hz1,hz2,hz3⟩:=ihk (i+1) (m+w.2.1.length) fuel last (by omega) hle (by omega)
         rw [hdw] at hz2 hz3
         refine ⟨z,hz1,λh=>?_,λh=>hz3 h⟩
         dsimp only at h |-
         rw [hz2 h,Qa,Qbc]
        ·rw [show decide (w.1=0)=false by simpa using hw]
         exact ⟨_,rfl,λh=>absurd h hw,λ_=>⟨_,rfl⟩⟩
      rw [show decide (x.kind=5)=true by simpa using h5]
      exact loop _ 0 (n+1) rounds [] (by omega) (by omega) (by rw [Vab]; omega)
     ·by_cases h6:x.kind=6
      ·have hk := hnum (by simp [isN, h6])
       have loop:∀ (k i m fuel:Nat) (last:List UInt8),i+k=x.number.toNat->m<=l.length->k < fuel->∃ z,iter (λ(y:((List (Ja))×Int×(Ja×Unit)×Int×(List UInt8)×(BitVec 64)×Unit))=>passkeyref1_walk_L0b (passkeyref1_walk_n f) y.1 y.2.1 y.2.2.1 y.2.2.2.1 y.2.2.2.2.1 y.2.2.2.2.2.1) fuel (l,(d:Int),(x,()),(m:Int),last,Qf 64 i,())=some z/\Zr (LM (λs n last=>W getL f s n (d+1) true last) (λs n=>W getL f s n (d+1) false []) k (l.drop m) m last) m z:=by
        intro k
        induction k with
        | zero=>
         intro i m fuel last hi hm hfu
         obtain ⟨fuel,rfl⟩:∃ g,fuel=g+1:=⟨fuel - 1,by omega⟩
         rw [Vad]
         refine ⟨.inr ((m:Int),()),?_,λ_=>rfl,λh=>absurd rfl h⟩
         dsimp only
         unfold passkeyref1_walk_L0b
         rw [ebv i (by omega),show decide (i < x.number.toNat)=false by simp; omega]
         rfl
        | succ k ihk=>
         intro i m fuel last hi hm hfu
         obtain ⟨fuel,rfl⟩:∃ g,fuel=g+1:=⟨fuel - 1,by omega⟩
         rw [Vad]
         obtain ⟨j,hj1,hj2⟩:=ih m (d+1) true last hm (by omega) (by omega)
         have hwl:=λh=>Vmu f (l.drop m) m (d+1) true last h
         have hwn:=λh=>W_ne (get:=getL) (f:=f) (s:=l.drop m) (n:=m) (d:=d+1) (key:=true) (b:=last) h
         unfold LM
         dsimp only
         unfold passkeyref1_walk_L0b
         rw [ebv i (by omega),show decide (i < x.number.toNat)=true by simp; omega]
         simp only [h6,decide_true,cond_true,Int.reduceEq,decide_false,cond_false,ed]
         rw [hj1]
         simp only [bindS]
         generalize W getL f (l.drop m) m (d+1) true last=w at hj2 hwl hwn |-
         by_cases hw:w.1=0
         ·rw [show decide (w.1=0)=true by simpa using hw]
          obtain ⟨y,r,hy⟩:=hwn hw
          have hdw:=Voc (hwl hw)
          have hlw:=congrArg List.length (hwl hw)
          simp only [List.length_drop,Qa] at hlw
          have hl1:1<=w.2.1.length:=by rw [hy]; simp
          have hym:l[m]? = some y:=by
           have:=congrArg (·[0]?) (hwl hw)
           rw [hy] at this
           simpa using this
          have egy:getI l (m:Int)=some y:=by unfold getI; simp [hym]
          have hjj:=hj2 hw
          subst hjj
          obtain ⟨j2,hj3,hj4⟩:=ih (m+w.2.1.length) (d+1) false [] (by omega) (by omega) (by omega)
          have hvl:=λh=>Vmu f (l.drop (m+w.2.1.length)) (m+w.2.1.length) (d+1) false [] h
          rw [hdw] at hj3 hj4 hvl
          simp only [Qj,cond_false,cond_true,egy,bindS,Vfk y (by have:=hd y (Qg hym); omega),Qq,ed,ebs i (by omega)]
          rw [hj3]
          simp only [bindS]
          have hhy:w.2.1.headD default=y:=by rw [hy]; rfl
          rw [hhy]
          generalize W getL f w.2.2 (m+w.2.1.length) (d+1) false []=v at hj4 hvl |-
          by_cases hv:v.1=0
          ·rw [show decide (v.1=0)=true by simpa using hv,hj4 hv]
           simp only [Qj,cond_false,cond_true,bindS,Qq]
           have hdv:l.drop (m+w.2.1.length+v.2.1.length)=v.2.2:=Voc (by rw [hdw]; exact hvl hv)
           have hlv:=congrArg List.length (hvl hv)
           simp only [Qa] at hlv
           obtain ⟨z,hz1,hz2,hz3⟩:=ihk (i+1) (m+w.2.1.length+v.2.1.length) fuel (enc y) (by omega) (by omega) (by omega)
           rw [hdv] at hz2 hz3
           refine ⟨z,hz1,λh=>?_,λh=>hz3 h⟩
           dsimp only at h |-
           rw [hz2 h,Qa,Qa]
           congr 3
           omega
          ·rw [show decide (v.1=0)=false by simpa using hv]
           exact ⟨_,rfl,λh=>absurd h hv,λ_=>⟨_,rfl⟩⟩
         ·rw [show decide (w.1=0)=false by simpa using hw]
          exact ⟨_,rfl,λh=>absurd h hw,λ_=>⟨_,rfl⟩⟩
       rw [show decide (x.kind=5)=false by simpa using h5,show decide (x.kind=6)=true by simpa using h6]
       exact loop _ 0 (n+1) rounds [] (by omega) (by omega) (by rw [Vab]; omega)
      ·rw [Vab,show (1180591620717411303424:Nat)=1180591620717411303423+1 from rfl,Vad]
       dsimp only
       unfold passkeyref1_walk_L0b
       simp only [h5,h6,decide_false,cond_false]
       refine ⟨.inr (((n+1:Nat):Int),()),?_,λ_=>rfl,λh=>absurd rfl h⟩
       cases decide ((Qf 64 0).toNat < x.number.toNat)<;>rfl
    obtain ⟨z,hz,hz1⟩:=key2
    rw [hz]
    simp only [bindS]
    have fin:∀ (w:Res (List Ja)) (z:(Int×Int×Unit)⊕(Int×Unit)),Zr w (n+1) z->∃ j:Int,Sum.elim (λ(z13:(Int×Int×Unit))=>(some ((),(z13.1,z13.2.1,())):Option (Unit×(Int×Int×Unit)))) (λ(z14:(Int×Unit))=>(some ((),(z14.1,(0:Int),())))) z=some ((),j,w.1,())/\(w.1=0->j=((n+(x::w.2.1).length:Nat):Int)):=by
     intro w z hz
     obtain ⟨hz1,hz2⟩:=hz
     by_cases hw:w.1=0
     ·rw [hz1 hw,hw]
      refine ⟨_,rfl,λ_=>?_⟩
      simp only [Qb]
      omega
     ·obtain ⟨j,rfl⟩:=hz2 hw
      exact ⟨j,rfl,λh=>absurd h hw⟩
    exact fin _ _ hz1
   ·simp only [hc,decide_false,Q4,cond_false,cond_true]
    exact ⟨(n:Int),rfl,λh=>h.elim⟩
theorem Vmv (l:List Ja) (hl:l.length < 1000000) (hd:∀ x∈l,x.data.length < 100000):Zci l=some ((),valO l,()):=by
 obtain ⟨j,h1,h2⟩:=Vv0 l hl hd 12 0 0 false [] (by omega) (by omega) (by omega)
 obtain ⟨m1,m2⟩:=Vvz Vob 12 (by omega) l
 have hwl:=λh=>Vmu 12 l 0 0 false [] h
 unfold Zci passkeyref1_walk valO valE
 rw [show l.drop 0=l from rfl] at h1 h2
 have h1':passkeyref1_walk_n 12 l 0 0 false []=some ((),j,(W getL 12 l 0 0 false []).1,()):=h1
 rw [h1']
 simp only [bindS]
 by_cases hw:(W getL 12 l 0 0 false []).1=0
 ·rw [m2 hw,h2 hw]
  have hh:=hwl hw
  generalize W getL 12 l 0 0 false []=w at hw hh |-
  simp only [hw,decide_true,Qj,cond_false]
  have hlen:=congrArg List.length hh
  rw [Qa] at hlen
  cases ht:w.2.2 with
  | nil=>
   rw [ht] at hlen
   rw [show decide (((0+w.2.1.length:Nat):Int) < (l.length:Int))=false by simp at hlen |-; omega]
   rfl
  | cons y r=>
   rw [ht] at hlen
   rw [show decide (((0+w.2.1.length:Nat):Int) < (l.length:Int))=true by simp at hlen |-; omega]
   rfl
 ·rw [m1 hw]
  simp [hw]
theorem Vjm:∀ (f:Nat) (S:List Je) (n:Nat) (l:List Ja),(mach getL f S n l).1=0->l=(mach getL f S n l).2.1++(mach getL f S n l).2.2/\∀ x∈(mach getL f S n l).2.1,∃ n d k b,chk x n d k b=0
 | 0,S,n,l,h=>by simp [mach] at h
 | f+1,S,n,l,h=>by
  cases hS:(decide (0 < n)&&S.isEmpty)
  ·rcases hg:getL n S.length (atK S) (lst S) l with ⟨e,x,t⟩
   by_cases he:e=0
   ·subst he
    rw [Vc2 hS hg] at h |-
    obtain ⟨i1,i2⟩:=Vjm f (nxt x S) (n+1) t h
    have hs:l=x::t/\chk x n S.length (atK S) (lst S)=0:=by
     cases l with
     | nil=>simp [getL] at hg
     | cons y r=>
      simp only [getL,Qy] at hg
      obtain ⟨q1,rfl,rfl⟩:=hg
      exact ⟨rfl,q1⟩
    refine ⟨by rw [hs.1,Qh,<- i1],λy hy=>?_⟩
    rcases List.mem_cons.1 hy with rfl | hy
    ·exact ⟨_,_,_,_,hs.2⟩
    ·exact i2 y hy
   ·rw [Vdh hS hg he] at h
    exact absurd h he
  ·simp only [Qx,decide_eq_true_eq,Qao] at hS
   obtain ⟨q1,rfl⟩:=hS
   rw [Vfm q1]
   exact ⟨rfl,by simp⟩
theorem Vh6 {l:List Ja} (h:valO l=0):mach getL 600 [] 0 l=(0,l,[])/\∀ x∈l,kin x/\x.data.length<=1024:=by
 unfold valO valE at h
 have hm:=Vjm 600 [] 0 l
 generalize mach getL 600 [] 0 l=m at h hm |-
 obtain ⟨e,o,t⟩:=m
 dsimp only at h hm |-
 by_cases he:e=0
 ·subst he
  cases t with
  | nil=>
   obtain ⟨h1,h2⟩:=hm rfl
   rw [Qp] at h1
   subst h1
   refine ⟨rfl,λx hx=>?_⟩
   obtain ⟨n,d,k,b,hc⟩:=h2 x hx
   obtain ⟨c1,c2,c3,c4⟩:=Vdi hc
   exact ⟨Vaxa c1 c2,(Vfn c3).1⟩
  | cons y r=>simp at h
 ·simp [he] at h
def encA (l:List Ja):List UInt8:=l.flatMap enc
def encO (l:List Ja):List UInt8×Int:=bif decide (valO l=0) then (encA l,0) else ([],valO l)
theorem Vv1 {x:Ja} (h:x.data.length<=1024):(enc x).length<=1033:=by
 have:=(Vh4 x).2
 unfold enc
 rw [Qa]
 omega
theorem Vh7:∀ (l:List Ja) (o:List UInt8),l.foldl (λo x=>o++enc x) o=o++encA l
 | [],o=>by simp [encA]
 | x::r,o=>by
  rw [List.foldl_cons,Vh7 r,Qe]
  simp [encA]
theorem Vv2 (l:List Ja) (hl:l.length<=600) (hd:∀ x∈l,x.data.length < 100000):Zie l=some ((),(encO l).1,(encO l).2,()):=by
 unfold Zie encO
 rw [Ve1 l (by omega) hd]
 simp only [bindS]
 by_cases h:valO l=0
 ·obtain ⟨_,hk⟩:=Vh6 h
  simp only [h,decide_true,Qj,cond_false,cond_true]
  unfold Zie_L0
  have:=Vmr (f:=λ(y:((List (UInt8))×(List (Ja))×Int×Int×Unit))=>Zie_L0b y.1 y.2.1 y.2.2.1 y.2.2.2.1) (λi (o:List UInt8)=>(o,l,(l.length:Int),i,())) l (λ_ x o=>.inl (o++enc x)) (λo=>(o,())) (λi o=>o.length<=1033 * i) ?_ ?_ [] (by simp) rounds (by rw [Vab]; omega)
  ·rw [this,Vh2,Vh7]
   rfl
  ·intro i x o hx ho
   have hi:i < l.length:=(List.getElem?_eq_some_iff.1 hx).1
   obtain ⟨k1,k2⟩:=hk x (Qg hx)
   have he:=Vv1 k2
   refine ⟨?_,λa' ha=>?_⟩
   ·dsimp only
    unfold Zie_L0b
    have eg:getI l (i:Int)=some x:=by unfold getI; simp [hx]
    rw [show decide ((i:Int) < (l.length:Int))=true by simp; omega,eg,Vaa (n:=(i:Int)+1) (by omega) (by omega)]
    simp only [cond_true,bindS]
    rw [Vfj o x k1 (by omega) (by omega)]
    rfl
   ·cases ha
    rw [Qa]
    omega
  ·intro o _
   dsimp only
   unfold Zie_L0b
   rw [show decide ((l.length:Int) < (l.length:Int))=false by simp]
   rfl
 ·simp [h]
theorem Vjn (l:List Ja) (hl:l.length<=600) (hd:∀ x∈l,x.data.length < 100000):Zea l=some ((),(encO l).1,(encO l).2,()):=by
 unfold Zea encO
 rw [Vmv l (by omega) hd]
 simp only [bindS]
 by_cases h:valO l=0
 ·obtain ⟨_,hk⟩:=Vh6 h
  simp only [h,decide_true,Qj,cond_false,cond_true]
  unfold Zea_L0
  have:=Vmr (f:=λ(y:((List (Ja))×(List (UInt8))×Int×Unit))=>Zea_L0b y.1 y.2.1 y.2.2.1) (λi (o:List UInt8)=>(l,o,i,())) l (λ_ x o=>.inl (o++enc x)) (λo=>(o,())) (λi o=>o.length<=1033 * i) ?_ ?_ [] (by simp) rounds (by rw [Vab]; omega)
  ·rw [this,Vh2,Vh7]
   rfl
  ·intro i x o hx ho
   have hi:i < l.length:=(List.getElem?_eq_some_iff.1 hx).1
   obtain ⟨k1,k2⟩:=hk x (Qg hx)
   have he:=Vv1 k2
   refine ⟨?_,λa' ha=>?_⟩
   ·dsimp only
    unfold Zea_L0b
    have eg:getI l (i:Int)=some x:=by unfold getI; simp [hx]
    rw [show decide ((i:Int) < (l.length:Int))=true by simp; omega,eg,Vaa (n:=(i:Int)+1) (by omega) (by omega)]
    simp only [cond_true,bindS]
    rw [Vfk x (by omega)]
    simp only [bindS]
    rw [Vcp (by omega)]
    rfl
   ·cases ha
    rw [Qa]
    omega
  ·intro o _
   dsimp only
   unfold Zea_L0b
   rw [show decide ((l.length:Int) < (l.length:Int))=false by simp]
   rfl
 ·simp [h]
theorem mask (a:Int) (m:Nat) (hm:m < 10000000):∃ k:Nat,k<=m/\Qk .i64 ((Qc (Qa9 .i64) a &&& Qc (Qa9 .i64) (m:Int)).toNat:Int)=(k:Int):=by
 have e:(Qc 64 (m:Int)).toNat=m:=by rw [Qr,Qt,Qz (by omega)]
 have h:(Qc 64 a &&& Qc 64 (m:Int)).toNat<=m:=by
  rw [BitVec.toNat_and,e]; exact Nat.and_le_right
 refine ⟨_,h,?_⟩
 show Qk .i64 ((Qc 64 a &&& Qc 64 (m:Int)).toNat:Int)=_
 exact Vaa (by omega) (by omega)
def VT (h:Nat) (o:List Ja):Prop:=∀ (g n dd:Nat) (r:List Ja) (b:List UInt8),h<=g->n+o.length<=512->dd+h<=9->W getL g (o++r) n dd false b=(0,o,r)
theorem Vdk {x:Ja} (h5:x.kind≠5) (h6:x.kind≠6) (hc:∀ n d b,n < 512->d<=8->chk x n d false b=0):VT 1 [x]:=by
 intro g n dd r b hg hn hd
 obtain ⟨g,rfl⟩:∃ q,g=q+1:=⟨g - 1,by omega⟩
 unfold W
 have:=hc n dd b (by simp at hn; omega) (by omega)
 simp [getL,this,h5,h6]
theorem Vv3 {h h':Nat} {o:List Ja} (hh:h<=h') (H:VT h o):VT h' o:=λg n dd r b h1 h2 h3=>H g n dd r b (by omega) h2 (by omega)
def keysOk:List UInt8->List Ja->Prop
 | _,[]=>True
 | last,x::r=>isN x.kind=false/\(∀ n d,n < 512->d<=8->chk x n d true last=0)/\keysOk (enc x) r
theorem LM_ok {h g dd:Nat} (hg:h<=g) (hg1:1<=g) (hd:dd+1+h<=9) (hd8:dd+1<=8):∀ (ks:List Ja) (os:List (List Ja)) (r:List Ja) (n:Nat) (last:List UInt8),ks.length=os.length->keysOk last ks->(∀ o∈os,VT h o)->n+((ks.zip os).flatMap λp=>p.1::p.2).length<=512->LM (λs n last=>W getL g s n (dd+1) true last) (λs n=>W getL g s n (dd+1) false []) ks.length (((ks.zip os).flatMap λp=>p.1::p.2)++r) n last=(0,(ks.zip os).flatMap λp=>p.1::p.2,r)
 | [],os,r,n,last,_,_,_,_=>rfl
 | x::ks,[],r,n,last,hl,_,_,_=>by cases hl
 | x::ks,o::os,r,n,last,hl,hk,H,hn=>by
  obtain ⟨k1,k2,k3⟩:=hk
  simp only [Qaj,Qaa,Qa,Qb] at hn
  obtain ⟨g,rfl⟩:∃ q,g=q+1:=⟨g - 1,by omega⟩
  have hkey:∀ s,W getL (g+1) (x::s) n (dd+1) true last=(0,[x],s):=by
   intro s
   unfold W
   simp only [isN,Qw,decide_eq_false_iff_not] at k1
   simp [getL,k2 n (dd+1) (by omega) hd8,k1.1,k1.2]
  have h1:=H o (by simp) (g+1) (n+1) (dd+1) (((ks.zip os).flatMap λp=>p.1::p.2)++r) [] hg (by omega) (by omega)
  have h2:=LM_ok hg hg1 hd hd8 ks os r (n+1+o.length) (enc x) (by simpa using hl) k3 (λp hp=>H p (by simp [hp])) (by omega)
  simp only [Qb,Qaj,Qaa,Qh,Qe]
  unfold LM
  dsimp only
  rw [hkey]
  simp only [decide_true,cond_true,Qb,Qv,Qa8,Nat.zero_add]
  rw [h1]
  simp only [decide_true,cond_true]
  rw [h2]
  rfl
theorem Vaza {h k:Nat} {ks:List Ja} {os:List (List Ja)} (hk:ks.length=k) (hl:ks.length=os.length) (hk3:k<=512) (h1:1<=h) (hK:keysOk [] ks) (H:∀ o∈os,VT h o):VT (h+1) (⟨6,Qf 64 k,[]⟩::(ks.zip os).flatMap λp=>p.1::p.2):=by
 intro g n dd r b hg hn hd
 obtain ⟨g,rfl⟩:∃ q,g=q+1:=⟨g - 1,by omega⟩
 simp only [Qb] at hn
 have hkn:(Qf 64 k).toNat=k:=by rw [Qt,Qz (by omega)]
 have hc:chk ⟨6,Qf 64 k,[]⟩ n dd false b=0:=by
  unfold chk adm bad big acc
  dsimp only
  rw [hkn,show decide (512<=n)=false by simp; omega,show decide (8 < dd)=false by simp; omega,show decide (512 < k)=false by simp; omega]
  rfl
 have:=LM_ok (g:=g) (dd:=dd) (by omega) (by omega) (by omega) (by omega) ks os r (n+1) [] hl hK H (by omega)
 rw [hk] at this
 unfold W
 simp only [Qh,getL,hc,decide_true,decide_false,cond_true,cond_false,hkn,this,Int.reduceEq]
theorem Vb7 {x:Ja} {n d:Nat} {b:List UInt8} (h1:1<=x.kind) (h2:x.kind<=8) (h3:bad x=false) (h4:big x=false) (h5:x.kind=4->Lib.validD x.data=true) (hn:n < 512) (hd:d<=8):chk x n d false b=0:=by
 unfold chk adm acc
 rw [h3,h4,show decide (512<=n)=false by simp; omega,show decide (8 < d)=false by simp; omega,show (decide (1<=x.kind)&&decide (x.kind<=8))=true by simp [h1,h2]]
 by_cases hk:x.kind=4
 ·rw [h5 hk]; simp
 ·simp [hk]
theorem Vv4 {x:Ja} {n d:Nat} {last:List UInt8} (h1:x.kind=1\/x.kind=4) (h3:bad x=false) (h4:big x=false) (h5:x.kind=4->Lib.validD x.data=true) (h6:last=[]\/lss last (enc x)=true) (hn:n < 512) (hd:d<=8):chk x n d true last=0:=by
 have e6:(true&&(!last.isEmpty&&!lss last (enc x)))=false:=by
  rcases h6 with rfl | h
  ·rfl
  ·rw [h]; cases last.isEmpty<;>rfl
 unfold chk adm acc
 rw [h3,h4,show decide (512<=n)=false from decide_eq_false (by omega),show decide (8 < d)=false from decide_eq_false (by omega),e6]
 rcases h1 with hk | hk
 ·rw [hk]; rfl
 ·rw [h5 hk,hk]; rfl
def hdc (n:BitVec 64):UInt8:=bif decide (n.toNat < 24) then byt n else bif decide (n.toNat < 256) then 24 else bif decide (n.toNat < 65536) then 25 else bif decide (n.toNat < 4294967296) then 26 else 27
theorem Vq4 {σ:Type} (get:Nat->Nat->Bool->List UInt8->σ->Int×Ja×σ) (f:Nat) (S:List Je) (n:Nat) (s:σ):(decide (0 < n)&&S.isEmpty)=true/\mach get (f+1) S n s=(0,[],s)\/(decide (0 < n)&&S.isEmpty)=false/\(get n S.length (atK S) (lst S) s).1≠0/\mach get (f+1) S n s=((get n S.length (atK S) (lst S) s).1,[],s)\/(decide (0 < n)&&S.isEmpty)=false/\∃ x t,get n S.length (atK S) (lst S) s=(0,x,t)/\mach get (f+1) S n s=((mach get f (nxt x S) (n+1) t).1,x::(mach get f (nxt x S) (n+1) t).2.1,(mach get f (nxt x S) (n+1) t).2.2):=by
 cases hS:(decide (0 < n)&&S.isEmpty)
 ·right
  by_cases hg:(get n S.length (atK S) (lst S) s).1=0
  ·right
   have e:get n S.length (atK S) (lst S) s=(0,(get n S.length (atK S) (lst S) s).2.1,(get n S.length (atK S) (lst S) s).2.2):=by rw [<- hg]
   exact ⟨rfl,_,_,e,Vc2 hS e⟩
  ·left
   refine ⟨rfl,hg,Vdh hS (x:=(get n S.length (atK S) (lst S) s).2.1) (t:=(get n S.length (atK S) (lst S) s).2.2) rfl hg⟩
 ·left
  refine ⟨rfl,?_⟩
  unfold mach
  rw [hS]; rfl
theorem Vv5 {n d:Nat} {key:Bool} {b:List UInt8} {l:List Ja} {x:Ja} {t:List Ja} (h:getL n d key b l=(0,x,t)):l=x::t/\chk x n d key b=0:=by
 cases l with
 | nil=>simp [getL] at h
 | cons y r=>
  simp only [getL,Qy] at h
  obtain ⟨h1,rfl,rfl⟩:=h
  exact ⟨rfl,h1⟩
theorem Vmw (x:Ja) (l:List Ja):encA (x::l)=enc x++encA l:=by unfold encA; rw [Qaa]
theorem Vgy {α:Type} {l:List α} {i:Nat} {x:α} (h:l[i]? = some x):getI l (i:Int)=some x:=by unfold getI; simp [h]
theorem Vc3 {α:Type} {l:List α} {j:Nat} {c:α} {r:List α} (h:l.drop j=c::r):l[j]? = some c/\l.drop (j+1)=r/\j < l.length/\l.length=j+1+r.length:=by
 refine ⟨?_,?_,?_,?_⟩
 ·have:=congrArg (·[0]?) h
  simpa using this
 ·have:=congrArg (List.drop 1) h
  simpa [Qaq] using this
 ·have:=congrArg List.length h
  simp at this
  omega
 ·have:=congrArg List.length h
  simp at this
  omega
def addI (x:Ja):Nat:=bif decide (x.kind=5) then x.number.toNat else bif decide (x.kind=6) then 2 * x.number.toNat else 0
def skp:List Ja->Nat->Option Nat
 | [],0=>some 0
 | [],_+1=>none
 | _::_,0=>some 0
 | x::r,n+1=>bif isN x.kind&&decide (512 < x.number.toNat) then none else (skp r (n+addI x)).map (·+1)
inductive PairsAt:Nat->List Ja->List Ja->List (Ja×List Ja)->Prop
 | nil (t:List Ja):PairsAt 0 t t []
 | cons {k:Nat} {x:Ja} {v r t:List Ja} {ps:List (Ja×List Ja)} (hx:isN x.kind=false) (hv:∀ m,skp (v++r) (m+1)=(skp r m).map (·+v.length)) (h0:v≠[]) (h:PairsAt k r t ps):PairsAt (k+1) (x::(v++r)) t ((x,v)::ps)
theorem PairsAt.len {k:Nat} {s t:List Ja} {ps:List (Ja×List Ja)} (h:PairsAt k s t ps):ps.length=k:=by
 induction h with
 | nil=>rfl
 | cons _ _ _ _ ih=>simp [ih]
theorem Vjo {a b:Int} (h0:0<=a) (h1:a < b):(decide ((0:Int)<=a)&&decide (a < b))=true:=by
 rw [Qx,decide_eq_true_eq,decide_eq_true_eq]; exact ⟨h0,h1⟩
def fau:List (List Ja)->Int
 | []=>0
 | l::r=>bif decide (valO l=0) then fau r else valO l
def light1 (v:List (List Ja)):Prop:=∀ l∈v,l.length<=600/\∀ x∈l,x.data.length < 100000
theorem Vmx (v:List (List Ja)) (hv:light1 v) (hl:v.length<=1000):Zif v=some ((),fau v,()):=by
 have key:∀ (r:List (List Ja)) (j f:Nat),v.drop j=r->r.length < f->iter (λ(y:((List (List Ja))×Int×Int×Unit))=>Zif_L0b y.1 y.2.1 y.2.2.1) f (v,(v.length:Int),(j:Int),())=some (bif decide (fau r=0) then .inr () else .inl (fau r,())):=by
  intro r
  induction r with
  | nil=>
   intro j f hr hf
   obtain ⟨f,rfl⟩:∃ g,f=g+1:=⟨f - 1,by omega⟩
   have hjl:v.length<=j:=by
    have:=congrArg List.length hr
    simp at this
    omega
   rw [Vad]
   dsimp only
   unfold Zif_L0b
   rw [show decide ((j:Int) < (v.length:Int))=false from decide_eq_false (by omega)]
   rfl
  | cons l r ih=>
   intro j f hr hf
   obtain ⟨f,rfl⟩:∃ g,f=g+1:=⟨f - 1,by omega⟩
   obtain ⟨d1,d2,d3,d4⟩:=Vc3 hr
   have hm:=hv l (Qg d1)
   have e1:Zif_L0b v (v.length:Int) (j:Int)=bif decide (valO l=0) then some (Q8 (v,(v.length:Int),((j+1:Nat):Int),())) else some (Qam (Q8 (valO l,()))):=by
    unfold Zif_L0b
    rw [show decide ((j:Int) < (v.length:Int))=true from decide_eq_true (by omega),Vgy d1,Vaa (n:=(j:Int)+1) (by omega) (by omega)]
    simp only [cond_true,bindS]
    rw [Ve1 l (by omega) hm.2]
    simp only [bindS]
    cases decide (valO l=0)<;>rfl
   rw [Vad]
   dsimp only
   rw [e1]
   unfold fau
   by_cases h0:valO l=0
   ·rw [show decide (valO l=0)=true from decide_eq_true h0]
    exact ih (j+1) f d2 (by simp at hf; omega)
   ·rw [show decide (valO l=0)=false from decide_eq_false h0]
    simp only [cond_false,bindS,Qad]
    rw [show decide (valO l=0)=false from decide_eq_false h0]
    rfl
 unfold Zif Zif_L0
 have e:=key v 0 rounds rfl (by rw [Vab]; omega)
 rw [show ((0:Nat):Int)=0 from rfl] at e
 rw [e]
 by_cases h0:fau v=0
 ·rw [h0]; rfl
 ·rw [show decide (fau v=0)=false from decide_eq_false h0]; rfl
theorem Vmy:∀ (f:Nat) (S:List Je) (n:Nat) (p a b:List Ja),n<=512->p.length+n=513->valE (mach getL f S n (p++a))=valE (mach getL f S n (p++b))
 | 0,S,n,p,a,b,_,_=>rfl
 | f+1,S,n,p,a,b,hn,hp=>by
  cases p with
  | nil=>simp at hp; omega
  | cons x p=>
   simp only [Qb] at hp
   cases hS:(decide (0 < n)&&S.isEmpty)
   ·by_cases hc:chk x n S.length (atK S) (lst S)=0
    ·have hn2:=(Vdj (Vdi hc).1).1
     have e:∀ q:List Ja,getL n S.length (atK S) (lst S) (x::q)=(0,x,q):=λq=>by simp [getL,hc]
     rw [Qh,Qh,Vc2 hS (e _),Vc2 hS (e _)]
     exact Vmy f (nxt x S) (n+1) p a b (by omega) (by omega)
    ·have e:∀ q:List Ja,getL n S.length (atK S) (lst S) (x::q)=(chk x n S.length (atK S) (lst S),x,q):=λq=>rfl
     rw [Qh,Qh,Vdh hS (e _) hc,Vdh hS (e _) hc]
     rfl
   ·have e:∀ q:List Ja,valE (mach getL (f+1) S n (x::q))=2:=by
     intro q
     unfold mach
     rw [hS]
     rfl
    rw [Qh,Qh,e,e]
theorem Vv6 (p a b:List Ja) (hp:p.length=513):valO (p++a)=valO (p++b):=Vmy 600 [] 0 p a b (by omega) (by omega)
def gat:List Ja->List (List Ja)->List Ja
 | o,[]=>o
 | o,l::r=>bif decide (512 < o.length) then o else gat (o++l) r
theorem Vk9:∀ (v:List (List Ja)) (o:List Ja),valO (gat o v)=valO (o++v.flatten)/\(gat o v=o++v.flatten\/512 < (gat o v).length/\512 < (o++v.flatten).length)
 | [],o=>by simp [gat]
 | l::r,o=>by
  unfold gat
  by_cases h:512 < o.length
  ·rw [show decide (512 < o.length)=true from decide_eq_true h]
   simp only [cond_true]
   refine ⟨?_,.inr ⟨h,by rw [Qa]; omega⟩⟩
   have e:=Vv6 (o.take 513) (o.drop 513) (o.drop 513++(l::r).flatten) (by rw [Q6]; omega)
   rw [<- Qe,Qax] at e
   exact e
  ·rw [show decide (512 < o.length)=false from decide_eq_false h]
   simp only [cond_false,Qm]
   have:=Vk9 r (o++l)
   rw [Qe] at this
   exact this
theorem Vyp {l:List Ja} (h:512 < l.length):valO l≠0:=by
 intro hv
 have key:∀ (f:Nat) (S:List Je) (n:Nat) (l o r:List Ja),n<=512->mach getL f S n l=(0,o,r)->n+o.length<=512:=by
  intro f
  induction f with
  | zero=>intro S n l o r hn h; simp [mach] at h
  | succ f ih=>
   intro S n l o r hn h
   rcases Vq4 getL f S n l with ⟨h1,h2⟩ | ⟨h1,h2,h3⟩ | ⟨h1,x,u,h2,h3⟩
   ·rw [h2] at h
    simp only [Qy,true_and] at h
    obtain ⟨rfl,rfl⟩:=h
    simpa using hn
   ·rw [h3] at h
    simp only [Qy] at h
    exact absurd h.1 h2
   ·rw [h3] at h
    simp only [Qy] at h
    obtain ⟨g1,g2,g3⟩:=h
    have hn2:=(Vdj (Vdi (Vv5 h2).2).1).1
    generalize hm:mach getL f (nxt x S) (n+1) u=m at g1 g2 g3
    obtain ⟨m1,m2,m3⟩:=m
    dsimp only at g1 g2 g3
    subst g1; subst g2; subst g3
    have:=ih (nxt x S) (n+1) u m2 m3 (by omega) hm
    rw [Qb]
    omega
 have:=key 600 [] 0 l l [] (by omega) (Vh6 hv).1
 omega
theorem Vjp (l:List Ja) (hl:l.length < 1000000) (hd:∀ x∈l,x.data.length < 100000):Zia l=some ((),(bif decide (valO l=0) then l else []),valO l,()):=by
 unfold Zia
 rw [Ve1 l hl hd]
 simp only [bindS]
 by_cases h:valO l=0
 ·rw [h]; rfl
 ·rw [show decide (valO l=0)=false from decide_eq_false h]; rfl
theorem Vod:∀ (v:List (List Ja)) (o:List Ja),(gat o v).length<=(o++v.flatten).length/\∀ x∈gat o v,x∈o++v.flatten
 | [],o=>by simp [gat]
 | l::r,o=>by
  unfold gat
  cases decide (512 < o.length)
  ·have:=Vod r (o++l)
   simp only [cond_false,Qm]
   rw [Qe] at this
   exact this
  ·simp only [cond_true]
   exact ⟨by rw [Qa]; omega,λx hx=>List.mem_append_left _ hx⟩
theorem Vv7 {v:List (List Ja)} (o:List Ja):(bif decide (valO (gat o v)=0) then gat o v else [])=(bif decide (valO (o++v.flatten)=0) then o++v.flatten else []):=by
 obtain ⟨h1,h2⟩:=Vk9 v o
 rw [h1]
 rcases h2 with h2 | ⟨h2,h3⟩
 ·rw [h2]
 ·rw [show decide (valO (o++v.flatten)=0)=false from decide_eq_false (Vyp h3)]
  rfl
def kk (keys:List (BitVec 64)) (i:Nat):Nat:=(keys.getD i 0#64).toNat
def cmpI (a b:Nat):Int:=bif decide (a < b) then -1 else bif decide (b < a) then 1 else 0
theorem Vmz {keys:List (BitVec 64)} {i:Nat} (h:i < keys.length):getI keys (i:Int)=some (keys.getD i 0#64):=by
 refine Vgy ?_
 rw [Ql,Qd h]
 rfl
theorem Vcpa (keys:List (BitVec 64)) (i j:Nat) (hi:i < keys.length) (hj:j < keys.length):Zik (i:Int) (j:Int) keys=some ((),cmpI (kk keys i) (kk keys j),()):=by
 unfold Zik
 rw [Vmz hi,Vmz hj]
 simp only [bindS]
 unfold Zdj Zfp cmpI kk
 simp only [bindS,decide_true,Qj,cond_false]
 cases decide ((keys.getD i 0#64).toNat < (keys.getD j 0#64).toNat)
 ·cases decide ((keys.getD j 0#64).toNat < (keys.getD i 0#64).toNat)<;>rfl
 ·rfl
abbrev ci (l:List Nat):List Int:=l.map λn:Nat=>(n:Int)
theorem Vpv (l:List Nat):(ci l).length=l.length:=List.length_map _
theorem Vpw {l:List Nat} {i n:Nat} (h:l[i]? = some n):(ci l)[i]? = some (n:Int):=by
 rw [Qa3,h]; rfl
theorem Vcqa (n:Nat) (h:n<=12):∃ k,Zhx (Qc 64 (n:Int))=some ((),k,()):=by
 have:n=0\/n=1\/n=2\/n=3\/n=4\/n=5\/n=6\/n=7\/n=8\/n=9\/n=10\/n=11\/n=12:=by omega
 rcases this with rfl | rfl | rfl | rfl | rfl | rfl | rfl | rfl | rfl | rfl | rfl | rfl | rfl
 ·exact ⟨0,by kernel_rfl⟩
 ·exact ⟨1,by kernel_rfl⟩
 ·exact ⟨2,by kernel_rfl⟩
 ·exact ⟨2,by kernel_rfl⟩
 ·exact ⟨3,by kernel_rfl⟩
 ·exact ⟨3,by kernel_rfl⟩
 ·exact ⟨3,by kernel_rfl⟩
 ·exact ⟨3,by kernel_rfl⟩
 ·exact ⟨4,by kernel_rfl⟩
 ·exact ⟨4,by kernel_rfl⟩
 ·exact ⟨4,by kernel_rfl⟩
 ·exact ⟨4,by kernel_rfl⟩
 ·exact ⟨4,by kernel_rfl⟩
def prO (keys:List (BitVec 64)) (v:List (List Ja)) (o:List Nat):List (List Ja):=o.map λi=>⟨1,keys.getD i 0#64,[]⟩::v.getD i []
def adj (keys:List (BitVec 64)):List Nat->Bool
 | a::b::r=>decide (kk keys a=kk keys b)||adj keys (b::r)
 | _=>false
theorem Vexa (keys:List (BitVec 64)) (i j:Nat):decide (keys.getD i 0#64=keys.getD j 0#64)=decide (kk keys i=kk keys j):=by
 rw [decide_eq_decide]
 exact ⟨λh=>by unfold kk; rw [h],λh=>Qat h⟩
def mapO (keys:List (BitVec 64)) (v:List (List Ja)) (o:List Nat):List Ja×Int:=
 bif adj keys o then ([],10) else bif !decide (fau v=0) then ([],fau v) else
 bif decide (valO (⟨6,Qc 64 (keys.length:Int),[]⟩::(prO keys v o).flatten)=0) then (⟨6,Qc 64 (keys.length:Int),[]⟩::(prO keys v o).flatten,0) else ([],valO (⟨6,Qc 64 (keys.length:Int),[]⟩::(prO keys v o).flatten))
theorem Vjq {v:List (List Ja)} (h:light1 v) (i:Nat):(v.getD i []).length<=600/\∀ x∈v.getD i [],x.data.length < 100000:=by
 rw [Ql]
 cases hi:v[i]? with
 | none=>simp
 | some l=>exact h l (Qg hi)
theorem Vm0 {keys:List (BitVec 64)} {v:List (List Ja)} (h:light1 v):∀ o:List Nat,(prO keys v o).flatten.length<=o.length * 601/\∀ x∈(prO keys v o).flatten,x.data.length < 100000
 | []=>by simp [prO]
 | i::r=>by
  obtain ⟨i1,i2⟩:=Vm0 (keys:=keys) h r
  obtain ⟨l1,l2⟩:=Vjq h i
  unfold prO at *
  refine ⟨?_,?_⟩
  ·simp only [Qah,Qm,Qa,Qb,Qap]
   omega
  ·intro x hx
   simp only [Qah,Qm,Qh,Qas,Qa7] at hx
   rcases hx with rfl | hx | hx
   ·simp
   ·exact l2 x hx
   ·exact i2 x hx
theorem Vyq {v:List (List Ja)} {i:Nat} (h:i < v.length):getI v (i:Int)=some (v.getD i []):=by
 refine Vgy ?_
 rw [Ql,Qd h]
 rfl
theorem gIn {α:Type} {l:List α} {i:Nat} {x:α} (h:l[i]? = some x):getI l (i:Int)=some x:=by
 unfold getI
 rw [show decide ((0:Int)<=(i:Int))=true by simp]
 exact h
theorem Vbi {α:Type} {l:List α} {i:Nat} {x:α} (h:l[i]? = some x):i < l.length:=(List.getElem?_eq_some_iff.mp h).1
theorem Vck {i:Nat} (h:i < 9000000000000000000):Qk .i64 ((i:Int)+1)=((i+1:Nat):Int):=by
 rw [Vaa (by omega) (by omega)]; rfl
theorem Vjr {α:Type} {l:List α} {i:Nat} {x:α} (h:l[i]? = some x):decide ((i:Int) < (l.length:Int))=true:=by
 have:=Vbi h; simp; omega
theorem Vh8 {σ β α:Type} {f:σ->Option (σ⊕β)} {l:List α} {p:α->Bool} {mk:Nat->σ} {bad good:β}
  (h:∀ (i:Nat) (x:α),l[i]? = some x->f (mk i)=some (bif p x then .inl (mk (i+1)) else .inr bad))
  (he:f (mk l.length)=some (.inr good)):∀ (k n j:Nat),j+k=l.length->k < n->iter f n (mk j)=some (bif (l.drop j).all p then good else bad)
 | 0,n+1,j,hj,hn=>by
  have:j=l.length:=by omega
  subst this
  rw [Vad,he]; simp
 | k+1,n+1,j,hj,hn=>by
  have hlt:j < l.length:=by omega
  have hx:l[j]? = some l[j]:=Qd hlt
  rw [Vad,h j _ hx,Q9 hlt,List.all_cons]
  cases hp:p l[j]
  ·rfl
  ·show iter f n (mk (j+1))=_
   rw [Vh8 h he k n (j+1) (by omega) (by omega)]
   rfl
theorem Vla {σ β α:Type} {f:σ->Option (σ⊕β)} (l:List α) (p:α->Bool) (mk:Nat->σ) (bad good:β) (hl:l.length < 9000000000000000000)
  (h:∀ (i:Nat) (x:α),l[i]? = some x->f (mk i)=some (bif p x then .inl (mk (i+1)) else .inr bad))
  (he:f (mk l.length)=some (.inr good)):iter f rounds (mk 0)=some (bif l.all p then good else bad):=by
 rw [Vh8 h he l.length rounds 0 (by omega) (by rw [Vab]; omega)]; rfl
theorem Vjs {σ β α τ:Type} {f:σ->Option (σ⊕β)} {l:List α} {g:Nat->τ->α->τ} {mk:Nat->τ->σ} {out:τ->β} {P:Nat->τ->Prop}
  (h:∀ (i:Nat) (t:τ) (x:α),P i t->l[i]? = some x->f (mk i t)=some (.inl (mk (i+1) (g i t x)))/\P (i+1) (g i t x))
  (he:∀ t,P l.length t->f (mk l.length t)=some (.inr (out t))):∀ (k n j:Nat) (t:τ),P j t->j+k=l.length->k < n->∃ t',P l.length t'/\iter f n (mk j t)=some (out t')
 | 0,n+1,j,t,hp,hj,hn=>by
  have:j=l.length:=by omega
  subst this
  exact ⟨t,hp,by rw [Vad,he t hp]; rfl⟩
 | k+1,n+1,j,t,hp,hj,hn=>by
  have hlt:j < l.length:=by omega
  obtain ⟨e,hp2⟩:=h j t _ hp (Qd hlt)
  obtain ⟨t',h1,h2⟩:=Vjs h he k n (j+1) _ hp2 (by omega) (by omega)
  exact ⟨t',h1,by rw [Vad,e]; exact h2⟩
theorem Vfo {σ β α τ:Type} {f:σ->Option (σ⊕β)} (l:List α) (g:Nat->τ->α->τ) (mk:Nat->τ->σ) (out:τ->β) (P:Nat->τ->Prop) (hl:l.length < 9000000000000000000) (t0:τ) (h0:P 0 t0)
  (h:∀ (i:Nat) (t:τ) (x:α),P i t->l[i]? = some x->f (mk i t)=some (.inl (mk (i+1) (g i t x)))/\P (i+1) (g i t x))
  (he:∀ t,P l.length t->f (mk l.length t)=some (.inr (out t))):∃ t',P l.length t'/\iter f rounds (mk 0 t0)=some (out t'):=
 Vjs h he l.length rounds 0 t0 h0 (by omega) (by rw [Vab]; omega)
def smallI (n:Int):Bool:=decide (0<=n)&&decide (n<=255)
theorem Voe (l:List Int) (hl:l.length < 9000000000000000000):Zfr l=some ((),(l.all smallI,())):=by
 unfold Zfr Zfr_L0
 rw [show ((0:Int))=((0:Nat):Int) from rfl,Vla l smallI (λi=>(l,(l.length:Int),(i:Int),())) (Q8 (false,())) (Qam ()) hl]
 ·cases l.all smallI<;>rfl
 ·intro i x hx
  have h1:=Vbi hx
  simp only [Zfr_L0b,Vjr hx,gIn hx,Qa2,cond_true,Vck (i:=i) (by omega),smallI]
  by_cases a:x < 0
  ·simp [a,show ¬ (0:Int)<=x by omega]
  ·by_cases b:255 < x
   ·simp [a,b,show ¬ x<=255 by omega]
   ·simp [a,b,show (0:Int)<=x by omega,show x<=255 by omega]
 ·simp [Zfr_L0b]
theorem Vh9 {σ β α τ:Type} {f:σ->Option (σ⊕β)} {l:List α} {g:τ->α->τ} {mk:Nat->τ->σ} {out:τ->β}
  (h:∀ (i:Nat) (t:τ) (x:α),l[i]? = some x->f (mk i t)=some (.inl (mk (i+1) (g t x))))
  (he:∀ t,f (mk l.length t)=some (.inr (out t))):∀ (k n j:Nat) (t:τ),j+k=l.length->k < n->iter f n (mk j t)=some (out ((l.drop j).foldl g t))
 | 0,n+1,j,t,hj,hn=>by
  have:j=l.length:=by omega
  subst this
  rw [Vad,he t]; simp
 | k+1,n+1,j,t,hj,hn=>by
  have hlt:j < l.length:=by omega
  rw [Vad,h j t _ (Qd hlt),Q9 hlt]
  exact Vh9 h he k n (j+1) _ (by omega) (by omega)
theorem Vq5 {σ β α τ:Type} {f:σ->Option (σ⊕β)} (l:List α) (g:τ->α->τ) (mk:Nat->τ->σ) (out:τ->β) (hl:l.length < 9000000000000000000) (t0:τ)
  (h:∀ (i:Nat) (t:τ) (x:α),l[i]? = some x->f (mk i t)=some (.inl (mk (i+1) (g t x))))
  (he:∀ t,f (mk l.length t)=some (.inr (out t))):iter f rounds (mk 0 t0)=some (out (l.foldl g t0)):=
 Vh9 h he l.length rounds 0 t0 (by omega) (by rw [Vab]; omega)
theorem Vcra (l:List Bool) (hl:l.length<=31):∃ t:BitVec 32,Zic l=some ((),t,())/\∀ k,t.getLsbD k=(decide (1<=k)&&l.getD (k - 1) false):=by
 unfold Zic Zic_L0
 obtain ⟨t,h1,h2⟩:=Vfo (f:=λ(y:((BitVec 32)×(List (Bool))×Int×Int×Unit))=>Zic_L0b y.1 y.2.1 y.2.2.1 y.2.2.2.1) l (λi (t:BitVec 32) x=>bif x then t ||| (1#32 <<< (i+1)) else t)
  (λi t=>(t,l,(l.length:Int),(i:Int),())) (λt=>(t,()))
  (λi t=>∀ k,t.getLsbD k=(decide (1<=k)&&decide (k<=i)&&l.getD (k - 1) false)) (by omega) 0#32
  (by intro k; by_cases h:1<=k<;>simp [h]; omega)
  (by
   intro i t x hp hx
   have h1:=Vbi hx
   refine ⟨?_,?_⟩
   ·simp only [Zic_L0b,Vjr hx,gIn hx,Qa2,cond_true,Vck (i:=i) (by omega)]
    cases x
    ·rfl
    ·rw [show decide ((0:Int)<=((i+1:Nat):Int))=true from decide_eq_true (Qa4 _)]; rfl
   ·intro k
    have hget:l.getD i false=x:=by simp [hx]
    cases x
    ·simp only [cond_false,hp k]
     by_cases hk:k=i+1
     ·subst hk; simp [hx]
     ·by_cases h:k<=i
      ·simp [h,show k<=i+1 by omega]
      ·simp [h,show ¬ k<=i+1 by omega]
    ·simp only [cond_true,BitVec.getLsbD_or,hp k]
     by_cases hk:k=i+1
     ·subst hk; simp [hx,Qar]; omega
     ·have:(1#32 <<< (i+1)).getLsbD k=false:=by
       rw [Qar,BitVec.getLsbD_one]
       by_cases h:k < i+1
       ·simp [h]
       ·simp; omega
      rw [this,Qai]
      by_cases h:k<=i
      ·simp [h,show k<=i+1 by omega]
      ·simp [h,show ¬ k<=i+1 by omega])
  (by intro t _; simp [Zic_L0b])
 refine ⟨t,?_,?_⟩
 ·have e:=congrArg (λo=>o.bind (λ(z3:((BitVec 32)×Unit))=>some ((),(z3.1,())))) h2
  exact e
 ·intro k
  rw [h1 k]
  by_cases h:k<=l.length
  ·simp [h]
  ·have:l.getD (k - 1) false=false:=by
    rw [Ql,List.getElem?_eq_none (by omega)]; rfl
   rw [this]; simp
structure Sane (r:Jj):Prop where
 c:r.jp.length < 1000000
 e:r.jx.length < 1000000
 n:r.name.length < 1000000
 x:∀ x∈r.jx,x.rP.length < 1000000/\x.name.length < 1000000
theorem Sane.at {r:Jj} (h:Sane r) {i:Nat} {x:Ju} (hx:r.jx[i]? = some x):x.rP.length < 1000000/\x.name.length < 1000000:=
 h.x x (Qg hx)
theorem Vgz {l:List UInt8} (h:l.length < 1000000):Zgv l=some ((),Lib.validD l,()):=by
 unfold Zgv
 rw [decide_eq_true (show l.length<=9223372036854775807 by omega)]; rfl
theorem Vof (a b c:Int):Zcz a b c=some ((),decide (b<=a)&&decide (a<=c),()):=by
 unfold Zcz
 cases decide (b<=a)<;>rfl
theorem Vcsa {α:Type} [DecidableEq α] (l:List α):(!decide ((0:Int) < (l.length:Int)))=decide (l=[]):=by
 cases l with
 | nil=>rfl
 | cons a l=>rw [decide_eq_true (show (0:Int) < (((a::l).length:Nat):Int) by rw [Qb]; omega)]; rfl
def asc (keys:List (BitVec 64)):Prop:=∀ i j,i < j->j < keys.length->kk keys i < kk keys j
abbrev rg (n:Nat):List Int:=ci (Qu n)
theorem Va0a (n:Nat):(rg n).length=n:=by simp
theorem rg_at {n i:Nat} (h:i < n):(rg n)[i]? = some (i:Int):=by
 refine Vpw ?_
 rw [List.getElem?_range h]
theorem up_ok {keys:List (BitVec 64)} (h:asc keys) {i j:Nat} (hij:i < j) (hj:j < keys.length):Zik (j:Int) (i:Int) keys=some ((),1,()):=by
 rw [Vcpa keys j i hj (by omega)]
 unfold cmpI
 have:=h i j hij hj
 rw [decide_eq_false (show ¬ kk keys j < kk keys i by omega),decide_eq_true this]; rfl
theorem Veya {keys:List (BitVec 64)} (h:asc keys) {n:Nat} (hn:keys.length=n) (h31:n<=31) {i:Nat} (h0:1<=i) (hi:i < n):Zab_L2 (rg n,0,(n:Int),(keys,()),(i:Int),(i:Int),())=some (rg n,0,(n:Int),(keys,()),(i:Int),()):=by
 unfold Zab_L2
 rw [Vab,show (1180591620717411303424:Nat)=1180591620717411303423+1 from rfl,Vad]
 dsimp only
 unfold Zab_L2b
 rw [Va0a,decide_eq_true (show (0:Int) < (i:Int) by omega),Vjo (show (0:Int)<=(i:Int) by omega) (show (i:Int) < (n:Int) by omega),Vaa (n:=(i:Int) - 1) (by omega) (by omega),show (i:Int) - 1=((i - 1:Nat):Int) by omega,Vjo (show (0:Int)<=((i - 1:Nat):Int) by omega) (show ((i - 1:Nat):Int) < (n:Int) by omega),Qn,Qn,rg_at hi,rg_at (show i - 1 < n by omega)]
 simp only [cond_true,bindS]
 rw [up_ok h (show i - 1 < i by omega) (by omega)]
 rfl
theorem insA {keys:List (BitVec 64)} (h:asc keys) {n:Nat} (hn:keys.length=n) (h31:n<=31):Zab (rg n) 0 (n:Int) (keys,())=some ((rg n,()),()):=by
 unfold Zab Zab_L0
 rw [show Qk .i64 ((0:Int)+1)=((0+1:Nat):Int) from rfl,Vq5 (Q3 (n - 1) ()) (λ(t:Unit) _=>t) (λi t=>(rg n,0,(n:Int),(keys,()),((i+1:Nat):Int),())) (λ_=>(rg n,())) (by simp; omega) ()]
 ·rfl
 ·intro i t x hx
  have h1:=Vbi hx
  rw [Qa0] at h1
  simp only [Zab_L0b]
  rw [decide_eq_true (show ((i+1:Nat):Int) < (n:Int) by omega),Veya h hn h31 (by omega) (by omega)]
  simp only [cond_true,bindS,Vck (i:=i+1) (by omega)]
 ·intro t
  simp only [Zab_L0b,Qa0]
  rw [decide_eq_false (show ¬ ((n - 1+1:Nat):Int) < (n:Int) by omega)]; rfl
theorem sortA {keys:List (BitVec 64)} (h:asc keys) {n:Nat} (hn:keys.length=n) (h12:n<=12):Zbb (rg n) (keys,())=some ((rg n,()),()):=by
 unfold Zbb
 obtain ⟨k,hk⟩:=Vcqa n h12
 rw [Va0a,hk]
 simp only [bindS]
 unfold Zak Zak_L0
 rw [Vab,show (1180591620717411303424:Nat)=1180591620717411303423+1 from rfl,Vad]
 dsimp only
 unfold Zak_L0b
 rw [Vaa (n:=(n:Int) - 0) (by omega) (by omega)]
 rw [decide_eq_true (show (n:Int) - 0<=12 by omega),insA h hn (by omega)]
 rfl
theorem MapA {keys:List (BitVec 64)} (h:asc keys) (v:List (List Ja)) (hk:keys.length<=12) (hl:keys.length=v.length) (hv:light1 v):cbor_Map keys v=some ((),(mapO keys v (Qu keys.length)).1,(mapO keys v (Qu keys.length)).2,()):=by
 unfold cbor_Map
 rw [show decide ((keys.length:Int)=(v.length:Int))=true from decide_eq_true (by omega),show (decide ((0:Int)<=(keys.length:Int))&&(decide ((keys.length:Int)<=(keys.length:Int))&&decide ((8:Int) * (keys.length:Int)<=281474976710656/\(keys.length:Int)<=9223372036854775807)))=true by simp; omega]
 simp only [Qj,cond_false,cond_true,Qn]
 -- the indices
 have e0:cbor_Map_L0 (v,keys,Q3 keys.length (0:Int),(keys.length:Int),0,())=some (v,keys,ci (Qu keys.length),()):=by
  obtain ⟨z,h1,h2⟩:Ok (cbor_Map_L0 (v,keys,Q3 keys.length (0:Int),(keys.length:Int),0,())) λz=>z=(v,keys,ci (Qu keys.length),()):=by
   unfold cbor_Map_L0
   refine Ok.iter (λq=>q.1=v/\q.2.1=keys/\q.2.2.2.1=(keys.length:Int)/\∃ i:Nat,i<=keys.length/\q.2.2.2.2.1=(i:Int)/\q.2.2.1=ci (Qu i)++Q3 (keys.length - i) 0) (λq=>(keys.length - q.2.2.2.2.1).toNat) ⟨rfl,rfl,rfl,0,by omega,rfl,by simp⟩ (by rw [Vab]; dsimp only; omega) ?_
   rintro ⟨q0,q1,q2,q3,q4,u⟩ ⟨e1,e2,e3,i,hi,e4,e5⟩
   dsimp only at *
   subst e1; subst e2; subst e3; subst e4; subst e5
   simp only [cbor_Map_L0b]
   by_cases h:i < q1.length
   ·have hlen:(ci (Qu i)++Q3 (q1.length - i) (0:Int)).length=q1.length:=by simp; omega
    rw [hlen,Vjo (by omega) (show (i:Int) < (q1.length:Int) by omega),show decide ((i:Int) < (q1.length:Int))=true from decide_eq_true (by omega),Qn,Qd (show i < (ci (Qu i)++Q3 (q1.length - i) (0:Int)).length by omega),Vaa (n:=(i:Int)+1) (by omega) (by omega)]
    simp only [cond_true,bindS]
    refine Ok.some ?_
    dsimp only
    refine ⟨⟨rfl,rfl,rfl,i+1,by omega,rfl,?_⟩,by omega⟩
    rw [Qaz _ _ (by simp),show q1.length - i=(q1.length - (i+1))+1 by omega,List.replicate_succ,List.range_succ]
    simp [ci]
   ·rw [show decide ((i:Int) < (q1.length:Int))=false from decide_eq_false (by omega)]
    have:i=q1.length:=by omega
    subst this
    refine Ok.some ?_
    simp
  rw [h1,h2]
 rw [e0]
 simp only [bindS]
 have hs1:=sortA h rfl hk
 rw [hs1]
 simp only [bindS]
 unfold rg
 generalize hgo:Qu keys.length=o
 have hol:o.length=keys.length:=by rw [<- hgo,List.length_range]
 have hor:∀ i∈o,i < keys.length:=λi hi=>by rw [<- hgo] at hi; exact List.mem_range.1 hi
 -- duplicates
 have e2:∀ (r:List Nat) (a:Nat) (j f:Nat),o.drop j=a::r->r.length < f->iter (λ(y:((List (List Ja))×(List (BitVec 64))×(List (Int))×Int×Unit))=>cbor_Map_L2b y.1 y.2.1 y.2.2.1 y.2.2.2.1) f (v,keys,ci o,((j+1:Nat):Int),())=some (bif adj keys (a::r) then .inl ([],10,()) else .inr (v,keys,ci o,())):=by
  intro r
  induction r with
  | nil=>
   intro a j f hr hf
   obtain ⟨f,rfl⟩:∃ g,f=g+1:=⟨f - 1,by omega⟩
   obtain ⟨d1,d2,d3,d4⟩:=Vc3 hr
   rw [Vad]
   dsimp only
   unfold cbor_Map_L2b
   rw [Vpv,show decide (((j+1:Nat):Int) < (o.length:Int))=false from decide_eq_false (by simp at d4; omega)]
   rfl
  | cons b r ih=>
   intro a j f hr hf
   obtain ⟨f,rfl⟩:∃ g,f=g+1:=⟨f - 1,by omega⟩
   obtain ⟨d1,d2,d3,d4⟩:=Vc3 hr
   obtain ⟨b1,b2,b3,b4⟩:=Vc3 d2
   have ha:=hor a (Qg d1)
   have hb:=hor b (Qg b1)
   have e1:cbor_Map_L2b v keys (ci o) ((j+1:Nat):Int)=bif decide (kk keys a=kk keys b) then some (Qam (Q8 ([],10,()))) else some (Q8 (v,keys,ci o,((j+1+1:Nat):Int),())):=by
    unfold cbor_Map_L2b
    rw [Vpv,Vaa (n:=((j+1:Nat):Int) - 1) (by omega) (by omega),show ((j+1:Nat):Int) - 1=(j:Int) by omega,Vjo (by omega) (show (j:Int) < (o.length:Int) by omega),Vjo (by omega) (show ((j+1:Nat):Int) < (o.length:Int) by omega),show decide (((j+1:Nat):Int) < (o.length:Int))=true from decide_eq_true (by omega),Qn,Qn,Vpw d1,Vpw b1,Vaa (n:=((j+1:Nat):Int)+1) (by omega) (by omega)]
    simp only [cond_true,bindS]
    rw [Vmz ha,Vmz hb]
    simp only [bindS]
    rw [Vexa]
    rfl
   rw [Vad]
   dsimp only
   rw [e1]
   unfold adj
   cases hq:decide (kk keys a=kk keys b)
   ·simp only [cond_false,bindS,Qq,Qab]
    exact ih b (j+1) f d2 (by simp at hf; omega)
   ·rfl
 have e3:cbor_Map_L2 (v,keys,ci o,1,())=some (bif adj keys o then .inl ([],10,()) else .inr (v,keys,ci o,())):=by
  unfold cbor_Map_L2
  cases ho:o with
  | nil=>
   rw [Vab,show (1180591620717411303424:Nat)=1180591620717411303423+1 from rfl,Vad]
   rfl
  | cons a r=>
   have:=e2 r a 0 rounds (by rw [ho]; rfl) (by rw [Vab]; rw [ho] at hol; simp at hol; omega)
   rw [ho] at this
   exact this
 rw [e3]
 unfold mapO
 cases hadj:adj keys o
 ·simp only [cond_false,bindS,Qad]
  rw [Vmx v hv (by omega)]
  simp only [bindS]
  by_cases h0:fau v=0
  ·rw [show decide (fau v=0)=true from decide_eq_true h0]
   simp only [Qj,cond_false]
   -- the collecting
   have e4 : ∀ (r : List Nat) (j f : Nat) (out : List Ja), o.drop j = r->r.length < f->out.length<=j * 601+1->iter (λ(y : ((List (List Ja))×(List (BitVec 64))×(List (Ja))×(List (Int))×Int×Int×Unit)) => cbor_Map_L4b y.1 y.2.1 y.2.2.1 y.2.2.2.1 y.2.2.2.2.1 y.2.2.2.2.2.1) f (v, keys, out, ci o, (o.length : Int), (j : Int), ()) = some (gat out (prO keys v r), ()) := by
    intro r
    induction r with
    | nil=>
     intro j f out hr hf ho
     obtain ⟨f,rfl⟩:∃ g,f=g+1:=⟨f - 1,by omega⟩
     have hjl:o.length<=j:=by
      have:=congrArg List.length hr
      simp at this
      omega
     rw [Vad]
     dsimp only
     unfold cbor_Map_L4b
     rw [show decide ((j:Int) < (o.length:Int))=false from decide_eq_false (by omega)]
     rfl
    | cons b r ih=>
     intro j f out hr hf ho
     obtain ⟨f,rfl⟩:∃ g,f=g+1:=⟨f - 1,by omega⟩
     obtain ⟨d1,d2,d3,d4⟩:=Vc3 hr
     have hb:=hor b (Qg d1)
     obtain ⟨l1,_⟩:=Vjq hv b
     have e1:cbor_Map_L4b v keys out (ci o) (o.length:Int) (j:Int)=bif decide (512 < out.length) then some (Qam (out,())) else some (Q8 (v,keys,out++(⟨1,keys.getD b 0#64,[]⟩::v.getD b []),ci o,(o.length:Int),((j+1:Nat):Int),())):=by
      unfold cbor_Map_L4b
      rw [Vpv,Vjo (by omega) (show (j:Int) < (o.length:Int) by omega),show decide ((j:Int) < (o.length:Int))=true from decide_eq_true (by omega),Qn,Vpw d1,Vaa (n:=(j:Int)+1) (by omega) (by omega)]
      simp only [cond_true,bindS]
      rw [show decide ((512:Int) < (out.length:Int))=decide (512 < out.length) by rw [decide_eq_decide]; omega]
      cases decide (512 < out.length)
      ·simp only [cond_false]
       rw [Vmz hb]
       simp only [bindS,Zio]
       rw [Vh3 (by simp only [Qb,Qv]; omega),Vyq (show b < v.length by omega)]
       simp only [cond_true,bindS]
       rw [Vh3 (by simp only [Qa,Qb,Qv]; omega)]
       simp
      ·rfl
     rw [Vad]
     dsimp only
     rw [e1]
     have hpr:prO keys v (b::r)=(⟨1,keys.getD b 0#64,[]⟩::v.getD b [])::prO keys v r:=rfl
     rw [hpr]
     unfold gat
     cases decide (512 < out.length)
     ·exact ih (j+1) f (out++(⟨1,keys.getD b 0#64,[]⟩::v.getD b [])) d2 (by simp at hf; omega) (by rw [Qa,Qb,Qap]; omega)
     ·rfl
   have e5:=e4 o 0 rounds [⟨6,Qc 64 (keys.length:Int),[]⟩] rfl (by rw [Vab]; omega) (by simp)
   have e6:cbor_Map_L4 (v,keys,[⟨6,Qc 64 (keys.length:Int),[]⟩],ci o,((ci o).length:Int),0,())=some (gat [⟨6,Qc 64 (keys.length:Int),[]⟩] (prO keys v o),()):=by
    rw [Vpv]
    exact e5
   rw [e6]
   simp only [bindS]
   obtain ⟨l1,l2⟩:=Vm0 (keys:=keys) hv o
   obtain ⟨s1,s2⟩:=Vod (prO keys v o) [⟨6,Qc 64 (keys.length:Int),[]⟩]
   rw [Vjp _ (by rw [Qa,Qae] at s1; omega) (λx hx=>by
    rcases List.mem_append.1 (s2 x hx) with hx | hx
    ·simp at hx; subst hx; simp
    ·exact l2 x hx)]
   simp only [bindS]
   rw [Vv7,(Vk9 (prO keys v o) _).1,Qay]
   by_cases h1:valO (⟨6,Qc 64 (keys.length:Int),[]⟩::(prO keys v o).flatten)=0
   ·rw [h1]; rfl
   ·rw [show decide (valO (⟨6,Qc 64 (keys.length:Int),[]⟩::(prO keys v o).flatten)=0)=false from decide_eq_false h1]; rfl
  ·rw [show decide (fau v=0)=false from decide_eq_false h0]
   rfl
 ·rfl
theorem LA_ok {h g dd:Nat} (hg:h<=g) (hd:dd+1+h<=9):∀ (os:List (List Ja)) (r:List Ja) (n:Nat),(∀ o∈os,VT h o)->n+os.flatten.length<=512->LA (λs n=>W getL g s n (dd+1) false []) os.length (os.flatten++r) n=(0,os.flatten,r)
 | [],r,n,_,_=>rfl
 | o::os,r,n,H,hn=>by
  simp only [Qm,Qa] at hn
  have h1:=H o (by simp) g n (dd+1) (os.flatten++r) [] hg (by omega) (by omega)
  have h2:=LA_ok hg hd os r (n+o.length) (λp hp=>H p (by simp [hp])) (by omega)
  simp only [Qb,LA,Qm,Qe]
  rw [h1]
  simp only [decide_true,cond_true]
  rw [h2]
theorem Vyr {h k:Nat} {os:List (List Ja)} (hk:os.length=k) (hk3:k<=512) (H:∀ o∈os,VT h o):VT (h+1) (⟨5,Qf 64 k,[]⟩::os.flatten):=by
 intro g n dd r b hg hn hd
 obtain ⟨g,rfl⟩:∃ q,g=q+1:=⟨g - 1,by omega⟩
 simp only [Qb] at hn
 have hkn:(Qf 64 k).toNat=k:=by rw [Qt,Qz (by omega)]
 have hc:chk ⟨5,Qf 64 k,[]⟩ n dd false b=0:=by
  unfold chk adm bad big acc
  dsimp only
  rw [hkn,show decide (512<=n)=false by simp; omega,show decide (8 < dd)=false by simp; omega,show decide (512 < k)=false by simp; omega]
  rfl
 have:=LA_ok (g:=g) (dd:=dd) (by omega) (by omega) os r (n+1) H (by omega)
 rw [hk] at this
 unfold W
 simp only [Qh,getL,hc,decide_true,cond_true,hkn,this]
theorem Vv8 {n:Nat} (h:n < 1000000):small n 24=true:=by
 unfold small; simp; omega
theorem Vog {l:List Ja} {r:List (List Ja)} (h:light1 (l::r)):(l.length<=600/\∀ x∈l,x.data.length < 100000)/\light1 r:=⟨h l (by simp),λq hq=>h q (by simp [hq])⟩
theorem Via:∀ {v:List (List Ja)},light1 v->v.flatten.length<=v.length * 600/\∀ x∈v.flatten,x.data.length < 100000
 | [],_=>by simp
 | l::r,h=>by
  obtain ⟨h1,h2⟩:=Vog h
  obtain ⟨i1,i2⟩:=Via h2
  refine ⟨?_,?_⟩
  ·simp only [Qm,Qa,Qb,Qap]
   omega
  ·intro x hx
   simp only [Qm,Qa7] at hx
   rcases hx with hx | hx
   ·exact h1.2 x hx
   ·exact i2 x hx
def arrO (v:List (List Ja)):List Ja×Int:=
 bif !decide (fau v=0) then ([],fau v) else
 bif decide (valO (⟨5,Qc 64 (v.length:Int),[]⟩::v.flatten)=0) then (⟨5,Qc 64 (v.length:Int),[]⟩::v.flatten,0) else ([],valO (⟨5,Qc 64 (v.length:Int),[]⟩::v.flatten))
theorem Vys (v:List (List Ja)) (hv:light1 v) (hl:v.length<=1000):Zii v=some ((),(arrO v).1,(arrO v).2,()):=by
 unfold Zii arrO
 rw [Vmx v hv hl]
 simp only [bindS]
 by_cases h0:fau v=0
 ·rw [show decide (fau v=0)=true from decide_eq_true h0]
  simp only [Qj,cond_false]
  have key:∀ (r:List (List Ja)) (j f:Nat) (o:List Ja),v.drop j=r->r.length < f->o.length<=j * 600+1->iter (λ(y:((List (Ja))×(List (List Ja))×Int×Int×Unit))=>Zii_L0b y.1 y.2.1 y.2.2.1 y.2.2.2.1) f (o,v,(v.length:Int),(j:Int),())=some (gat o r,()):=by
   intro r
   induction r with
   | nil=>
    intro j f o hr hf ho
    obtain ⟨f,rfl⟩:∃ g,f=g+1:=⟨f - 1,by omega⟩
    have hjl:v.length<=j:=by
     have:=congrArg List.length hr
     simp at this
     omega
    rw [Vad]
    dsimp only
    unfold Zii_L0b
    rw [show decide ((j:Int) < (v.length:Int))=false from decide_eq_false (by omega)]
    rfl
   | cons l r ih=>
    intro j f o hr hf ho
    obtain ⟨f,rfl⟩:∃ g,f=g+1:=⟨f - 1,by omega⟩
    obtain ⟨d1,d2,d3,d4⟩:=Vc3 hr
    have hm:=hv l (Qg d1)
    have e1:Zii_L0b o v (v.length:Int) (j:Int)=bif decide (512 < o.length) then some (Qam (o,())) else some (Q8 (o++l,v,(v.length:Int),((j+1:Nat):Int),())):=by
     unfold Zii_L0b
     rw [show decide ((j:Int) < (v.length:Int))=true from decide_eq_true (by omega),Vgy d1,Vaa (n:=(j:Int)+1) (by omega) (by omega),show decide ((512:Int) < (o.length:Int))=decide (512 < o.length) by rw [decide_eq_decide]; omega]
     simp only [cond_true,bindS]
     rw [Vh3 (by omega)]
     rfl
    rw [Vad]
    dsimp only
    rw [e1]
    unfold gat
    cases decide (512 < o.length)
    ·exact ih (j+1) f (o++l) d2 (by simp at hf; omega) (by rw [Qa,Qap]; omega)
    ·rfl
  unfold Zii_L0
  have e:=key v 0 rounds [⟨5,Qc 64 (v.length:Int),[]⟩] rfl (by rw [Vab]; omega) (by simp)
  rw [show ((0:Nat):Int)=0 from rfl] at e
  rw [e]
  simp only [bindS]
  obtain ⟨l1,l2⟩:=Via hv
  obtain ⟨s1,s2⟩:=Vod v [⟨5,Qc 64 (v.length:Int),[]⟩]
  have l3:v.length * 600<=1000 * 600:=Nat.mul_le_mul_right _ hl
  rw [Vjp _ (by rw [Qa,Qae] at s1; omega) (λx hx=>by
   rcases List.mem_append.1 (s2 x hx) with hx | hx
   ·simp at hx; subst hx; simp
   ·exact l2 x hx)]
  simp only [bindS]
  rw [Vv7,(Vk9 v _).1,Qay]
  by_cases h1:valO (⟨5,Qc 64 (v.length:Int),[]⟩::v.flatten)=0
  ·rw [h1]; rfl
  ·rw [show decide (valO (⟨5,Qc 64 (v.length:Int),[]⟩::v.flatten)=0)=false from decide_eq_false h1]; rfl
 ·rw [show decide (fau v=0)=false from decide_eq_false h0]
  rfl
theorem Vm1 {h:Nat} {o:List Ja} (H:VT h o) (hh:h<=9) (hl:o.length<=512):valO o=0:=by
 have hv:=H 12 0 0 [] [] (by omega) (by omega) (by omega)
 rw [Qp] at hv
 unfold valO
 rw [(Vvz Vob 12 (by omega) o).2 (by rw [hv]),hv]
 rfl
def keyI (n:Nat):Ja:=⟨1,Qf 64 n,[]⟩
theorem Vcta:∀ a b:Fin 20,a < b->lss (enc (keyI a.val)) (enc (keyI b.val))=true:=by decide +kernel
theorem Vv9:∀ a:Fin 20,bad (keyI a.val)=false/\big (keyI a.val)=false:=by decide +kernel
def upN:List Nat->Prop:=λns=>ns.Pairwise (· < ·)/\∀ n∈ns,n<=19
theorem Vwa:∀ (ns:List Nat) (last:List UInt8),upN ns->(last=[]\/∃ m,m<=19/\last=enc (keyI m)/\∀ n∈ns,m < n)->keysOk last (ns.map keyI)
 | [],_,_,_=>trivial
 | n::ns,last,h,hl=>by
  have hn:=h.2 n (by simp)
  refine ⟨rfl,?_,Vwa ns (enc (keyI n)) ⟨(List.pairwise_cons.1 h.1).2,λm hm=>h.2 m (by simp [hm])⟩ (.inr ⟨n,hn,rfl,(List.pairwise_cons.1 h.1).1⟩)⟩
  intro k d hk hd
  refine Vv4 (.inl rfl) (Vv9 ⟨n,by omega⟩).1 (Vv9 ⟨n,by omega⟩).2 (λh=>by cases h) ?_ hk hd
  rcases hl with rfl | ⟨m,hm,rfl,hm2⟩
  ·exact .inl rfl
  ·exact .inr (Vcta ⟨m,by omega⟩ ⟨n,by omega⟩ (hm2 n (by simp)))
def kN (ns:List Nat):List (BitVec 64):=ns.map (Qf 64)
theorem kk_kN {ns:List Nat} (h:upN ns) {i:Nat} (hi:i < ns.length):kk (kN ns) i=ns[i]:=by
 unfold kk kN
 have:=h.2 ns[i] (List.getElem_mem hi)
 rw [Ql,Qa3,Qd hi]
 simp only [Option.map_some,Option.getD_some,Qt]
 omega
theorem Va1a {ns:List Nat} (h:upN ns):asc (kN ns):=by
 intro i j hij hj
 have hj:j < ns.length:=by simpa [kN] using hj
 rw [kk_kN h (by omega),kk_kN h hj]
 exact List.pairwise_iff_getElem.1 h.1 i j _ _ hij
theorem Vwb {keys:List (BitVec 64)}:∀ (o:List Nat),o.Pairwise (λa b=>kk keys a < kk keys b)->adj keys o=false
 | [],_=>rfl
 | [a],_=>rfl
 | a::b::r,h=>by
  unfold adj
  have h1:=(List.pairwise_cons.1 h)
  have:=h1.1 b (by simp)
  rw [Vwb (b::r) h1.2,decide_eq_false (show ¬ kk keys a=kk keys b by omega)]; rfl
theorem Voh:∀ (v:List (List Ja)),(∀ o∈v,valO o=0)->fau v=0
 | [],_=>rfl
 | l::r,h=>by
  unfold fau
  rw [decide_eq_true (h l (by simp))]
  exact Voh r λo ho=>h o (by simp [ho])
def pairI (ns:List Nat) (v:List (List Ja)):List Ja:=((ns.map keyI).zip v).flatMap λp=>p.1::p.2
def mapI (ns:List Nat) (v:List (List Ja)):List Ja:=⟨6,Qf 64 ns.length,[]⟩::pairI ns v
theorem Vcua {ns:List Nat} {v:List (List Ja)} (hl:ns.length=v.length):(prO (kN ns) v (Qu ns.length)).flatten=pairI ns v:=by
 unfold pairI prO
 rw [List.flatMap_def]
 congr 1
 apply List.ext_getElem
 ·simp [hl]
 ·intro i h1 h2
  have hi:i < ns.length:=by simpa using h1
  simp [kN,keyI,Ql,Qd hi,Qd (show i < v.length by omega)]
theorem Veza {ns:List Nat} {v:List (List Ja)} {h:Nat} (hu:upN ns) (hk:ns.length<=12) (hl:ns.length=v.length) (h1:1<=h) (hh:h<=8) (hv:light1 v) (H:∀ o∈v,VT h o) (hs:(mapI ns v).length<=512) (hs2:∀ o∈v,o.length<=512) :
  cbor_Map (kN ns) v=some ((),mapI ns v,0,())/\VT (h+1) (mapI ns v):=by
 have hkl:(kN ns).length=ns.length:=by simp [kN]
 have hV:VT (h+1) (mapI ns v):=Vaza (k:=ns.length) (by simp) (by simpa using hl) (by omega) h1 (Vwa ns [] hu (.inl rfl)) H
 refine ⟨?_,hV⟩
 rw [MapA (Va1a hu) v (by omega) (by omega) hv,hkl]
 unfold mapO
 have ha:adj (kN ns) (Qu ns.length)=false:=by
  apply Vwb
  rw [List.pairwise_iff_getElem]
  intro i j hi hj hij
  simp only [List.getElem_range]
  exact Va1a hu i j hij (by simpa [kN] using hj)
 rw [ha,Voh v λo ho=>Vm1 (H o ho) (by omega) (hs2 o ho),Vcua hl,hkl,Qr]
 have:=Vm1 hV (by omega) hs
 unfold mapI at this
 rw [this]
 rfl
def bytesI (b:List UInt8):List Ja:=[⟨3,0#64,b⟩]
def textI (b:List UInt8):List Ja:=[⟨4,0#64,b⟩]
def uintI (n:BitVec 64):List Ja:=[⟨1,n,[]⟩]
def boolI (b:Bool):List Ja:=[⟨7,bif b then 1#64 else 0#64,[]⟩]
theorem Vpx {b:List UInt8} (h:b.length<=1024):VT 1 (bytesI b):=
 Vdk (by dsimp only; decide) (by dsimp only; decide) λn d bb hn hd=>Vb7 (by dsimp only; decide) (by dsimp only; decide) rfl (by unfold big; rw [decide_eq_false (show ¬ 1024 < b.length by omega)]; rfl) (λh=>by cases h) hn hd
theorem Vcva {b:List UInt8} (h:b.length<=1024) (hv:Lib.validD b=true):VT 1 (textI b):=
 Vdk (by dsimp only; decide) (by dsimp only; decide) λn d bb hn hd=>Vb7 (by dsimp only; decide) (by dsimp only; decide) rfl (by unfold big; rw [decide_eq_false (show ¬ 1024 < b.length by omega)]; rfl) (λ_=>hv) hn hd
theorem Vcwa (n:BitVec 64):VT 1 (uintI n):=
 Vdk (by dsimp only; decide) (by dsimp only; decide) λk d bb hn hd=>Vb7 (by dsimp only; decide) (by dsimp only; decide) rfl rfl (λh=>by cases h) hn hd
theorem Vcxa (b:Bool):VT 1 (boolI b):=by
 cases b
 ·exact Vdk (by dsimp only; decide) (by dsimp only; decide) λk d bb hn hd=>Vb7 (by dsimp only; decide) (by dsimp only; decide) rfl rfl (λh=>by cases h) hn hd
 ·exact Vdk (by dsimp only; decide) (by dsimp only; decide) λk d bb hn hd=>Vb7 (by dsimp only; decide) (by dsimp only; decide) rfl rfl (λh=>by cases h) hn hd
def arrI (v:List (List Ja)):List Ja:=⟨5,Qf 64 v.length,[]⟩::v.flatten
theorem Vyt {v:List (List Ja)} {h:Nat} (hk:v.length<=100) (h1:1<=h) (hh:h<=8) (hv:light1 v) (H:∀ o∈v,VT h o) (hs:(arrI v).length<=512) (hs2:∀ o∈v,o.length<=512) :
  Zhy v=some ((),arrI v,())/\VT (h+1) (arrI v):=by
 have hV:VT (h+1) (arrI v):=Vyr rfl (by omega) H
 refine ⟨?_,hV⟩
 unfold Zhy
 rw [Vys v hv (by omega)]
 have:=Vm1 hV (by omega) hs
 unfold arrI at this
 unfold arrO
 rw [Voh v λo ho=>Vm1 (H o ho) (by omega) (hs2 o ho),Qr,this]
 rfl
theorem Vyu {σ β α τ:Type} {f:σ->Option (σ⊕β)} (l:List α) (g:α->τ) (mk:Nat->List τ->σ) (b:β) (hl:l.length < 9000000000000000000)
  (h:∀ (i:Nat) (x:α),l[i]? = some x->f (mk i ((l.take i).map g))=some (.inl (mk (i+1) ((l.take i).map g++[g x]))))
  (he:f (mk l.length (l.map g))=some (.inr b)):iter f rounds (mk 0 [])=some b:=by
 obtain ⟨t,h1,h2⟩:=Vfo (f:=f) l (λ_ (t:List τ) x=>t++[g x]) mk (λ_=>b) (λi t=>t=(l.take i).map g) hl [] (by simp)
  (by
   rintro i t x rfl hx
   refine ⟨h i x hx,?_⟩
   rw [Q2,hx]
   simp)
  (by
   rintro t rfl
   rw [Qa5]
   exact he)
 exact h2
theorem Va2a (b:List UInt8):Zij b=some ((),bytesI b,()):=rfl
theorem Ve0a (b:List UInt8):Zin b=some ((),textI b,()):=rfl
theorem Ve1a (n:BitVec 64):Zio n=some ((),uintI n,()):=rfl
theorem Ve2a (b:Bool):Zim b=some ((),boolI b,()):=by cases b<;>rfl
def certI (l:List (List UInt8)):List Ja:=arrI (l.map bytesI)
theorem Vm2 {l:List (List UInt8)} (h:∀ c∈l,c.length<=1024):light1 (l.map bytesI):=by
 intro o ho
 obtain ⟨c,hc,rfl⟩:=List.mem_map.1 ho
 have:=h c hc
 exact ⟨by simp [bytesI],λx hx=>by simp [bytesI] at hx; subst hx; dsimp only; omega⟩
theorem flat1 {α:Type} (g:α->List Ja) (k:Nat):∀ (l:List α),(∀ x∈l,(g x).length=k)->(l.map g).flatten.length=k * l.length
 | [],_=>by simp
 | x::l,h=>by
  rw [Qah,Qm,Qa,flat1 g k l λy hy=>h y (by simp [hy]),h x (by simp),Qb,Nat.mul_succ]; omega
theorem Vib (l:List (List UInt8)):(certI l).length=1+l.length:=by
 unfold certI arrI
 rw [Qb,flat1 bytesI 1 l λx _=>rfl]; omega
theorem Vjt {l:List (List UInt8)} (hl:l.length<=8) (h:∀ c∈l,c.length<=1024):Zhb l=some ((),certI l,())/\VT 2 (certI l):=by
 obtain ⟨a1,a2⟩:=Vyt (v:=l.map bytesI) (h:=1) (by simp; omega) (by omega) (by omega) (Vm2 h)
  (by intro o ho; obtain ⟨c,hc,rfl⟩:=List.mem_map.1 ho; exact Vpx (h c hc)) (by have:=Vib l; unfold certI at this; omega) (by intro o ho; obtain ⟨c,hc,rfl⟩:=List.mem_map.1 ho; simp [bytesI])
 refine ⟨?_,a2⟩
 unfold Zhb Zhb_L0
 rw [show ((0:Int))=((0:Nat):Int) from rfl,Vyu l bytesI (λi t=>(t,l,(l.length:Int),(i:Int),())) (l.map bytesI,()) (by omega)]
 ·simp only [bindS]; rw [a1]; rfl
 ·intro i x hx
  have h1:=Vbi hx
  simp only [Zhb_L0b,Vjr hx,gIn hx,Va2a,bindS,cond_true,Vck (i:=i) (by omega)]
  rw [Vv8 (by simp; omega)]
  rfl
 ·simp [Zhb_L0b]
def selN:Nat->List Bool->List Nat
 | _,[]=>[]
 | i,b::bs=>bif b then i::selN (i+1) bs else selN (i+1) bs
def selV:List Bool->List (List Ja)->List (List Ja)
 | b::bs,v::vs=>bif b then v::selV bs vs else selV bs vs
 | _,_=>[]
theorem Vic (b:Bool):∀ (l:List Bool) (i:Nat),selN i (l++[b])=selN i l++(bif b then [i+l.length] else [])
 | [],i=>by cases b<;>rfl
 | c::l,i=>by
  rw [Qh]
  unfold selN
  rw [Vic b l (i+1),Qb,show i+1+l.length=i+(l.length+1) by omega]
  cases c<;>simp
theorem Vid (b:Bool) (v:List Ja):∀ (l:List Bool) (vs:List (List Ja)),l.length=vs.length->selV (l++[b]) (vs++[v])=selV l vs++(bif b then [v] else [])
 | [],[],_=>by cases b<;>rfl
 | c::l,w::vs,h=>by
  rw [Qh,Qh]
  unfold selV
  rw [Vid b v l vs (by simpa using h)]
  cases c<;>simp
theorem Vie:∀ (l:List Bool) (vs:List (List Ja)) (i:Nat),l.length=vs.length->(selN i l).length=(selV l vs).length
 | [],[],i,_=>rfl
 | c::l,w::vs,i,h=>by
  unfold selN selV
  have:=Vie l vs (i+1) (by simpa using h)
  cases c<;>simp [this]
theorem Vdl:∀ (l:List Bool) (vs:List (List Ja)),(selV l vs).flatten.length<=vs.flatten.length/\∀ o∈selV l vs,o∈vs
 | [],_=>by unfold selV; simp
 | c::l,[]=>by unfold selV; simp
 | c::l,w::vs=>by
  obtain ⟨h1,h2⟩:=Vdl l vs
  unfold selV
  cases c
  ·refine ⟨by simp only [cond_false,Qm,Qa]; omega,λo ho=>?_⟩
   exact Qaf _ (h2 o ho)
  ·refine ⟨by simp only [cond_true,Qm,Qa]; omega,λo ho=>?_⟩
   simp only [cond_true,Qas] at ho
   rcases ho with rfl | ho
   ·simp
   ·exact Qaf _ (h2 o ho)
theorem Vf9:∀ (l:List Bool) (i:Nat),(selN i l).Pairwise (· < ·)/\(∀ n∈selN i l,i<=n/\n < i+l.length)/\(selN i l).length<=l.length
 | [],i=>by unfold selN; simp
 | c::l,i=>by
  obtain ⟨h1,h2,h3⟩:=Vf9 l (i+1)
  unfold selN
  cases c
  ·refine ⟨h1,λn hn=>?_,by simp only [cond_false,Qb]; omega⟩
   have:=h2 n hn
   rw [Qb]; omega
  ·refine ⟨?_,λn hn=>?_,by simp only [cond_true,Qb]; omega⟩
   ·simp only [cond_true,List.pairwise_cons]
    exact ⟨λn hn=>by have:=h2 n hn; omega,h1⟩
   ·simp only [cond_true,Qas] at hn
    rcases hn with rfl | hn
    ·rw [Qb]; omega
    ·have:=h2 n hn
     rw [Qb]; omega
theorem Vif:∀ (ns:List Nat) (v:List (List Ja)),ns.length=v.length->(pairI ns v).length=ns.length+v.flatten.length
 | [],[],_=>rfl
 | n::ns,o::v,h=>by
  have:=Vif ns v (by simpa using h)
  unfold pairI at *
  simp only [Qah,Qaj,Qaa,Qa,Qb,Qm]
  omega
def chosI (us:List Bool) (vs:List (List Ja)):List Ja:=mapI (selN 1 us) (selV us vs)
structure Fit (us:List Bool) (vs:List (List Ja)):Prop where
 n:us.length=19
 l:us.length=vs.length
 v:∀ o∈vs,VT 3 o
 f:vs.flatten.length<=400
 d:∀ o∈vs,o.length<=400/\∀ x∈o,x.data.length < 100000
 c:(selN 1 us).length<=12
theorem Fit.up {us:List Bool} {vs:List (List Ja)} (h:Fit us vs):upN (selN 1 us):=by
 obtain ⟨h1,h2,h3⟩:=Vf9 us 1
 exact ⟨h1,λn hn=>by have:=h2 n hn; have:=h.n; omega⟩
theorem Fit.len {us:List Bool} {vs:List (List Ja)} (h:Fit us vs):(chosI us vs).length<=450:=by
 unfold chosI mapI
 rw [Qb,Vif _ _ (Vie us vs 1 h.l)]
 have:=(Vf9 us 1).2.2
 have:=(Vdl us vs).1
 have:=h.n; have:=h.f
 omega
theorem Fit.map {us:List Bool} {vs:List (List Ja)} (h:Fit us vs):cbor_Map (kN (selN 1 us)) (selV us vs)=some ((),chosI us vs,0,())/\VT 4 (chosI us vs):=by
 have h3:=(Vf9 us 1).2.2
 have h4:=h.len
 refine Veza h.up h.c (Vie us vs 1 h.l) (by omega) (by omega) ?_ ?_ (by unfold chosI at h4; omega) ?_
 ·intro o ho
  have:=h.d o ((Vdl us vs).2 o ho)
  exact ⟨by omega,this.2⟩
 ·intro o ho
  exact h.v o ((Vdl us vs).2 o ho)
 ·intro o ho
  have:=h.d o ((Vdl us vs).2 o ho)
  omega
theorem Fit.data {us:List Bool} {vs:List (List Ja)} (h:Fit us vs):∀ x∈chosI us vs,x.data.length < 100000:=by
 intro x hx
 unfold chosI mapI pairI at hx
 rcases List.mem_cons.1 hx with rfl | hx
 ·show ([]:List UInt8).length < 100000
  decide
 ·obtain ⟨p,hp,hx⟩:=List.mem_flatMap.1 hx
  obtain ⟨hp1,hp2⟩:=List.of_mem_zip hp
  rcases List.mem_cons.1 hx with rfl | hx
  ·obtain ⟨n,_,hn⟩:=List.mem_map.1 hp1
   rw [<- hn]
   show ([]:List UInt8).length < 100000
   decide
  ·exact (h.d _ ((Vdl us vs).2 _ hp2)).2 x hx
theorem Fit.enc {us:List Bool} {vs:List (List Ja)} (h:Fit us vs):encO (chosI us vs)=(encA (chosI us vs),0)/\valO (chosI us vs)=0:=by
 have hv:valO (chosI us vs)=0:=Vm1 h.map.2 (by omega) (by have:=h.len; omega)
 refine ⟨?_,hv⟩
 unfold encO
 rw [hv]; rfl
theorem Vlb:∀ (l:List Ja),(∀ x∈l,x.data.length < 100000)->(encA l).length<=100009 * l.length
 | [],_=>by simp [encA]
 | x::l,h=>by
  have h1:=Vlb l λy hy=>h y (by simp [hy])
  have h2:=h x (by simp)
  have h3:=(Vh4 x).2
  rw [Vmw,Qa,Qb]
  unfold enc
  rw [Qa]
  omega
theorem Ve3a (t:BitVec 32) (k:Nat):decide ((t >>> k) &&& 1#32=1#32)=t.getLsbD k:=by
 cases h:t.getLsbD k
 ·apply decide_eq_false
  intro e
  have:=congrArg (λb:BitVec 32=>b.getLsbD 0) e
  simp [h] at this
 ·apply decide_eq_true
  apply BitVec.eq_of_getLsbD_eq
  intro i hi
  cases i with
  | zero=>simp [h]
  | succ i=>simp
theorem Vwc {us:List Bool} {vs:List (List Ja)} (h:Fit us vs) (first:UInt8) {t:BitVec 32} (ht:∀ k,t.getLsbD k=(decide (1<=k)&&us.getD (k - 1) false)) :
  message_encode first t vs=some ((),first::encA (chosI us vs),0,()):=by
 have h17:=h.n
 have hl:=h.l
 have e0 : message_encode_L0 (first, t, [], [], vs, (vs.length : Int), 0, ()) = some (first, kN (selN 1 us), selV us vs, ()) := by
  unfold message_encode_L0
  obtain ⟨q,h1,h2⟩:=Vfo (f:=λ(y:(UInt8×(BitVec 32)×(List (BitVec 64))×(List (List Ja))×(List (List Ja))×Int×Int×Unit))=>message_encode_L0b y.1 y.2.1 y.2.2.1 y.2.2.2.1 y.2.2.2.2.1 y.2.2.2.2.2.1 y.2.2.2.2.2.2.1) vs
   (λi (q:List (BitVec 64)×List (List Ja)) x=>bif us.getD i false then (q.1++[Qf 64 (i+1)],q.2++[x]) else q)
   (λi q=>(first,t,q.1,q.2,vs,(vs.length:Int),(i:Int),())) (λq=>(first,q.1,q.2,()))
   (λi q=>q=(kN (selN 1 (us.take i)),selV (us.take i) (vs.take i))) (by omega) ([],[]) (by simp [selN,selV,kN])
   (by
    rintro i q x rfl hx
    have h1:=Vbi hx
    have hu:us[i]? = some (us.getD i false):=by
     rw [Ql,Qd (show i < us.length by omega)]; rfl
    have hti:(us.take i).length=i:=by rw [Q6]; omega
    have htv:(vs.take i).length=i:=by rw [Q6]; omega
    have hsn:=(Vf9 (us.take i) 1).2.2
    have hsl:=Vie (us.take i) (vs.take i) 1 (by omega)
    refine ⟨?_,?_⟩
    ·simp only [message_encode_L0b,Vjr hx,gIn hx,bindS,cond_true,Vck (i:=i) (by omega)]
     rw [show decide ((0:Int)<=((i+1:Nat):Int))=true from decide_eq_true (Qa4 _),Qn,Ve3a,ht (i+1),decide_eq_true (show 1<=i+1 by omega),Nat.add_sub_cancel,Q0]
     simp only [cond_true]
     cases us.getD i false
     ·rfl
     ·simp only [cond_true]
      rw [show small ((kN (selN 1 (us.take i))).length+([Qc 64 ((i+1:Nat):Int)]:List (BitVec 64)).length) 8=true by unfold small kN; simp; omega,Vv8 (by simp; omega),Qr]
      rfl
    ·rw [Q2,Q2,hx,hu,Q7,Q7,Vic,Vid _ _ _ _ (by omega),hti]
     unfold kN
     cases us.getD i false
     ·simp
     ·simp [Nat.add_comm])
   (by
    rintro q rfl
    simp [message_encode_L0b])
  have e1:us.take vs.length=us:=Q1 (by omega)
  rw [Qa5,e1] at h1
  rw [h1] at h2
  exact h2
 unfold message_encode
 rw [e0]
 simp only [bindS]
 rw [h.map.1]
 simp only [bindS,decide_true,Qj,cond_false]
 rw [Vv2 _ (by have:=h.len; omega) h.data,h.enc.1]
 simp only [bindS,decide_true,Qj,cond_false]
 have hlen:=Vlb _ h.data
 have:=h.len
 rw [Vcp (by simp only [Qb,Qv]; omega)]
 rfl
theorem Va3a {α:Type} {l:List α} {i:Nat} (d:α) (h:i < l.length):l[i]? = some (l.getD i d):=by
 rw [Ql,Qd h]; rfl
def fld (us:List Bool) (vs:List (List Ja)):List (List Ja):=List.zipWith (λb v=>bif b then v else []) us vs
theorem Vcya {α:Type} [DecidableEq α] (l:List α):decide ((0:Int) < (l.length:Int)) = !decide (l=[]):=by
 rw [<- Vcsa,Qbd]
theorem Vq6 (n:Nat) (o:List Ja):∀ (ns:List Nat) (v:List (List Ja)),ns.length=v.length->pairI (ns++[n]) (v++[o])=pairI ns v++(keyI n::o):=by
 intro ns v h
 unfold pairI
 rw [List.map_append,List.zip_append (by simpa using h),List.flatMap_append]
 simp
theorem Vq7 {us:List Bool} {vs:List (List Ja)} (h:Fit us vs) (hne:∀ o∈vs,o≠[]):passkeyref14_encode ([]::fld us vs)=some ((),encA (chosI us vs),()):=by
 have h17:=h.n
 have hl:=h.l
 have hfl:(fld us vs).length=19:=by unfold fld; rw [List.length_zipWith]; omega
 have e0 : passkeyref14_encode_L0 ([]::fld us vs, [⟨6, 0#64, []⟩], (1 : Int), ()) = some (chosI us vs, ()) := by
  unfold passkeyref14_encode_L0
  obtain ⟨q,h1,h2⟩:=Vfo (f:=λ(y:((List (List Ja))×(List (Ja))×Int×Unit))=>passkeyref14_encode_L0b y.1 y.2.1 y.2.2.1) (fld us vs)
   (λi (q:List Ja) x=>chosI (us.take (i+1)) (vs.take (i+1)))
   (λi q=>([]::fld us vs,q,((i+1:Nat):Int),())) (λq=>(q,()))
   (λi q=>q=chosI (us.take i) (vs.take i)) (by omega) [⟨6,0#64,[]⟩] rfl
   (by
    rintro i q x rfl hx
    have h1:=Vbi hx
    rw [hfl] at h1
    refine ⟨?_,rfl⟩
    have hu:us[i]? = some (us.getD i false):=Va3a false (by omega)
    have hv:vs[i]? = some (vs.getD i []):=Va3a [] (by omega)
    have hx2:x=bif us.getD i false then vs.getD i [] else []:=by
     unfold fld at hx
     rw [List.getElem?_zipWith,hu,hv] at hx
     exact (Qau hx).symm
    have hti:(us.take i).length=i:=by rw [Q6]; omega
    have htv:(vs.take i).length=i:=by rw [Q6]; omega
    have hsn:=(Vf9 (us.take i) 1).2.2
    have hsl:=Vie (us.take i) (vs.take i) 1 (by omega)
    have hg:getI ([]::fld us vs) ((i+1:Nat):Int)=some x:=gIn (by rw [List.getElem?_cons_succ]; exact hx)
    have hmem:vs.getD i []∈vs:=Qg hv
    have hfull:(pairI (selN 1 (us.take i)) (selV (us.take i) (vs.take i))).length<=450:=by
     rw [Vif _ _ hsl]
     have a1:=(Vdl (us.take i) (vs.take i)).1
     have a2:(vs.take i).flatten.length<=vs.flatten.length:=by
      conv=>rhs; rw [<- Qax i vs,List.flatten_append,Qa]
      omega
     have:=h.f
     omega
    have ec:chosI (us.take (i+1)) (vs.take (i+1))=bif us.getD i false then ⟨6,Qf 64 ((selN 1 (us.take i)).length+1),[]⟩::(pairI (selN 1 (us.take i)) (selV (us.take i) (vs.take i))++(keyI (i+1)::vs.getD i [])) else chosI (us.take i) (vs.take i):=by
     unfold chosI mapI
     rw [Q2,Q2,hu,hv,Q7,Q7,Vic,Vid _ _ _ _ (by omega),hti]
     cases us.getD i false
     ·simp
     ·simp only [cond_true]
      rw [Vq6 _ _ _ _ hsl,Qa,Nat.add_comm 1 i]
      rfl
    simp only
    rw [ec]
    unfold passkeyref14_encode_L0b
    rw [hg,decide_eq_true (show ((i+1:Nat):Int) < (([]::fld us vs).length:Int) by rw [Qb,hfl]; omega)]
    simp only [bindS,cond_true,Vck (i:=i+1) (by omega)]
    subst hx2
    cases us.getD i false
    ·rfl
    ·simp only [cond_true]
     have hpos:decide ((0:Int) < ((vs.getD i []).length:Int))=true:=by
      rw [Vcya,decide_eq_false (hne _ hmem)]; rfl
     have hd:=(h.d _ hmem).1
     rw [hpos]
     unfold chosI mapI
     rw [decide_eq_true (show (0:Int) < (((⟨6,Qf 64 (selN 1 (us.take i)).length,[]⟩::pairI (selN 1 (us.take i)) (selV (us.take i) (vs.take i)):List Ja)).length:Int) by rw [Qb]; omega)]
     simp only [cond_true,List.getElem?_cons_zero,bindS,List.set_cons_zero,Zcy,Qr]
     rw [Vh3 (by simp only [Qb,Qv]; omega)]
     simp only [cond_true]
     rw [Vh3 (by simp only [Qa,Qb,Qv]; omega)]
     simp only [cond_true,Qh,Qe,Qa6]
     rw [show Qf 64 (selN 1 (us.take i)).length+1#64=Qf 64 ((selN 1 (us.take i)).length+1) by rw [BitVec.ofNat_add]]
     rfl)
   (by
    rintro q rfl
    unfold passkeyref14_encode_L0b
    rw [decide_eq_false (show ¬ (((fld us vs).length+1:Nat):Int) < (([]::fld us vs).length:Int) by rw [Qb]; omega)]
    rfl)
  rw [h1,hfl,Q1 (by omega),Q1 (by omega)] at h2
  exact h2
 unfold passkeyref14_encode
 dsimp only
 rw [e0]
 simp only [bindS]
 rw [Vjn _ (by have:=h.len; omega) h.data,h.enc.1]
 rfl
def PV (o:List Ja):Prop:=VT 3 o/\(o.length<=400/\∀ x∈o,x.data.length < 100000)/\o≠[]
theorem Vpy {x:Ja} (h:VT 1 [x]) (hx:x.data.length < 100000):PV [x]:=by
 refine ⟨Vv3 (by omega) h,⟨by rw [Qae]; omega,λy hy=>?_⟩,by intro hh; cases hh⟩
 rw [List.mem_singleton] at hy
 rw [hy]; exact hx
theorem PV_b {b:List UInt8} (h:b.length<=1024):PV (bytesI b):=Vpy (Vpx h) (by dsimp only; omega)
theorem PV_t {b:List UInt8} (h:b.length<=1024) (hv:Lib.validD b=true):PV (textI b):=Vpy (Vcva h hv) (by dsimp only; omega)
theorem PV_u (n:BitVec 64):PV (uintI n):=Vpy (Vcwa n) (by show ([]:List UInt8).length < 100000; decide)
theorem PV_o (b:Bool):PV (boolI b):=Vpy (Vcxa b) (by show ([]:List UInt8).length < 100000; decide)
end Go.Proofs.YtancibcbaajjkaaGreatDoor

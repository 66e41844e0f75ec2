/- Out of the texts about items of the chapter on items (cbor): what this chapter needs. Written by a program. -/
import Derived.Test.YthoblablopmhfaaGreatDoorFns
import Derived.Test.YthoblablopmhfaaGreatDoorLibC
namespace Go.Proofs.YthoblablopmhfaaGreatDoor
set_option linter.unusedVariables false
set_option linter.unusedSimpArgs false
set_option maxRecDepth 100000
open Go Go.Abs
open _root_.List renaming length_append → Qa, append_assoc → Qd, length_cons → Qj, cons_append → Qs, drop_drop → Qx, append_nil → Qy, length_take → Qz, mem_of_getElem? → Q1, getD_eq_getElem?_getD → Q2, reverse_cons → Q3, length_drop → Q5, drop → Q6, drop_take → Qaa, flatten_cons → Qad, getElem?_eq_getElem → Qaf, take → Qah, nil_append → Qam, length_nil → Qan, flatMap_cons → Qau, isEmpty_iff → Qa2, take_append_of_le_length → Qa3, take_of_length_le → Qa6, take_append_drop → Qa7, zip_cons_cons → Qa8, headD_cons → Qbd, map_cons → Qbf
open Go.IntKind renaming wrap → Qb, bits → Qaq
open _root_.Bool renaming not_true → Qc, and_eq_true → Qh, not_false → Qi, true_and → Qn, false_and → Qo, or_eq_false_iff → Qq, and_false → Qu, and_true → Q4, not_eq_false' → Q9, or_self → Qac, and_self → Qag, or_eq_true → Qao, and_eq_false_iff → Qap, false_or → Qar, true_or → Qav, or_true → Qaw, or_false → Qa4
open _root_.UInt8 renaming ofBitVec → Qe, ofNat → Qv, ofNat_toNat → Qat
open _root_.Prod.mk renaming injEq → Qf
open _root_.BitVec renaming ofNat → Qg, ofInt → Qk, setWidth → Qr, toNat_ofNat → Qt, eq_of_toNat_eq → Qw, ofInt_natCast → Q0, toNat_setWidth → Qaj, toNat_add → Qa9
open _root_.Int renaming toNat_natCast → Ql, tmod → Qbg
open _root_.Nat renaming mod_eq_of_lt → Qm, zero_add → Q8, pow_le_pow_right → Qab, le_trans → Qal, add_assoc → Qas, zero_mul → Qay, pow_succ → Qaz, mul_comm → Qa0, add_comm → Qa1, pow_le_pow_iff_right → Qa5, one_le_two_pow → Qba, shiftLeft_eq → Qbb, div_eq_of_lt → Qbc, mul_add_div → Qbe
open _root_.Sum renaming elim_inl → Qp, inl → Q7, inr → Qae, elim → Qai, elim_inr → Qak
open _root_.Option renaming bind → Qax
theorem Vcg {n:Nat} (h:n < 1000000000):small n 1=true:=by
 unfold small; simp; omega
theorem Vqq {n:Nat} (h:n < 1000000):small n 40=true:=by
 unfold small; simp; omega
theorem Vc2 {n:Nat} (h:n < 1000000):small n 32=true:=by
 unfold small; simp; omega
theorem Vxj {a b:Nat} (h:a≤b):Nat.ble a b=true:=Eq.mpr Nat.ble_eq h
def byt (n:BitVec 64):UInt8:=Qe (Qr 8 n)
def beb (n:BitVec 64):Nat→List UInt8
 | 0=>[]
 | k+1=>byt (n >>> (8 * k))::beb n k
def hdr (m:UInt8) (n:BitVec 64):List UInt8:=
 bif decide (n.toNat < 24) then [m+byt n] else bif decide (n.toNat < 256) then (m+24)::beb n 1 else bif decide (n.toNat < 65536) then (m+25)::beb n 2 else bif decide (n.toNat < 4294967296) then (m+26)::beb n 4 else (m+27)::beb n 8
def mj (k:Int):UInt8:=bif decide (k=2) then 32 else bif decide (k=3) then 64 else bif decide (k=4) then 96 else bif decide (k=5) then 128 else bif decide (k=6) then 160 else 0
def isD (k:Int):Bool:=decide (k=3)||decide (k=4)
def isN (k:Int):Bool:=decide (k=5)||decide (k=6)
def num (x:ApiItem):BitVec 64:=bif isD x.kind then Qk 64 (x.data.length:Int) else x.number
def hdI (x:ApiItem):List UInt8:=bif decide (x.kind=7) then [244+byt x.number] else bif decide (x.kind=8) then [246] else hdr (mj x.kind) (num x)
def enc (x:ApiItem):List UInt8:=hdI x++x.data
theorem Vc3 (n:BitVec 64):∀ k,(beb n k).length=k
 | 0=>rfl
 | k+1=>by simp [beb,Vc3 n k]
theorem Vqr (m:UInt8) (n:BitVec 64):1≤(hdr m n).length∧(hdr m n).length≤9:=by
 unfold hdr
 cases decide (n.toNat < 24)<;>cases decide (n.toNat < 256)<;>cases decide (n.toNat < 65536)<;>cases decide (n.toNat < 4294967296)<;>simp [Vc3]
theorem Vjz (x:ApiItem):1≤(hdI x).length∧(hdI x).length≤9:=by
 unfold hdI
 have:=Vqr (mj x.kind) (num x)
 cases decide (x.kind=7)<;>cases decide (x.kind=8)<;>simp<;>omega
theorem Vapa (x:ApiItem):enc x≠[]:=by
 have h1:=(Vjz x).1
 intro h
 have h2:=congrArg List.length h
 unfold enc at h2
 rw [Qa,Qan] at h2
 omega
theorem Vg0 (out:List UInt8) (n:BitVec 64) (k:Nat) (hk:k≤8) (ho:out.length < 100000000):Zcu_L1 (out,n,(k:Int) - 1,())=some (out++beb n k,()):=by
 unfold Zcu_L1
 rw [Vlb (fun q=>q.2.1=n∧-1≤q.2.2.1∧q.2.2.1≤7∧(q.1.length:Int)+q.2.2.1≤200000000) (fun q=>(q.2.2.1+1).toNat) (fun q=>(q.1++beb q.2.1 (q.2.2.1+1).toNat,()))]
 ·rw [show ((k:Int) - 1+1).toNat=k by omega]
 ·rintro ⟨o,m,i,u⟩ ⟨h1,h2,h3,h4⟩
  dsimp only at *
  subst h1
  simp only [Zcu_L1b]
  by_cases hi:0≤i
  ·left
   obtain ⟨j,rfl⟩:∃ j:Nat,i=(j:Int):=⟨i.toNat,by omega⟩
   rw [Vac (n:=8 * (j:Int)) (by omega) (by omega),Vac (n:=(j:Int) - 1) (by omega) (by omega),show decide ((0:Int)≤(j:Int))=true by simp,show decide ((0:Int)≤8 * (j:Int))=true by simp; omega,Vcg (by simp; omega)]
   refine ⟨_,rfl,⟨rfl,by dsimp only; omega,by dsimp only; omega,by dsimp only; simp; omega⟩,by dsimp only; omega,?_⟩
   dsimp only
   rw [show ((j:Int)+1).toNat=j+1 by omega,show ((j:Int) - 1+1).toNat=j by omega,show (8 * (j:Int)).toNat=8 * j by omega]
   simp [beb,byt]
  ·right
   rw [show decide ((0:Int)≤i)=false by simpa using hi,show (i+1).toNat=0 by omega]
   simp [beb]
 ·exact ⟨rfl,by dsimp only; omega,by dsimp only; omega,by dsimp only; omega⟩
 ·rw [Vae]; dsimp only; omega
theorem Vba (out:List UInt8) (m:UInt8) (n:BitVec 64) (ho:out.length < 10000000):Zcu out m n=some ((),out++hdr (Qe (m.toBitVec <<< 5)) n,()):=by
 unfold Zcu hdr
 have e24:(24#64).toNat=24:=rfl
 have e256:(256#64).toNat=256:=rfl
 have e16:(65536#64).toNat=65536:=rfl
 have e32:(4294967296#64).toNat=4294967296:=rfl
 rw [e24,e256,e16,e32]
 generalize Qe (m.toBitVec <<< 5)=f
 by_cases h1:n.toNat < 24
 ·simp only [h1,decide_true,cond_true]
  rw [Vcg (by simp; omega)]
  rfl
 ·by_cases h2:n.toNat < 256
  ·simp only [h1,h2,decide_true,decide_false,cond_true,cond_false,bindS,Qp]
   rw [Vcg (by simp; omega),Vac (n:=(1:Int) - 1) (by omega) (by omega),show (1:Int) - 1=((1:Nat):Int) - 1 from rfl,Vg0 _ _ 1 (by omega) (by simp; omega)]
   simp only [cond_true,bindS,Qd]
   rfl
  ·by_cases h3:n.toNat < 65536
   ·simp only [h1,h2,h3,decide_true,decide_false,cond_true,cond_false,bindS,Qp]
    rw [Vcg (by simp; omega),Vac (n:=(2:Int) - 1) (by omega) (by omega),show (2:Int) - 1=((2:Nat):Int) - 1 from rfl,Vg0 _ _ 2 (by omega) (by simp; omega)]
    simp only [cond_true,bindS,Qd]
    rfl
   ·by_cases h4:n.toNat < 4294967296
    ·simp only [h1,h2,h3,h4,decide_true,decide_false,cond_true,cond_false,bindS,Qp]
     rw [Vcg (by simp; omega),Vac (n:=(4:Int) - 1) (by omega) (by omega),show (4:Int) - 1=((4:Nat):Int) - 1 from rfl,Vg0 _ _ 4 (by omega) (by simp; omega)]
     simp only [cond_true,bindS,Qd]
     rfl
    ·simp only [h1,h2,h3,h4,decide_true,decide_false,cond_true,cond_false,bindS,Qp]
     rw [Vcg (by simp; omega),Vac (n:=(8:Int) - 1) (by omega) (by omega),show (8:Int) - 1=((8:Nat):Int) - 1 from rfl,Vg0 _ _ 8 (by omega) (by simp; omega)]
     simp only [cond_true,bindS,Qd]
     rfl
def kin (x:ApiItem):Prop:=1≤x.kind∧x.kind≤8∧(isD x.kind=false→x.data=[])
theorem Vfe (out:List UInt8) (x:ApiItem) (hk:kin x) (ho:out.length < 1000000) (hx:x.data.length < 1000000):Zcv out x=some ((),out++enc x,()):=by
 obtain ⟨k,n,d⟩:=x
 obtain ⟨h1,h2,h3⟩:=hk
 dsimp only at h1 h2 h3 hx
 unfold Zcv enc hdI num
 dsimp only
 have hl:=fun m n=>(Vqr m n).2
 have hk:k=1∨k=2∨k=3∨k=4∨k=5∨k=6∨k=7∨k=8:=by omega
 rcases hk with rfl | rfl | rfl | rfl | rfl | rfl | rfl | rfl
 ·rw [h3 rfl,Qy]
  exact (congrArg (fun q=>Qax q fun r9=>some ((),(r9.2.1,()))) (Vba out 0 n (by omega))).trans rfl
 ·rw [h3 rfl,Qy]
  exact (congrArg (fun q=>Qax q fun r9=>some ((),(r9.2.1,()))) (Vba out 1 n (by omega))).trans rfl
 ·have:=Vba out 2 (Qk 64 (d.length:Int)) (by omega)
  have hs:=Vcg (n:=(out++hdr 64 (Qk 64 (d.length:Int))).length+d.length) (by have:=hl 64 (Qk 64 (d.length:Int)); rw [Qa]; omega)
  have e:(Qe ((2:UInt8).toBitVec <<< 5))=64:=by decide
  rw [e] at this
  show ((Zcu out 2 (Qk 64 (d.length:Int))).bind fun r3=>(bif small ((r3.2.1).length+(d:List (UInt8)).length) 1 then (some ((),((r3.2.1++d),()))) else none))=_
  rw [this]
  simp only [bindS]
  rw [hs]
  simp only [cond_true,Qd]
  rfl
 ·have:=Vba out 3 (Qk 64 (d.length:Int)) (by omega)
  have hs:=Vcg (n:=(out++hdr 96 (Qk 64 (d.length:Int))).length+d.length) (by have:=hl 96 (Qk 64 (d.length:Int)); rw [Qa]; omega)
  have e:(Qe ((3:UInt8).toBitVec <<< 5))=96:=by decide
  rw [e] at this
  show ((Zcu out 3 (Qk 64 (d.length:Int))).bind fun r3=>(bif small ((r3.2.1).length+(d:List (UInt8)).length) 1 then (some ((),((r3.2.1++d),()))) else none))=_
  rw [this]
  simp only [bindS]
  rw [hs]
  simp only [cond_true,Qd]
  rfl
 ·rw [h3 rfl,Qy]
  exact (congrArg (fun q=>Qax q fun r9=>some ((),(r9.2.1,()))) (Vba out 4 n (by omega))).trans rfl
 ·rw [h3 rfl,Qy]
  exact (congrArg (fun q=>Qax q fun r9=>some ((),(r9.2.1,()))) (Vba out 5 n (by omega))).trans rfl
 ·rw [h3 rfl,Qy]
  show (bif small (out.length+1) 1 then _ else none)=_
  rw [Vcg (by omega)]
  rfl
 ·rw [h3 rfl,Qy]
  show (bif small (out.length+1) 1 then _ else none)=_
  rw [Vcg (by omega)]
  rfl
theorem Vvn (n:BitVec 64):passkeyref1_Words [n]=some ((),beb n 8,()):=by
 have hL : ∀ out : List UInt8, out.length≤100→passkeyref1_Words_L2 ([n], out, 0, 7, ()) = some ([n], out++beb n 8, 0, ()) := by
  intro out ho
  unfold passkeyref1_Words_L2
  rw [Vlb (fun q=>q.1=[n]∧q.2.2.1=0∧-1≤q.2.2.2.1∧q.2.2.2.1≤7∧(q.2.1.length:Int)+q.2.2.2.1≤200) (fun q=>(q.2.2.2.1+1).toNat) (fun q=>(q.1,q.2.1++beb n (q.2.2.2.1+1).toNat,q.2.2.1,()))]
  ·rfl
  ·rintro ⟨l,o,z,i,u⟩ ⟨h0,h1,h2,h3,h4⟩
   dsimp only at *
   subst h0; subst h1
   simp only [passkeyref1_Words_L2b]
   by_cases hi:0≤i
   ·left
    obtain ⟨j,rfl⟩:∃ j:Nat,i=(j:Int):=⟨i.toNat,by omega⟩
    have eg:getI [n] 0=some n:=rfl
    have es:(Qk 64 (8 * (j:Int))).toNat=8 * j:=by
     rw [show (8 * (j:Int))=((8 * j:Nat):Int) by omega,Q0,Qt,Qm (by omega)]
    rw [Vac (n:=8 * (j:Int)) (by omega) (by omega),Vac (n:=(j:Int) - 1) (by omega) (by omega),show decide ((0:Int)≤(j:Int))=true by simp,eg,es]
    simp only [cond_true,bindS]
    rw [Vcg (by simp; omega)]
    refine ⟨_,rfl,⟨rfl,rfl,by dsimp only; omega,by dsimp only; omega,by dsimp only; simp; omega⟩,by dsimp only; omega,?_⟩
    dsimp only
    rw [show ((j:Int)+1).toNat=j+1 by omega,show ((j:Int) - 1+1).toNat=j by omega]
    simp [beb,byt]
   ·right
    rw [show decide ((0:Int)≤i)=false by simpa using hi,show (i+1).toNat=0 by omega]
    simp [beb]
  ·exact ⟨rfl,rfl,by dsimp only; omega,by dsimp only; omega,by dsimp only; omega⟩
  ·rw [Vae]; dsimp only; omega
 unfold passkeyref1_Words passkeyref1_Words_L0
 rw [Vae,show (1180591620717411303424:Nat)=1180591620717411303422+1+1 from rfl,Vad]
 have e1:passkeyref1_Words_L0b [n] [] 0=some (.inl ([n],beb n 8,1,())):=by
  unfold passkeyref1_Words_L0b
  rw [hL [] (by simp)]
  rfl
 have e2:passkeyref1_Words_L0b [n] (beb n 8) 1=some (.inr (beb n 8,())):=rfl
 dsimp only
 rw [e1,bindS,Qp,Vad]
 dsimp only
 rw [e2,bindS,Qak,bindS]
def tailH (j2:(BitVec 64) × UInt8 × Unit):Option (Unit × (List UInt8 × Unit)):=(bif (decide (j2.1.toNat < (24#64).toNat)) then (let v3:UInt8:=(Qe (j2.2.1.toBitVec + (Qe (Qr 8 j2.1)).toBitVec))
 (some ((),(([v3]:List (UInt8)),()))))
 else (bif (decide (j2.1.toNat < (256#64).toNat)) then (let v4:List (UInt8):=([(Qe (j2.2.1.toBitVec + (24:UInt8).toBitVec)),(Qe (Qr 8 j2.1))]:List (UInt8))
 (some ((),(v4,()))))
 else (bif (decide (j2.1.toNat < (65536#64).toNat)) then (let v5:List (UInt8):=([(Qe (j2.2.1.toBitVec + (25:UInt8).toBitVec)),(Qe (Qr 8 (j2.1 >>> 8))),(Qe (Qr 8 j2.1))]:List (UInt8))
 (some ((),(v5,()))))
 else (bif (decide (j2.1.toNat < (4294967296#64).toNat)) then (let v6:List (UInt8):=([(Qe (j2.2.1.toBitVec + (26:UInt8).toBitVec)),(Qe (Qr 8 (j2.1 >>> 24))),(Qe (Qr 8 (j2.1 >>> 16))),(Qe (Qr 8 (j2.1 >>> 8))),(Qe (Qr 8 j2.1))]:List (UInt8))
 (some ((),(v6,()))))
 else (let v7:List (UInt8):=([(Qe (j2.2.1.toBitVec + (27:UInt8).toBitVec))]:List (UInt8))
 ((passkeyref1_Words ([j2.1]:List (BitVec 64))).bind fun r8=>(bif small ((v7).length + (r8.2.1:List (UInt8)).length) 1 then (some ((),((v7 ++ r8.2.1),())))
 else none)))))))
theorem Vyw (x:ApiItem):Zcq x=some ((),hdI x,()):=by
 have key:∀ (m:UInt8) (n:BitVec 64),tailH (n,m,())=some ((),hdr m n,()):=by
  intro m n
  unfold tailH
  dsimp only
  have e24:(24#64).toNat=24:=rfl
  have e256:(256#64).toNat=256:=rfl
  have e16:(65536#64).toNat=65536:=rfl
  have e32:(4294967296#64).toNat=4294967296:=rfl
  have es:n >>> (8 * 0)=n:=by simp
  rw [e24,e256,e16,e32]
  unfold hdr
  simp only [beb,byt,es]
  by_cases h1:n.toNat < 24
  ·simp only [h1,decide_true,cond_true]; rfl
  ·by_cases h2:n.toNat < 256
   ·simp only [h1,h2,decide_true,decide_false,cond_true,cond_false]; rfl
   ·by_cases h3:n.toNat < 65536
    ·simp only [h1,h2,h3,decide_true,decide_false,cond_true,cond_false]; rfl
    ·by_cases h4:n.toNat < 4294967296
     ·simp only [h1,h2,h3,h4,decide_true,decide_false,cond_true,cond_false]; rfl
     ·simp only [h1,h2,h3,h4,decide_true,decide_false,cond_true,cond_false]
      rw [Vvn]
      simp only [bindS]
      rw [Vcg (by simp [Vc3])]
      simp only [cond_true,beb,byt,es]
      rfl
 unfold Zcq hdI num isD mj
 by_cases h7:x.kind=7
 ·simp only [h7,decide_true,cond_true]; rfl
 ·by_cases h8:x.kind=8
  ·simp only [h8,decide_true,cond_true]; rfl
  ·by_cases h2:x.kind=2
   ·simp only [h2]; exact key _ _
   ·by_cases h3:x.kind=3
    ·simp only [h3]; exact key _ _
    ·by_cases h4:x.kind=4
     ·simp only [h4]; exact key _ _
     ·by_cases h5:x.kind=5
      ·simp only [h5]; exact key _ _
      ·by_cases h6:x.kind=6
       ·simp only [h6]; exact key _ _
       ·simp only [h2,h3,h4,h5,h6,h7,h8,decide_false,cond_false,Qac]; exact key _ _
theorem Veo (x:ApiItem) (hx:x.data.length < 1000000):Zcc x=some ((),enc x,()):=by
 unfold Zcc enc
 rw [Vyw]
 simp only [bindS]
 rw [Vxj (by have:=(Vjz x).2; omega)]
 rfl
def lss (a b:List UInt8):Bool:=bif decide (a.length=b.length) then Op.bytesLess a b else decide (a.length < b.length)
theorem Vj0 (a b:List UInt8):Zcr a b=some ((),lss a b,()):=by
 unfold Zcr lss
 by_cases h:a.length=b.length
 ·simp [h]
 ·rw [show decide ((a.length:Int)=(b.length:Int))=false by simp; omega,show decide (a.length=b.length)=false by simpa using h]
  simp
theorem Vn7:∀ a b:List UInt8,decide (Lib.compareBytes a b < 0)=Op.bytesLess a b
 | [],[]=>rfl
 | [],_::_=>rfl
 | _::_,[]=>rfl
 | a::x,b::y=>by
  unfold Lib.compareBytes Op.bytesLess
  by_cases h1:a < b
  ·simp [h1]
  ·by_cases h2:b < a
   ·have:a≠b:=fun e=>by subst e; exact absurd h2 h1
    simp [h1,h2,this]
   ·have:a=b:=by
     apply UInt8.toNat_inj.1
     have h1':¬ a.toNat < b.toNat:=h1
     have h2':¬ b.toNat < a.toNat:=h2
     omega
    subst this
    simp [h1,Vn7 x y]
theorem Vpr (a b:List UInt8):Zdn a b=some ((),lss a b,()):=by
 unfold Zdn lss Zdg
 by_cases h:a.length=b.length
 ·rw [show decide ((a.length:Int)=(b.length:Int))=true by simp [h],show decide (a.length=b.length)=true by simpa using h]
  simp only [Qc,cond_false,cond_true,bindS]
  rw [Vn7]
 ·rw [show decide ((a.length:Int)=(b.length:Int))=false by simp; omega,show decide (a.length=b.length)=false by simpa using h]
  simp
def isK (k:Int):Bool:=decide (k=1)||(decide (k=2)||decide (k=4))
def bad (x:ApiItem):Bool:=((isD x.kind||decide (x.kind=8))&&!decide (x.number=0#64))||((decide (x.kind=7)&&decide (1 < x.number.toNat))||(!isD x.kind&&!decide (x.data=[])))
def big (x:ApiItem):Bool:=decide (1024 < x.data.length)||(isN x.kind&&decide (512 < x.number.toNat))
def adm (k:Int) (n d:Nat) (key:Bool):Int:=
 bif decide (512≤n) then 8 else bif !(decide (1≤k)&&decide (k≤8))||(key&&!isK k) then 3 else bif decide (8 < d) then 5 else 0
def acc (x:ApiItem) (key:Bool) (before:List UInt8):Int:=
 bif decide (x.kind=4)&&!Lib.validD x.data then 6 else bif key&&(!before.isEmpty&&!lss before (enc x)) then 7 else 0
def chk (x:ApiItem) (n d:Nat) (key:Bool) (before:List UInt8):Int:=
 bif !decide (adm x.kind n d key=0) then adm x.kind n d key else bif bad x then 4 else bif big x then 8 else acc x key before
theorem Vb2 {l:List UInt8} (h:l.length < 1000000):Zct l=some ((),Lib.validD l,()):=by
 unfold Zct
 rw [show decide (l.length≤9223372036854775807)=true by simp; omega]
 rfl
theorem Vj1 (k:Int):Zce k=some ((),isK k,()):=by
 unfold Zce isK
 cases decide (k=1)<;>cases decide (k=2)<;>rfl
theorem Vlg (k:Int):Zbv k 1 8=some ((),decide (1≤k)&&decide (k≤8),()):=by
 unfold Zbv
 cases decide (1≤k)<;>rfl
theorem kinds (k:Int):k=3∨k=4∨k=5∨k=6∨k=7∨k=8∨(¬ k=3∧¬ k=4∧¬ k=5∧¬ k=6∧¬ k=7∧¬ k=8):=by omega
theorem bindC {α β:Type} (c:Bool) (a b:Option α) (f:α→Option β):(bif c then a else b).bind f=bif c then a.bind f else b.bind f:=by cases c<;>rfl
theorem Vvo (x:ApiItem) (n d:Nat) (key:Bool) (before:List UInt8) (hx:x.data.length < 1000000):Zcd x n d key before=some ((),chk x n d key before,()):=by
  obtain ⟨k,m,l⟩:=x
  have qB:=Veo ⟨k,m,l⟩ hx
  dsimp only at hx
  have qV:=Vb2 hx
  have q1:decide ((512:Int) ≤ (n:Int))=decide (512 ≤ n):=by rw [decide_eq_decide]; omega
  have q2:decide ((8:Int) < (d:Int))=decide (8 < d):=by rw [decide_eq_decide]; omega
  have q3:decide ((1024:Int) < (l.length:Int))=decide (1024 < l.length):=by rw [decide_eq_decide]; omega
  have q4:(512#64).toNat=512:=rfl
  have q5:(1#64).toNat=1:=rfl
  have eb:decide (before=[])=before.isEmpty:=by cases before <;> rfl
  unfold Zcd chk adm acc bad big
  rcases kinds k with rfl | rfl | rfl | rfl | rfl | rfl | ⟨g1,g2,g3,g4,g5,g6⟩
  rotate_right
  · simp only [g1,g2,g3,g4,g5,g6,isD,isN,bindC,bindS,Vlg,Vj1,qV,qB,Vj0,q1,q2,q3,q4,q5,eb,Int.reduceEq,Int.reduceLE,decide_true,decide_false,cond_true,cond_false,Qaw,Qa4,Qav,Qar,Qn,Qo,Q4,Qu,Qc,Qi,Qag,Qac]
    generalize isK k=ik
    generalize decide (1 ≤ k)=w1
    generalize decide (k ≤ 8)=w2
    generalize lss before (enc _)=ls
    generalize before.isEmpty=be
    generalize Lib.validD l=va
    generalize decide (512 ≤ n)=c1
    generalize decide (8 < d)=c2
    generalize decide (1024 < l.length)=c3
    generalize decide (512 < m.toNat)=c4
    generalize decide (1 < m.toNat)=c5
    generalize decide (m=0#64)=c6
    generalize decide (l=[])=c7
    cases c1 <;> first | rfl | (cases w1 <;> first | rfl | (cases w2 <;> first | rfl | (cases key <;> cases ik <;> first | rfl | (cases c2 <;> first | rfl | (cases c7 <;> first | rfl | (cases c3 <;> first | rfl | (cases be <;> cases ls <;> rfl)))))))
  all_goals
    (simp only [isK,isD,isN,bindC,bindS,Vlg,Vj1,qV,qB,Vj0,q1,q2,q3,q4,q5,eb,Int.reduceEq,Int.reduceLE,decide_true,decide_false,cond_true,cond_false,Qaw,Qa4,Qav,Qar,Qn,Qo,Q4,Qu,Qc,Qi,Qag,Qac]
     generalize lss before (enc _)=ls
     generalize before.isEmpty=be
     generalize Lib.validD l=va
     generalize decide (512 ≤ n)=c1
     generalize decide (8 < d)=c2
     generalize decide (1024 < l.length)=c3
     generalize decide (512 < m.toNat)=c4
     generalize decide (1 < m.toNat)=c5
     generalize decide (m=0#64)=c6
     generalize decide (l=[])=c7
     cases c1 <;> first | rfl | (cases key <;> first | rfl | (cases c2 <;> first | rfl | (cases c6 <;> first | rfl | (cases c5 <;> first | rfl | (cases c7 <;> first | rfl | (cases c3 <;> first | rfl | (cases c4 <;> first | rfl | (cases va <;> first | rfl | (cases be <;> cases ls <;> rfl))))))))))
def atK:List CborFrame→Bool
 | []=>false
 | f::_=>f.pairs&&decide (Qbg f.left 2=0)
def lst:List CborFrame→List UInt8
 | []=>[]
 | f::_=>f.last_
def dcr:List CborFrame→List CborFrame
 | []=>[]
 | f::r=>⟨f.pairs,f.left - 1,f.last_⟩::r
def setl (b:List UInt8):List CborFrame→List CborFrame
 | []=>[]
 | f::r=>⟨f.pairs,f.left,b⟩::r
def psh (x:ApiItem) (S:List CborFrame):List CborFrame:=
 bif decide (0 < x.number.toNat) then (bif decide (x.kind=5) then ⟨false,(x.number.toNat:Int),[]⟩::S else bif decide (x.kind=6) then ⟨true,2 * (x.number.toNat:Int),[]⟩::S else S) else S
def pop:List CborFrame→List CborFrame
 | []=>[]
 | f::r=>bif decide (f.left=0) then pop r else f::r
def mrk (x:ApiItem) (S:List CborFrame):List CborFrame:=bif atK S then setl (enc x) S else S
def nxt (x:ApiItem) (S:List CborFrame):List CborFrame:=pop (psh x (dcr (mrk x S)))
theorem Vj2 (r:List CborFrame) (f:CborFrame):(r.reverse++[f])[r.length]? = some f:=by simp
theorem Vqs (r:List CborFrame) (f g:CborFrame):(r.reverse++[f]).set r.length g=r.reverse++[g]:=by
 rw [List.set_append_right _ _ (by simp)]; simp
theorem Vvp (r:List CborFrame) (f:CborFrame):(r.reverse++[f]).take r.length=r.reverse:=by
 rw [Qa3 (by simp)]; simp [Qa6]
theorem Vmz (r:List CborFrame) (f:CborFrame) (h:r.length < 1000000):Qb .i64 (((r.reverse++[f]).length:Int) - 1)=(r.length:Int):=by
 rw [Vac (by simp<;>omega) (by simp<;>omega)]; simp
theorem Vn8 (S:List CborFrame) (n:Int) (hl:S.length < 1000000):Zcx ⟨S.reverse,n⟩=some ((),atK S,()):=by
 unfold Zcx
 cases S with
 | nil=>rfl
 | cons f r=>
  simp only [Q3]
  rw [Vmz r f (by simp at hl; omega)]
  have eg:getI (r.reverse++[f]) (r.length:Int)=some f:=by unfold getI; simp [Vj2]
  rw [eg,show decide ((0:Int) < ((r.reverse++[f]).length:Int))=true by simp<;>omega]
  simp only [cond_true,bindS,atK]
  cases f.pairs<;>rfl
theorem Vm0 (S:List CborFrame) (n:Nat):Zdc ⟨S.reverse,(n:Int)⟩=some ((),decide (0 < n)&&S.isEmpty,()):=by
 unfold Zdc
 cases n with
 | zero=>rfl
 | succ n=>
  rw [show decide ((0:Int) < ((n+1:Nat):Int))=true by simp<;>omega]
  cases S with
  | nil=>rfl
  | cons f r=>
   simp only [cond_true]
   rw [show decide ((((f::r).reverse).length:Int)=0)=false by simp; omega]
   rfl
theorem Vn9 (S:List CborFrame) (n:Nat) (k:Int) (hl:S.length < 1000000):Zcw ⟨S.reverse,(n:Int)⟩ k=some ((),adm k n S.length (atK S),()):=by
 unfold Zcw adm isK
 simp only [Vn8 S n hl,bindS]
 rw [show decide ((512:Int)≤(n:Int))=decide (512≤n) by rw [decide_eq_decide]; omega,show decide ((8:Int) < ((S.reverse).length:Int))=decide (8 < S.length) by rw [decide_eq_decide]; simp; omega,show decide (k < 1) = !decide (1≤k) by rw [← decide_not,decide_eq_decide]; omega,show decide ((8:Int) < k) = !decide (k≤8) by rw [← decide_not,decide_eq_decide]; omega]
 generalize decide (512≤n)=c1
 generalize decide (8 < S.length)=c2
 generalize decide (1≤k)=c3
 generalize decide (k≤8)=c4
 generalize decide (k=1)=c5
 generalize decide (k=2)=c6
 generalize decide (k=4)=c7
 cases c1<;>cases c3<;>cases c4<;>cases atK S<;>cases c2<;>first | rfl | (cases c5<;>cases c6<;>cases c7<;>rfl)
theorem Vqt (x:ApiItem):Zdv x=some ((),!bad x,()):=by
 obtain ⟨k,m,l⟩:=x
 unfold Zdv bad isD
 rw [show (1#64).toNat=1 from rfl]
 dsimp only
 rw [show decide (m.toNat≤1) = !decide (1 < m.toNat) by rw [← decide_not,decide_eq_decide]; omega]
 generalize decide (1 < m.toNat)=c5
 generalize decide (m=0#64)=c6
 generalize decide (l=[])=c7
 rcases kinds k with rfl | rfl | rfl | rfl | rfl | rfl | ⟨g1,g2,g3,g4,g5,g6⟩
 all_goals first | (cases c5<;>cases c6<;>cases c7<;>rfl) | skip
 simp only [g1,g2,g3,g4,g5,g6,decide_false,cond_false,Qa4,Qo,Qar,Qi,Qn]
 cases c7<;>rfl
theorem Vaqa (S:List CborFrame) (n:Int) (hl:S.length < 1000000):Zdd_L0 ((S.reverse,n,()),(S.length:Int),())=some (((pop S).reverse,n,()),()):=by
 unfold Zdd_L0
 rw [Vlb (fun q=>∃ R:List CborFrame,q.1.1=R.reverse∧q.2.1=(R.length:Int)∧R.length < 1000000) (fun q=>q.1.1.length) (fun q=>(((pop q.1.1.reverse).reverse,q.1.2.1,()),()))]
 ·simp
 ·rintro ⟨⟨L,m,u⟩,i,u2⟩ ⟨R,h1,h2,h3⟩
  dsimp only at *
  subst h1; subst h2
  simp only [Zdd_L0b,List.reverse_reverse]
  cases R with
  | nil=>right; rfl
  | cons f r=>
   simp only [Qj] at h3
   simp only [Q3]
   have ei:Qb .i64 (((f::r).length:Int) - 1)=(r.length:Int):=by
    rw [Vac (by simp<;>omega) (by simp<;>omega)]; simp
   rw [ei,show decide ((0:Int) < ((f::r).length:Int))=true by simp<;>omega,show decide ((0:Int)≤(r.length:Int))=true by simp,show decide ((r.length:Int) < ((r.reverse++[f]).length:Int))=true by simp<;>omega,show decide ((r.length:Int)≤((r.reverse++[f]).length:Int))=true by simp<;>omega,Ql,show decide (r.length≤(r.reverse++[f]).length)=true by simp,Vj2,Vvp]
   simp only [Qag,cond_true,bindS,pop]
   cases hf:decide (f.left=0)
   ·right
    simp
   ·left
    simp only [cond_true]
    refine ⟨_,rfl,⟨r,rfl,rfl,by omega⟩,by simp,by simp⟩
 ·exact ⟨S,rfl,rfl,hl⟩
 ·rw [Vae]; dsimp only; simp; omega
theorem Vm1 (S:List CborFrame) (n:Nat) (x:ApiItem) (hl:S.length < 100000) (hn:n < 1000000) (hw:∀ f ∈ S,-10 ≤ f.left ∧ f.left ≤ 2000) (hx:isN x.kind=true → x.number.toNat ≤ 512):Zdd (S.reverse,(n:Int),()) x=some ((((pop (psh x (dcr S))).reverse,((n + 1:Nat):Int),()),()),()):=by
  have e1:∀ (L:List CborFrame) (c:Int),L=(dcr S).reverse → c=((n + 1:Nat):Int) → ((some ((L,c,()),(x,()),()):Option (((List (CborFrame)) × Int × Unit) × (ApiItem × Unit) × Unit)).bind (fun (j4:(((List (CborFrame)) × Int × Unit) × (ApiItem × Unit) × Unit))=>((bif (decide (j4.2.1.1.kind=(5:Int))) then (bif (decide ((0#64).toNat < j4.2.1.1.number.toNat)) then (let v5:List (CborFrame):=([(⟨false,(Qb .i64 (j4.2.1.1.number.toNat:Int)),[]⟩:CborFrame)]:List (CborFrame))
 (bif small ((j4.1.1).length + (v5:List (CborFrame)).length) 40 then (some (((j4.1.1 ++ v5),j4.1.2.1,()),(j4.2.1.1,()),()))
 else none))
 else (some ((j4.1.1,j4.1.2.1,()),(j4.2.1.1,()),())))
 else (some ((j4.1.1,j4.1.2.1,()),(j4.2.1.1,()),()))).bind (fun (j6:(((List (CborFrame)) × Int × Unit) × (ApiItem × Unit) × Unit))=>((bif (decide (j6.2.1.1.kind=(6:Int))) then (bif (decide ((0#64).toNat < j6.2.1.1.number.toNat)) then (let v7:Int:=(Qb .i64 ((2:Int) * (Qb .i64 (j6.2.1.1.number.toNat:Int))))
 (bif small ((j6.1.1).length + (([(⟨true,v7,[]⟩:CborFrame)]:List (CborFrame)):List (CborFrame)).length) 40 then (let v8:List (CborFrame):=(j6.1.1 ++ ([(⟨true,v7,[]⟩:CborFrame)]:List (CborFrame)))
 (some ((v8,j6.1.2.1,()),())))
 else none))
 else (some ((j6.1.1,j6.1.2.1,()),())))
 else (some ((j6.1.1,j6.1.2.1,()),()))).bind (fun (j9:(((List (CborFrame)) × Int × Unit) × Unit))=>((Zdd_L0 ((j9.1.1,j9.1.2.1,()),((j9.1.1).length:Int),())).bind (fun (z11:(((List (CborFrame)) × Int × Unit) × Unit))=>(some (((z11.1.1,z11.1.2.1,()),()),()))))))))))=some ((((pop (psh x (dcr S))).reverse,((n + 1:Nat):Int),()),()),()):=by
    intro L c hL hc
    subst hL; subst hc
    simp only [bindS]
    have hdl:(dcr S).length=S.length:=by cases S <;> rfl
    have fin:∀ R:List CborFrame,R.length < 1000000 → ((Zdd_L0 ((R.reverse,((n + 1:Nat):Int),()),((R.reverse).length:Int),())).bind (fun (z11:(((List (CborFrame)) × Int × Unit) × Unit))=>(some (((z11.1.1,z11.1.2.1,()),()),()))))=some ((((pop R).reverse,((n + 1:Nat):Int),()),()),()):=by
      intro R hR
      rw [List.length_reverse,Vaqa R _ hR]
      simp only [bindS]
    rw [show (0#64).toNat=0 from rfl]
    unfold psh
    by_cases h0:0 < x.number.toNat
    · by_cases h5:x.kind=5
      · have hm:=hx (by simp [isN,h5])
        simp only [h0,h5,decide_true,cond_true,Int.reduceEq,decide_false,cond_false]
        rw [Vqq (by simp [hdl]; omega),Vac (n:=(x.number.toNat:Int)) (by omega) (by omega)]
        simp only [cond_true,bindS,h5,Int.reduceEq,decide_false,cond_false]
        have:=fin (⟨false,(x.number.toNat:Int),[]⟩ :: dcr S) (by simp [hdl]; omega)
        rw [Q3] at this
        exact this
      · by_cases h6:x.kind=6
        · have hm:=hx (by simp [isN,h6])
          simp only [h0,h6,decide_true,cond_true,Int.reduceEq,decide_false,cond_false,bindS]
          rw [Vqq (by simp [hdl]; omega),Vac (n:=(x.number.toNat:Int)) (by omega) (by omega),Vac (n:=2 * (x.number.toNat:Int)) (by omega) (by omega)]
          simp only [cond_true,bindS]
          have:=fin (⟨true,2 * (x.number.toNat:Int),[]⟩ :: dcr S) (by simp [hdl]; omega)
          rw [Q3] at this
          exact this
        · simp only [h0,h5,h6,decide_true,decide_false,cond_true,cond_false,bindS]
          exact fin _ (by rw [hdl]; omega)
    · simp only [h0,decide_false,cond_false]
      by_cases h5:x.kind=5
      · simp only [h0,h5,decide_true,decide_false,cond_true,cond_false,bindS,Int.reduceEq]
        exact fin _ (by rw [hdl]; omega)
      · by_cases h6:x.kind=6
        · simp only [h0,h6,decide_true,decide_false,cond_true,cond_false,bindS,Int.reduceEq]
          exact fin _ (by rw [hdl]; omega)
        · simp only [h0,h5,h6,decide_true,decide_false,cond_true,cond_false,bindS]
          exact fin _ (by rw [hdl]; omega)
  unfold Zdd
  dsimp only
  rw [Vac (n:=(n:Int) + 1) (by omega) (by omega)]
  cases S with
  | nil=>exact e1 [] _ rfl (by omega)
  | cons f r=>
    simp only [Qj] at hl
    have hf:=hw f (by simp)
    simp only [Q3]
    rw [Vmz r f (by omega),show decide ((0:Int) < ((r.reverse ++ [f]).length:Int))=true by simp <;> omega,show decide ((0:Int) ≤ (r.length:Int))=true by simp,show decide ((r.length:Int) < ((r.reverse ++ [f]).length:Int))=true by simp <;> omega,Ql,Vj2]
    simp only [Qag,cond_true,bindS]
    rw [Vqs,Vac (n:=f.left - 1) (by omega) (by omega)]
    have:=e1 (r.reverse ++ [⟨f.pairs,f.left - 1,f.last_⟩]) ((n:Int) + 1) (by simp [dcr]) (by omega)
    simp only [bindS] at this
    exact this
def accK (a0:((List (CborFrame)) × Int × Unit)) (a1:ApiItem):Option ((((List (CborFrame)) × Int × Unit) × Unit) × (Int × Unit)):=((Zcx (⟨a0.1,a0.2.1⟩:CborWalk)).bind fun r14=>(bif r14.2.1 then (bif (decide ((0:Int) ≤ (Qb .i64 (((a0.1).length:Int) - (1:Int)))) && decide ((Qb .i64 (((a0.1).length:Int) - (1:Int))) < ((a0.1).length:Int))) then ((Zcv [] a1).bind fun r15=>(((a0.1)[((Qb .i64 (((a0.1).length:Int) - (1:Int)))).toNat]?).bind fun x16=>(bif (!(x16.last_).isEmpty) then (((a0.1)[((Qb .i64 (((a0.1).length:Int) - (1:Int)))).toNat]?).bind fun x17=>((Zdn x17.last_ r15.2.1).bind fun r18=>(bif (!r18.2.1) then (some (((a0.1,a0.2.1,()),()),((7:Int),())))
 else (((a0.1)[((Qb .i64 (((a0.1).length:Int) - (1:Int)))).toNat]?).bind fun x19=>(bif (r15.2.1).isEmpty then none
 else (let v20:List (CborFrame):=(List.set a0.1 ((Qb .i64 (((a0.1).length:Int) - (1:Int)))).toNat (⟨x19.pairs,x19.left,r15.2.1⟩:CborFrame))
 ((Zdd (v20,a0.2.1,()) a1).bind fun r21=>(some (((r21.1.1.1,r21.1.1.2.1,()),()),((0:Int),()))))))))))
 else (((a0.1)[((Qb .i64 (((a0.1).length:Int) - (1:Int)))).toNat]?).bind fun x22=>(bif (r15.2.1).isEmpty then none
 else (let v23:List (CborFrame):=(List.set a0.1 ((Qb .i64 (((a0.1).length:Int) - (1:Int)))).toNat (⟨x22.pairs,x22.left,r15.2.1⟩:CborFrame))
 ((Zdd (v23,a0.2.1,()) a1).bind fun r24=>(some (((r24.1.1.1,r24.1.1.2.1,()),()),((0:Int),()))))))))))
 else none)
 else ((Zdd (a0.1,a0.2.1,()) a1).bind fun r25=>(some (((r25.1.1.1,r25.1.1.2.1,()),()),((0:Int),()))))))
theorem Vqu (a0:((List (CborFrame))×Int×Unit)) (a1:ApiItem):Zci a0 a1=bif decide (a1.kind=4) then ((Zct a1.data).bind fun r1=>bif !r1.2.1 then some (((a0.1,a0.2.1,()),()),((6:Int),())) else accK a0 a1) else accK a0 a1:=rfl
def res (S S':List CborFrame) (n:Nat) (e:Int):(((List (CborFrame))×Int×Unit)×Unit)×(Int×Unit):=bif decide (e=0) then (((S'.reverse,((n+1:Nat):Int),()),()),(e,())) else (((S.reverse,(n:Int),()),()),(e,()))
theorem Vyx (S:List CborFrame) (n:Nat) (x:ApiItem) (hk:kin x) (hd:x.data.length < 100000) (hl:S.length < 100000) (hn:n < 1000000) (hw:∀ f∈S,-10≤f.left∧f.left≤2000) (hx:isN x.kind=true→x.number.toNat≤512) :
  accK (S.reverse,(n:Int),()) x=some (res S (nxt x S) n (bif atK S&&(!(lst S).isEmpty&&!lss (lst S) (enc x)) then 7 else 0)):=by
 unfold accK
 dsimp only
 rw [Vn8 S n (by omega)]
 simp only [bindS]
 cases S with
 | nil=>
  have e:atK ([]:List CborFrame)=false:=rfl
  rw [e]
  have:=Vm1 [] n x (by simp) hn (by simp) hx
  simp only [cond_false,Qo]
  rw [this]
  rfl
 | cons f r=>
  simp only [Qj] at hl
  cases ha:atK (f::r)
  ·simp only [cond_false,Qo]
   rw [Vm1 (f::r) n x (by simp; omega) hn hw hx]
   simp [res,nxt,mrk,ha]
  ·simp only [cond_true,Qn,Q3]
   rw [Vmz r f (by omega),show decide ((0:Int)≤(r.length:Int))=true by simp,show decide ((r.length:Int) < ((r.reverse++[f]).length:Int))=true by simp<;>omega,Ql,Vj2,Vfe [] x hk (by simp) (by omega)]
   simp only [Qag,cond_true,bindS,Qam,lst,Vqs]
   have he:(enc x).isEmpty=false:=by
    cases h:enc x with
    | nil=>exact absurd h (Vapa x)
    | cons _ _=>rfl
   have hst:=Vm1 (⟨f.pairs,f.left,enc x⟩::r) n x (by simp; omega) hn (by
    intro g hg
    rcases List.mem_cons.1 hg with rfl | hg
    ·exact hw f (by simp)
    ·exact hw g (by simp [hg])) hx
   simp only [Q3] at hst
   rw [he,Vpr]
   simp only [bindS,cond_false]
   rw [hst]
   have hnx:nxt x (f::r)=pop (psh x (dcr (⟨f.pairs,f.left,enc x⟩::r))):=by
    unfold nxt mrk
    rw [ha]; rfl
   rw [hnx]
   cases f.last_.isEmpty
   ·simp only [Qi,cond_true,Qn]
    cases lss f.last_ (enc x)
    ·simp [res]
    ·simp [res]
   ·simp [res]
theorem Vff (S:List CborFrame) (n:Nat) (x:ApiItem) (hk:kin x) (hd:x.data.length < 100000) (hl:S.length < 100000) (hn:n < 1000000) (hw:∀ f∈S,-10≤f.left∧f.left≤2000) (hx:isN x.kind=true→x.number.toNat≤512) :
  Zci (S.reverse,(n:Int),()) x=some (res S (nxt x S) n (acc x (atK S) (lst S))):=by
 rw [Vqu,Vyx S n x hk hd hl hn hw hx,Vb2 (by omega)]
 unfold acc
 simp only [bindS]
 cases decide (x.kind=4)
 ·simp
 ·cases Lib.validD x.data
  ·simp [res]
  ·simp
theorem Voa {x:ApiItem} {n d:Nat} {key:Bool} (h1:adm x.kind n d key=0) (h2:bad x=false):kin x:=by
 unfold adm at h1
 cases hc:decide (512≤n)
 ·rw [hc] at h1
  cases hk:(!(decide (1≤x.kind)&&decide (x.kind≤8))||(key&&!isK x.kind))
  ·simp only [Qq,Q9,Qh,decide_eq_true_eq] at hk
   refine ⟨hk.1.1,hk.1.2,fun h=>?_⟩
   unfold bad at h2
   simp only [h,Qq,Qi,Qn,Q9,decide_eq_true_eq] at h2
   exact h2.2.2
  ·rw [hk] at h1; simp at h1
 ·rw [hc] at h1; simp at h1
theorem Vyy (S:List CborFrame) (n:Nat) (x:ApiItem) (hd:x.data.length < 100000) (hl:S.length < 100000) (hn:n < 1000000) (hw:∀ f∈S,-10≤f.left∧f.left≤2000) :
  Zbx (S.reverse,(n:Int),()) x=some (res S (nxt x S) n (bif decide (0 < n)&&S.isEmpty then 2 else chk x n S.length (atK S) (lst S))):=by
 unfold Zbx
 dsimp only
 rw [Vm0,Vn9 S n x.kind (by omega),Vqt]
 simp only [bindS]
 cases decide (0 < n)&&S.isEmpty
 ·simp only [cond_false]
  unfold chk
  by_cases h1:adm x.kind n S.length (atK S)=0
  ·rw [show decide (adm x.kind n S.length (atK S)=0)=true by simpa using h1]
   simp only [Qc,cond_false,Bool.not_not]
   cases hb:bad x
   ·have hk := Voa h1 hb
    simp only [cond_false]
    unfold big isN
    rw [show decide ((1024:Int) < (x.data.length:Int))=decide (1024 < x.data.length) by rw [decide_eq_decide]; omega,show (512#64).toNat=512 from rfl]
    cases decide (1024 < x.data.length)
    ·simp only [cond_false,Qar]
     by_cases h5:x.kind=5
     ·by_cases hm:512 < x.number.toNat
      ·simp [h5,hm,res]
      ·rw [Vff S n x hk hd hl hn hw (fun _=>by omega)]
       simp only [h5,hm,decide_true,decide_false,cond_true,cond_false,bindS,Qav,Qu]
     ·by_cases h6:x.kind=6
      ·by_cases hm:512 < x.number.toNat
       ·simp [h6,hm,res]
       ·rw [Vff S n x hk hd hl hn hw (fun _=>by omega)]
        simp only [h6,hm,decide_true,decide_false,cond_true,cond_false,bindS,Qaw,Qu,Int.reduceEq]
      ·rw [Vff S n x hk hd hl hn hw (fun h=>by simp [isN,h5,h6] at h)]
       simp only [h5,h6,decide_true,decide_false,cond_true,cond_false,bindS,Qac,Qo]
    ·simp [res]
   ·simp [res]
  ·rw [show decide (adm x.kind n S.length (atK S)=0)=false by simpa using h1]
   simp [res,h1]
 ·simp [res]
def mach {σ:Type} (get:Nat→Nat→Bool→List UInt8→σ→Int×ApiItem×σ):Nat→List CborFrame→Nat→σ→Int×List ApiItem×σ
 | 0,_,_,s=>(99,[],s)
 | f+1,S,n,s=>bif decide (0 < n)&&S.isEmpty then (0,[],s) else bif decide ((get n S.length (atK S) (lst S) s).1=0) then ((mach get f (nxt (get n S.length (atK S) (lst S) s).2.1 S) (n+1) (get n S.length (atK S) (lst S) s).2.2).1,(get n S.length (atK S) (lst S) s).2.1::(mach get f (nxt (get n S.length (atK S) (lst S) s).2.1 S) (n+1) (get n S.length (atK S) (lst S) s).2.2).2.1,(mach get f (nxt (get n S.length (atK S) (lst S) s).2.1 S) (n+1) (get n S.length (atK S) (lst S) s).2.2).2.2) else ((get n S.length (atK S) (lst S) s).1,[],s)
theorem Vfg {σ:Type} {get:Nat→Nat→Bool→List UInt8→σ→Int×ApiItem×σ} {f n:Nat} {s:σ} (hn:0 < n):mach get (f+1) [] n s=(0,[],s):=by
 unfold mach
 simp [hn]
theorem Vdh {σ:Type} {get:Nat→Nat→Bool→List UInt8→σ→Int×ApiItem×σ} {f n:Nat} {s:σ} {S:List CborFrame} {e:Int} {x:ApiItem} {t:σ} (hS:(decide (0 < n)&&S.isEmpty)=false) (hg:get n S.length (atK S) (lst S) s=(e,x,t)) (he:e≠0):mach get (f+1) S n s=(e,[],s):=by
 unfold mach
 rw [hS,hg]
 simp [he]
theorem Vb6 {σ:Type} {get:Nat→Nat→Bool→List UInt8→σ→Int×ApiItem×σ} {f n:Nat} {s:σ} {S:List CborFrame} {x:ApiItem} {t:σ} (hS:(decide (0 < n)&&S.isEmpty)=false) (hg:get n S.length (atK S) (lst S) s=(0,x,t)):mach get (f+1) S n s=((mach get f (nxt x S) (n+1) t).1,x::(mach get f (nxt x S) (n+1) t).2.1,(mach get f (nxt x S) (n+1) t).2.2):=by
 conv=>lhs; unfold mach
 rw [hS,hg]
 simp
def getL (n d:Nat) (key:Bool) (before:List UInt8):List ApiItem→Int×ApiItem×List ApiItem
 | []=>(1,default,[])
 | x::r=>(chk x n d key before,x,r)
def top:List CborFrame→Prop
 | []=>True
 | f::_=>0 < f.left
def WS (S:List CborFrame):Prop:=(∀ f∈S,0≤f.left∧f.left≤1024)∧top S∧S.length≤9
theorem Vqv:∀ {S:List CborFrame} {f:CborFrame},f∈pop S→f∈S
 | g::r,f,h=>by
  unfold pop at h
  cases hg:decide (g.left=0)
  ·rw [hg] at h; exact h
  ·rw [hg] at h; exact List.mem_cons_of_mem _ (Vqv h)
theorem Vqw:∀ S:List CborFrame,(pop S).length≤S.length
 | []=>Nat.le_refl _
 | g::r=>by
  unfold pop
  cases decide (g.left=0)
  ·exact Nat.le_refl _
  ·exact Qal (Vqw r) (Nat.le_succ _)
theorem Vqx:∀ {S:List CborFrame},(∀ f∈S,0≤f.left)→top (pop S)
 | [],_=>trivial
 | g::r,h=>by
  unfold pop
  by_cases hg:g.left=0
  ·simp only [hg,decide_true,cond_true]
   exact Vqx fun f hf=>h f (by simp [hf])
  ·simp only [hg,decide_false,cond_false]
   have:=h g (by simp)
   show 0 < g.left
   omega
theorem Vax {x:ApiItem} {n d:Nat} {key:Bool} {before:List UInt8} (h:chk x n d key before=0):adm x.kind n d key=0∧bad x=false∧big x=false∧acc x key before=0:=by
 unfold chk at h
 by_cases h1:adm x.kind n d key=0
 ·rw [show decide (adm x.kind n d key=0)=true by simpa using h1] at h
  cases h2:bad x
  ·rw [h2] at h
   cases h3:big x
   ·rw [h3] at h
    exact ⟨h1,rfl,rfl,h⟩
   ·rw [h3] at h; simp at h
  ·rw [h2] at h; simp at h
 ·rw [show decide (adm x.kind n d key=0)=false by simpa using h1] at h
  exact absurd h h1
theorem Vbf {k:Int} {n d:Nat} {key:Bool} (h:adm k n d key=0):n < 512∧1≤k∧k≤8∧(key=true→isK k=true)∧d≤8:=by
 unfold adm at h
 by_cases h1:512≤n
 ·rw [show decide (512≤n)=true by simpa using h1] at h; simp at h
 ·rw [show decide (512≤n)=false by simpa using h1] at h
  cases h2:(!(decide (1≤k)&&decide (k≤8))||(key&&!isK k))
  ·rw [h2] at h
   simp only [Qq,Q9,Qh,decide_eq_true_eq,Qap] at h2
   by_cases h3:8 < d
   ·rw [show decide (8 < d)=true by simpa using h3] at h; simp at h
   ·refine ⟨by omega,h2.1.1,h2.1.2,fun hk=>?_,by omega⟩
    rcases h2.2 with q | q
    ·rw [hk] at q; cases q
    ·exact q
  ·rw [h2] at h; simp at h
theorem Vara {S:List CborFrame} {x:ApiItem} (h:WS S) (hd:S.length≤8) (hx:isN x.kind=true→x.number.toNat≤512):WS (nxt x S):=by
 obtain ⟨h1,h2,h3⟩:=h
 have hm:(∀ f∈mrk x S,0≤f.left∧f.left≤1024)∧top (mrk x S)∧(mrk x S).length=S.length:=by
  unfold mrk
  cases atK S
  ·exact ⟨h1,h2,rfl⟩
  ·cases S with
   | nil=>exact ⟨h1,h2,rfl⟩
   | cons f r=>
    refine ⟨?_,h2,rfl⟩
    intro g hg
    rcases List.mem_cons.1 hg with rfl | hg
    ·exact h1 f (by simp)
    ·exact h1 g (by simp [hg])
 unfold nxt
 generalize mrk x S=M at hm ⊢
 obtain ⟨m1,m2,m3⟩:=hm
 have hdc:(∀ f∈dcr M,0≤f.left∧f.left≤1024)∧(dcr M).length=S.length:=by
  cases M with
  | nil=>exact ⟨m1,m3⟩
  | cons f r=>
   refine ⟨?_,m3⟩
   intro g hg
   rcases List.mem_cons.1 hg with rfl | hg
   ·have:=m1 f (by simp)
    have h0:0 < f.left:=m2
    dsimp only
    omega
   ·exact m1 g (by simp [hg])
 have hp : (∀ f∈psh x (dcr M), 0≤f.left∧f.left≤1024)∧(psh x (dcr M)).length≤9 := by
  unfold psh
  by_cases h0:0 < x.number.toNat
  ·rw [show decide (0 < x.number.toNat)=true by simpa using h0]
   by_cases h5:x.kind=5
   ·have:=hx (by simp [isN,h5])
    rw [show decide (x.kind=5)=true by simpa using h5]
    refine ⟨?_,by simp [hdc.2]; omega⟩
    intro g hg
    rcases List.mem_cons.1 hg with rfl | hg
    ·dsimp only; omega
    ·exact hdc.1 g hg
   ·rw [show decide (x.kind=5)=false by simpa using h5]
    by_cases h6:x.kind=6
    ·have:=hx (by simp [isN,h6])
     rw [show decide (x.kind=6)=true by simpa using h6]
     refine ⟨?_,by simp [hdc.2]; omega⟩
     intro g hg
     rcases List.mem_cons.1 hg with rfl | hg
     ·dsimp only; omega
     ·exact hdc.1 g hg
    ·rw [show decide (x.kind=6)=false by simpa using h6]
     exact ⟨hdc.1,by simp [hdc.2]; omega⟩
  ·rw [show decide (0 < x.number.toNat)=false by simpa using h0]
   exact ⟨hdc.1,by simp [hdc.2]; omega⟩
 exact ⟨fun f hf=>hp.1 f (Vqv hf),Vqx fun f hf=>(hp.1 f hf).1,Qal (Vqw _) hp.2⟩
theorem Vb7 {x:ApiItem} (h:big x=false):x.data.length≤1024∧(isN x.kind=true→x.number.toNat≤512):=by
 unfold big at h
 simp only [Qq,decide_eq_false_iff_not,Qap] at h
 refine ⟨by omega,fun hk=>?_⟩
 rcases h.2 with q | q
 ·rw [hk] at q; cases q
 ·omega
theorem Vxk {S:List CborFrame} {x:ApiItem} {n:Nat} (h:WS S) (hc:chk x n S.length (atK S) (lst S)=0):WS (nxt x S):=by
 obtain ⟨c1,c2,c3,c4⟩:=Vax hc
 exact Vara h (Vbf c1).2.2.2.2 (Vb7 c3).2
def valE (m:Int×List ApiItem×List ApiItem):Int:=bif !decide (m.1=0) then m.1 else bif m.2.2.isEmpty then 0 else 2
def valO (l:List ApiItem):Int:=valE (mach getL 600 [] 0 l)
theorem Vcn (l:List ApiItem) (hl:l.length < 1000000) (hd:∀ x ∈ l,x.data.length < 100000):Zdh l=some ((),valO l,()):=by
  have key:∀ (r:List ApiItem) (S:List CborFrame) (n f fuel:Nat),l.drop n=r → n ≤ l.length → WS S → r.length < f → 600 ≤ fuel + n → 0 < fuel →
      (iter (fun (y:(((List (CborFrame)) × Int × Unit) × (List (ApiItem)) × Int × Int × Unit))=>Zdh_L0b y.1 y.2.1 y.2.2.1 y.2.2.2.1) f ((S.reverse,(n:Int),()),l,(l.length:Int),(n:Int),())).bind (Qai (fun (z3:(Int × Unit))=>(some ((),(z3.1,())))) (fun (z4:(((List (CborFrame)) × Int × Unit) × Unit))=>((Zdc (⟨z4.1.1,z4.1.2.1⟩:CborWalk)).bind fun r5=>(bif (!r5.2.1) then (some ((),((1:Int),()))) else (some ((),((0:Int),())))))))=some ((),valE (mach getL fuel S n r),()):=by
    intro r
    induction r with
    | nil=>
      intro S n f fuel hr hn hS hf hfu hfu0
      have hnl:n=l.length:=by
        have:=congrArg List.length hr
        simp at this
        omega
      obtain ⟨f,rfl⟩:∃ g,f=g + 1:=⟨f - 1,by omega⟩
      obtain ⟨fuel,rfl⟩:∃ g,fuel=g + 1:=⟨fuel - 1,by omega⟩
      rw [Vad]
      have e1:Zdh_L0b (S.reverse,(n:Int),()) l (l.length:Int) (n:Int)=some (.inr (.inr ((S.reverse,(n:Int),()),()))):=by
        unfold Zdh_L0b
        rw [show decide ((n:Int) < (l.length:Int))=false by simp; omega]
        rfl
      dsimp only
      rw [e1,bindS,Qak,bindS,Qak]
      dsimp only
      rw [Vm0,bindS]
      dsimp only
      cases hS2:(decide (0 < n) && S.isEmpty)
      · rw [Vdh hS2 (show getL n S.length (atK S) (lst S) []=(1,default,[]) from rfl) (by decide)]
        rfl
      · simp only [Qh,decide_eq_true_eq,Qa2] at hS2
        obtain ⟨q1,rfl⟩:=hS2
        rw [Vfg q1]
        rfl
    | cons x r ih=>
      intro S n f fuel hr hn hS hf hfu hfu0
      have hnl:n < l.length:=by
        have:=congrArg List.length hr
        simp at this
        omega
      have hx:l[n]? = some x:=by
        have:=congrArg (·[0]?) hr
        simpa using this
      have hr2:l.drop (n + 1)=r:=by
        have:=congrArg (Q6 1) hr
        simpa [Qx] using this
      obtain ⟨f,rfl⟩:∃ g,f=g + 1:=⟨f - 1,by omega⟩
      obtain ⟨fuel,rfl⟩:∃ g,fuel=g + 1:=⟨fuel - 1,by omega⟩
      rw [Vad]
      have hit:=Vyy S n x (hd x (Q1 hx)) (by have:=hS.2.2; omega) (by omega) (fun g hg=>by have:=hS.1 g hg; omega)
      have eg:getI l (n:Int)=some x:=by unfold getI; simp [hx]
      have e1:Zdh_L0b (S.reverse,(n:Int),()) l (l.length:Int) (n:Int)=(bif (!decide ((res S (nxt x S) n (bif decide (0 < n) && S.isEmpty then 2 else chk x n S.length (atK S) (lst S))).2.1=(0:Int))) then (some (Qae (Q7 ((res S (nxt x S) n (bif decide (0 < n) && S.isEmpty then 2 else chk x n S.length (atK S) (lst S))).2.1,()))))
 else (some (Q7 (((res S (nxt x S) n (bif decide (0 < n) && S.isEmpty then 2 else chk x n S.length (atK S) (lst S))).1.1.1,(res S (nxt x S) n (bif decide (0 < n) && S.isEmpty then 2 else chk x n S.length (atK S) (lst S))).1.1.2.1,()),l,(l.length:Int),(n:Int) + 1,())))):=by
        unfold Zdh_L0b
        rw [show decide ((n:Int) < (l.length:Int))=true by simp; omega,eg,Vac (n:=(n:Int) + 1) (by omega) (by omega)]
        simp only [cond_true,bindS]
        rw [hit]
        simp only [bindS]
      dsimp only
      rw [e1]
      cases hS2:(decide (0 < n) && S.isEmpty)
      · simp only [cond_false]
        by_cases hc:chk x n S.length (atK S) (lst S)=0
        · have em:mach getL (fuel + 1) S n (x :: r)=_:=Vb6 hS2 (show getL n S.length (atK S) (lst S) (x :: r)=(0,x,r) by simp [getL,hc])
          rw [em]
          have hn512:=(Vbf (Vax hc).1).1
          have:=ih (nxt x S) (n + 1) f fuel hr2 (by omega) (Vxk hS hc) (by simp at hf; omega) (by omega) (by omega)
          unfold res
          rw [hc]
          simp only [decide_true,cond_true,Qc,cond_false,bindS,Qp]
          rw [show ((n:Int) + 1)=((n + 1:Nat):Int) by omega]
          exact this
        · rw [Vdh hS2 (show getL n S.length (atK S) (lst S) (x :: r)=(chk x n S.length (atK S) (lst S),x,r) from rfl) hc]
          unfold res valE
          simp [hc]
      · simp only [cond_true]
        have hS3:=hS2
        simp only [Qh,decide_eq_true_eq,Qa2] at hS3
        obtain ⟨q1,rfl⟩:=hS3
        rw [Vfg q1]
        rfl
  unfold Zdh Zdh_L0 valO
  exact key l [] 0 rounds 600 (by simp) (by simp) ⟨by simp,trivial,by simp⟩ (by rw [Vae]; omega) (by omega) (by omega)
abbrev Res (σ:Type):=Int×List ApiItem×σ
def LA {σ:Type} (rec:σ→Nat→Res σ):Nat→σ→Nat→Res σ
 | 0,s,_=>(0,[],s)
 | k+1,s,n=>bif decide ((rec s n).1=0) then ((LA rec k (rec s n).2.2 (n+(rec s n).2.1.length)).1,(rec s n).2.1++(LA rec k (rec s n).2.2 (n+(rec s n).2.1.length)).2.1,(LA rec k (rec s n).2.2 (n+(rec s n).2.1.length)).2.2) else ((rec s n).1,[],s)
def LM {σ:Type} (recK:σ→Nat→List UInt8→Res σ) (recV:σ→Nat→Res σ):Nat→σ→Nat→List UInt8→Res σ
 | 0,s,_,_=>(0,[],s)
 | k+1,s,n,last=>
  let a:=recK s n last
  bif decide (a.1=0) then
   let b:=recV a.2.2 (n+a.2.1.length)
   bif decide (b.1=0) then
    let q:=LM recK recV k b.2.2 (n+a.2.1.length+b.2.1.length) (enc (a.2.1.headD default))
    (q.1,a.2.1++(b.2.1++q.2.1),q.2.2)
   else (b.1,[],s)
  else (a.1,[],s)
def W {σ:Type} (get:Nat→Nat→Bool→List UInt8→σ→Int×ApiItem×σ):Nat→σ→Nat→Nat→Bool→List UInt8→Res σ
 | 0,s,_,_,_,_=>(99,[],s)
 | f+1,s,n,d,key,before=>
  let g:=get n d key before s
  bif decide (g.1=0) then
   let q:=bif decide (g.2.1.kind=5) then LA (fun s n=>W get f s n (d+1) false []) g.2.1.number.toNat g.2.2 (n+1)
    else bif decide (g.2.1.kind=6) then LM (fun s n last=>W get f s n (d+1) true last) (fun s n=>W get f s n (d+1) false []) g.2.1.number.toNat g.2.2 (n+1) []
    else (0,[],g.2.2)
   (q.1,g.2.1::q.2.1,q.2.2)
  else (g.1,[],s)
structure GetOk {σ:Type} (get:Nat→Nat→Bool→List UInt8→σ→Int×ApiItem×σ):Prop where
 small:∀ {n d:Nat} {k:Bool} {b:List UInt8} {s:σ} {x:ApiItem} {t:σ},get n d k b s=(0,x,t)→n < 512∧d≤8∧(isN x.kind=true→x.number.toNat≤512)
 free:∀ (n d:Nat) (b b':List UInt8) (s:σ),get n d false b s=get n d false b' s
def Goes {σ:Type} (get:Nat→Nat→Bool→List UInt8→σ→Int×ApiItem×σ) (m:Nat) (S:List CborFrame) (n:Nat) (s:σ) (w:Res σ) (T:List CborFrame):Prop:=
 (w.1≠0→(mach get m S n s).1=w.1) ∧
 (w.1=0→n+w.2.1.length≤512∧mach get m S n s=((mach get (m - w.2.1.length) T (n+w.2.1.length) w.2.2).1,w.2.1++(mach get (m - w.2.1.length) T (n+w.2.1.length) w.2.2).2.1,(mach get (m - w.2.1.length) T (n+w.2.1.length) w.2.2).2.2))
theorem Goes.trans {σ:Type} {get:Nat→Nat→Bool→List UInt8→σ→Int×ApiItem×σ} {m n:Nat} {S T U:List CborFrame} {s:σ} {a b:Res σ} (h1:Goes get m S n s a T) (ha:a.1=0) (h2:Goes get (m - a.2.1.length) T (n+a.2.1.length) a.2.2 b U):Goes get m S n s (b.1,a.2.1++b.2.1,b.2.2) U:=by
 obtain ⟨_,h1⟩:=h1
 obtain ⟨i1,i2⟩:=h1 ha
 refine ⟨fun hb=>?_,fun hb=>?_⟩
 ·rw [i2]; exact h2.1 hb
 ·obtain ⟨j1,j2⟩:=h2.2 hb
  dsimp only at *
  refine ⟨by rw [Qa]; omega,?_⟩
  rw [i2,j2,Qa,Nat.sub_sub,Qas,Qd]
theorem Goes.fail {σ:Type} {get:Nat→Nat→Bool→List UInt8→σ→Int×ApiItem×σ} {m n:Nat} {S T U:List CborFrame} {s:σ} {a:Res σ} {e:Int} {o:List ApiItem} {t:σ} (h1:Goes get m S n s a T) (ha:a.1≠0) (he:e=a.1):Goes get m S n s (e,o,t) U:=by
 subst he
 exact ⟨fun _=>h1.1 ha,fun h=>absurd h ha⟩
theorem Goes.fail2 {σ:Type} {get:Nat→Nat→Bool→List UInt8→σ→Int×ApiItem×σ} {m n:Nat} {S T U V:List CborFrame} {s:σ} {a b:Res σ} {o:List ApiItem} {t:σ} (h1:Goes get m S n s a T) (ha:a.1=0) (h2:Goes get (m - a.2.1.length) T (n+a.2.1.length) a.2.2 b U) (hb:b.1≠0):Goes get m S n s (b.1,o,t) V:=by
 obtain ⟨i1,i2⟩:=h1.2 ha
 refine ⟨fun _=>?_,fun h=>absurd h hb⟩
 rw [i2]; exact h2.1 hb
theorem Goes.nil {σ:Type} {get:Nat→Nat→Bool→List UInt8→σ→Int×ApiItem×σ} {m n:Nat} {S:List CborFrame} {s:σ} (hn:n≤512):Goes get m S n s (0,[],s) S:=
 ⟨fun h=>absurd rfl h,fun _=>⟨by simpa using hn,by simp⟩⟩
theorem W_ne {σ:Type} {get:Nat→Nat→Bool→List UInt8→σ→Int×ApiItem×σ} {f:Nat} {s:σ} {n d:Nat} {key:Bool} {b:List UInt8} (h:(W get f s n d key b).1=0):∃ x r,(W get f s n d key b).2.1=x::r:=by
 cases f with
 | zero=>simp [W] at h
 | succ f=>
  unfold W at h ⊢
  dsimp only at h ⊢
  by_cases hg:(get n d key b s).1=0
  ·rw [show decide ((get n d key b s).1=0)=true by simpa using hg]
   exact ⟨_,_,rfl⟩
  ·rw [show decide ((get n d key b s).1=0)=false by simpa using hg] at h
   exact absurd h hg
theorem tmod2 (j:Nat):Qbg (2 * ((j+1:Nat):Int)) 2=0∧Qbg (2 * ((j+1:Nat):Int) - 1) 2=1:=by
 constructor
 ·rw [show (2 * ((j+1:Nat):Int))=((2 * (j+1):Nat):Int) by omega]
  show (((2 * (j+1)) % 2:Nat):Int)=0
  omega
 ·rw [show (2 * ((j+1:Nat):Int) - 1)=((2 * j+1:Nat):Int) by omega]
  show (((2 * j+1) % 2:Nat):Int)=1
  omega
theorem Vxl {σ : Type} {get : Nat→Nat→Bool→List UInt8→σ→Int×ApiItem×σ} (G : GetOk get) : ∀ (f : Nat) (S : List CborFrame) (n m : Nat) (s : σ), WS S→(S = []→n = 0)→10≤f+S.length→600≤m+n→n≤512 →
  Goes get m S n s (W get f s n S.length (atK S) (lst S)) (pop (dcr (mrk ((W get f s n S.length (atK S) (lst S)).2.1.headD default) S)))
 | 0,S,n,m,s,hS,_,hf,_,_=>by have:=hS.2.2; omega
 | f+1, S, n, m, s, hS, hS0, hf, hm, hn => by
  have ih:=Vxl G f
  have hSe:(decide (0 < n)&&S.isEmpty)=false:=by
   cases S with
   | nil=>rw [hS0 rfl]; rfl
   | cons _ _=>simp
  obtain ⟨m,rfl⟩:∃ q,m=q+1:=⟨m - 1,by omega⟩
  unfold W
  dsimp only
  rcases hg:get n S.length (atK S) (lst S) s with ⟨e,x,t⟩
  dsimp only
  by_cases he:e=0
  ·subst he
   simp only [decide_true,cond_true,Qbd]
   obtain ⟨g1,g2,g3⟩:=G.small hg
   have hstep:=Vb6 (f:=m) hSe hg
   have hM:(∀ f∈dcr (mrk x S),0≤f.left∧f.left≤1024)∧(dcr (mrk x S)).length=S.length:=by
    cases S with
    | nil=>exact ⟨by simp [mrk,atK,dcr],rfl⟩
    | cons f r=>
     have h0:0 < f.left:=hS.2.1
     have h1:=hS.1 f (by simp)
     have h2:∀ g∈r,0≤g.left∧g.left≤1024:=fun g hg=>hS.1 g (by simp [hg])
     unfold mrk
     cases atK (f::r)
     ·refine ⟨?_,rfl⟩
      intro g hg
      rcases List.mem_cons.1 hg with rfl | hg
      ·dsimp only; omega
      ·exact h2 g hg
     ·refine ⟨?_,rfl⟩
      intro g hg
      rcases List.mem_cons.1 hg with rfl | hg
      ·dsimp only; omega
      ·exact h2 g hg
   generalize hD:dcr (mrk x S)=D at hM
   obtain ⟨D1,D2⟩:=hM
   have hnx:nxt x S=pop (psh x D):=by unfold nxt; rw [hD]
   rw [hnx] at hstep
   -- the first item is taken
   have h1:Goes get (m+1) S n s (0,[x],t) (pop (psh x D)):=⟨fun h=>absurd rfl h,fun _=>⟨by simp; omega,by
    dsimp only
    rw [hstep]; rfl⟩⟩
   -- a frame over D
   have wsF:∀ (p:Bool) (j:Int) (l:List UInt8),0 < j→j≤1024→WS (⟨p,j,l⟩::D):=fun p j l hj hj2=>⟨fun g hg=>by
    rcases List.mem_cons.1 hg with rfl | hg
    ·dsimp only; omega
    ·exact D1 g hg,hj,by simp [D2]; omega⟩
   have popF:∀ (p:Bool) (j:Int) (l:List UInt8),j≠0→pop (⟨p,j,l⟩::D)=⟨p,j,l⟩::D:=fun p j l hj=>by
    conv=>lhs; unfold pop
    simp [hj]
   have popZ:∀ (p:Bool) (l:List UInt8),pop (⟨p,0,l⟩::D)=pop D:=fun p l=>by
    conv=>lhs; unfold pop
    simp
   have fin:∀ q:Res σ,Goes get m (pop (psh x D)) (n+1) t q (pop D)→Goes get (m+1) S n s (q.1,x::q.2.1,q.2.2) (pop D):=fun q hq=>h1.trans rfl hq
   refine fin _ ?_
   by_cases hk0:0 < x.number.toNat
   ·by_cases h5 : x.kind = 5
    ·have hk := g3 (by simp [isN, h5])
     have hp:pop (psh x D)=⟨false,(x.number.toNat:Int),[]⟩::D:=by
      unfold psh
      simp only [h5,hk0,decide_true,cond_true]
      exact popF _ _ _ (by omega)
     rw [hp]
     simp only [h5,decide_true,cond_true]
     have loop:∀ (k:Nat) (s:σ) (n m:Nat),0 < k→k≤512→600≤m+n→0 < n→n≤512→Goes get m (⟨false,(k:Int),[]⟩::D) n s (LA (fun s n=>W get f s n (S.length+1) false []) k s n) (pop D):=by
      intro k
      induction k with
      | zero=>intro s n m h; omega
      | succ k ihk=>
       intro s n m _ hk2 hm2 hn0 hn2
       have hr:=ih (⟨false,((k+1:Nat):Int),[]⟩::D) n m s (wsF _ _ _ (by omega) (by omega)) (by simp) (by simp [D2]; omega) hm2 hn2
       have ea:atK (⟨false,((k+1:Nat):Int),[]⟩::D)=false:=rfl
       have el:(⟨false,((k+1:Nat):Int),[]⟩::D:List CborFrame).length=S.length+1:=by simp [D2]
       have elst:lst (⟨false,((k+1:Nat):Int),[]⟩::D)=[]:=rfl
       have em:∀ y,pop (dcr (mrk y (⟨false,((k+1:Nat):Int),[]⟩::D)))=pop (⟨false,(k:Int),[]⟩::D):=fun y=>by
        unfold mrk
        rw [ea]
        show pop (⟨false,((k+1:Nat):Int) - 1,[]⟩::D)=_
        rw [show ((k+1:Nat):Int) - 1=(k:Int) by omega]
       rw [ea,el,elst,em] at hr
       unfold LA
       generalize hw:W get f s n (S.length+1) false []=w at hr
       by_cases hw0:w.1=0
       ·rw [show decide (w.1=0)=true by simpa using hw0]
        simp only [cond_true]
        obtain ⟨i1,i2⟩:=hr.2 hw0
        obtain ⟨y,r,hy⟩:=W_ne (get:=get) (f:=f) (s:=s) (n:=n) (d:=S.length+1) (key:=false) (b:=[]) (by rw [hw]; exact hw0)
        rw [hw] at hy
        have hl1:1≤w.2.1.length:=by rw [hy]; simp
        refine hr.trans hw0 ?_
        by_cases hk1:0 < k
        ·rw [popF _ _ _ (by omega)]
         exact ihk w.2.2 (n+w.2.1.length) (m - w.2.1.length) hk1 (by omega) (by omega) (by omega) (by omega)
        ·have:k=0:=by omega
         subst this
         rw [show ((0:Nat):Int)=0 from rfl,popZ]
         exact Goes.nil (by omega)
       ·rw [show decide (w.1=0)=false by simpa using hw0]
        exact hr.fail hw0 rfl
     exact loop _ t (n+1) m hk0 hk (by omega) (by omega) (by omega)
    ·by_cases h6 : x.kind = 6
     ·have hk := g3 (by simp [isN, h6])
      have hp:pop (psh x D)=⟨true,2 * (x.number.toNat:Int),[]⟩::D:=by
       unfold psh
       simp only [h6,hk0,decide_true,cond_true,Int.reduceEq,decide_false,cond_false]
       exact popF _ _ _ (by omega)
      rw [hp]
      simp only [h6,decide_true,cond_true,Int.reduceEq,decide_false,cond_false]
      have loop : ∀ (k : Nat) (s : σ) (n m : Nat) (l : List UInt8), 0 < k→k≤512→600≤m+n→0 < n→n≤512→Goes get m (⟨true, 2 * (k : Int), l⟩::D) n s (LM (fun s n last => W get f s n (S.length+1) true last) (fun s n => W get f s n (S.length+1) false []) k s n l) (pop D) := by
       intro k
       induction k with
       | zero=>intro s n m l h; omega
       | succ k ihk=>
        intro s n m l _ hk2 hm2 hn0 hn2
        obtain ⟨t0,t1⟩:=tmod2 k
        -- the key
        have hr:=ih (⟨true,2 * ((k+1:Nat):Int),l⟩::D) n m s (wsF _ _ _ (by omega) (by omega)) (by simp) (by simp [D2]; omega) hm2 hn2
        have ea:atK (⟨true,2 * ((k+1:Nat):Int),l⟩::D)=true:=by simp only [atK,t0]; rfl
        have el:∀ g:CborFrame,(g::D).length=S.length+1:=fun g=>by simp [D2]
        have elst:lst (⟨true,2 * ((k+1:Nat):Int),l⟩::D)=l:=rfl
        have em:∀ y,pop (dcr (mrk y (⟨true,2 * ((k+1:Nat):Int),l⟩::D)))=⟨true,2 * ((k+1:Nat):Int) - 1,enc y⟩::D:=fun y=>by
         unfold mrk
         rw [ea]
         exact popF true (2 * ((k+1:Nat):Int) - 1) (enc y) (by omega)
        rw [ea,el,elst,em] at hr
        unfold LM
        dsimp only
        generalize hw:W get f s n (S.length+1) true l=w at hr
        by_cases hw0:w.1=0
        ·rw [show decide (w.1=0)=true by simpa using hw0]
         simp only [cond_true]
         obtain ⟨i1,i2⟩:=hr.2 hw0
         obtain ⟨y,r,hy⟩:=W_ne (get:=get) (f:=f) (s:=s) (n:=n) (d:=S.length+1) (key:=true) (b:=l) (by rw [hw]; exact hw0)
         rw [hw] at hy
         have hl1:1≤w.2.1.length:=by rw [hy]; simp
         generalize hky:enc (w.2.1.headD default)=ky at hr
         -- the value
         have hv:=ih (⟨true,2 * ((k+1:Nat):Int) - 1,ky⟩::D) (n+w.2.1.length) (m - w.2.1.length) w.2.2 (wsF _ _ _ (by omega) (by omega)) (by simp) (by simp [D2]; omega) (by omega) (by omega)
         have eb:atK (⟨true,2 * ((k+1:Nat):Int) - 1,ky⟩::D)=false:=by simp only [atK,t1]; rfl
         have eWf:∀ (s:σ) (n:Nat) (b:List UInt8),W get f s n (S.length+1) false b=W get f s n (S.length+1) false []:=fun s n b=>by
          cases f with
          | zero=>rfl
          | succ f=>
           unfold W
           rw [G.free n (S.length+1) b []]
         have em2:∀ y,pop (dcr (mrk y (⟨true,2 * ((k+1:Nat):Int) - 1,ky⟩::D)))=pop (⟨true,2 * (k:Int),ky⟩::D):=fun y=>by
          unfold mrk
          rw [eb]
          show pop (⟨true,2 * ((k+1:Nat):Int) - 1 - 1,ky⟩::D)=_
          rw [show 2 * ((k+1:Nat):Int) - 1 - 1=2 * (k:Int) by omega]
         rw [eb,el,eWf,em2] at hv
         generalize hw2:W get f w.2.2 (n+w.2.1.length) (S.length+1) false []=v at hv
         by_cases hv0:v.1=0
         ·rw [show decide (v.1=0)=true by simpa using hv0]
          simp only [cond_true]
          obtain ⟨p1,p2⟩:=hv.2 hv0
          refine hr.trans hw0 (hv.trans hv0 ?_)
          by_cases hk1:0 < k
          ·rw [popF _ _ _ (by omega)]
           exact ihk v.2.2 (n+w.2.1.length+v.2.1.length) (m - w.2.1.length - v.2.1.length) ky hk1 (by omega) (by omega) (by omega) (by omega)
          ·have:k=0:=by omega
           subst this
           rw [show (2 * ((0:Nat):Int))=0 from rfl,popZ]
           exact Goes.nil (by omega)
         ·rw [show decide (v.1=0)=false by simpa using hv0]
          exact hr.fail2 hw0 hv hv0
        ·rw [show decide (w.1=0)=false by simpa using hw0]
         exact hr.fail hw0 rfl
      exact loop _ t (n+1) m [] hk0 hk (by omega) (by omega) (by omega)
     ·have hp:psh x D=D:=by
       unfold psh
       simp only [h5,h6,decide_false,cond_false]
       cases decide (0 < x.number.toNat)<;>rfl
      rw [hp]
      simp only [h5,h6,decide_false,cond_false]
      exact Goes.nil (by omega)
   ·have hk1:x.number.toNat=0:=by omega
    have hp:psh x D=D:=by
     unfold psh
     simp [hk1]
    rw [hp,hk1]
    have:(bif decide (x.kind=5) then LA (fun s n=>W get f s n (S.length+1) false []) 0 t (n+1) else bif decide (x.kind=6) then LM (fun s n last=>W get f s n (S.length+1) true last) (fun s n=>W get f s n (S.length+1) false []) 0 t (n+1) [] else ((0:Int),([]:List ApiItem),t))=(0,[],t):=by
     cases decide (x.kind=5)<;>cases decide (x.kind=6)<;>rfl
    rw [this]
    exact Goes.nil (by omega)
  ·rw [show decide (e=0)=false by simpa using he]
   simp only [cond_false]
   refine ⟨fun _=>?_,fun h=>absurd h he⟩
   rw [Vdh hSe hg he]
theorem Vob {σ:Type} {get:Nat→Nat→Bool→List UInt8→σ→Int×ApiItem×σ} (G:GetOk get) (f:Nat) (hf:10≤f) (s:σ):((W get f s 0 0 false []).1≠0→(mach get 600 [] 0 s).1=(W get f s 0 0 false []).1)∧((W get f s 0 0 false []).1=0→mach get 600 [] 0 s=W get f s 0 0 false []):=by
 have h:=Vxl G f [] 0 600 s ⟨by simp,trivial,by simp⟩ (fun _=>rfl) (by simpa using hf) (by omega) (by omega)
 refine ⟨fun hw=>h.1 hw,fun hw=>?_⟩
 obtain ⟨h1,h2⟩:=h.2 hw
 obtain ⟨x,r,hx⟩:=W_ne hw
 have:mach get 600 [] 0 s=_:=h2
 rw [this]
 have e:pop (dcr (mrk ((W get f s 0 ([]:List CborFrame).length (atK []) (lst [])).2.1.headD default) []))=[]:=rfl
 rw [e]
 have hl:0 < (W get f s 0 0 false []).2.1.length:=by rw [hx]; simp
 have hl2:0+(W get f s 0 0 false []).2.1.length≤512:=h1
 show (_,_,_)=_
 have hd:=Vfg (get:=get) (f:=600 - (W get f s 0 0 false []).2.1.length - 1) (n:=0+(W get f s 0 0 false []).2.1.length) (s:=(W get f s 0 0 false []).2.2) (by omega)
 rw [show 600 - (W get f s 0 0 false []).2.1.length - 1+1=600 - (W get f s 0 0 false []).2.1.length by omega] at hd
 have e2:(W get f s 0 ([]:List CborFrame).length (atK []) (lst []))=W get f s 0 0 false []:=rfl
 rw [e2,hd]
 simp only [Qy]
 rw [← hw]
theorem Vm2:GetOk getL:=by
 constructor
 ·intro n d k b s x t h
  cases s with
  | nil=>simp [getL] at h
  | cons y r=>
   simp only [getL,Qf] at h
   obtain ⟨h1,rfl,rfl⟩:=h
   obtain ⟨c1,c2,c3,c4⟩:=Vax h1
   exact ⟨(Vbf c1).1,(Vbf c1).2.2.2.2,(Vb7 c3).2⟩
 ·intro n d b b' s
  cases s with
  | nil=>rfl
  | cons y r=>
   have:chk y n d false b=chk y n d false b':=by unfold chk acc; simp
   simp [getL,this]
theorem Vhe:∀ (f:Nat) (s:List ApiItem) (n d:Nat) (key:Bool) (b:List UInt8),(W getL f s n d key b).1=0→s=(W getL f s n d key b).2.1++(W getL f s n d key b).2.2
 | 0,s,n,d,key,b,h=>by simp [W] at h
 | f+1, s, n, d, key, b, h => by
  have ih:=Vhe f
  unfold W at h ⊢
  dsimp only at h ⊢
  rcases hg:getL n d key b s with ⟨e,x,t⟩
  rw [hg] at h
  dsimp only at h ⊢
  by_cases he:e=0
  ·subst he
   simp only [decide_true,cond_true] at h ⊢
   have hs:s=x::t:=by
    cases s with
    | nil=>simp [getL] at hg
    | cons y r=>
     simp only [getL,Qf] at hg
     rw [hg.2.1,hg.2.2]
   rw [hs,Qs]
   congr 1
   by_cases h5:x.kind=5
   ·simp only [h5,decide_true,cond_true] at h ⊢
    have loop:∀ (k:Nat) (t:List ApiItem) (n:Nat),(LA (fun s n=>W getL f s n (d+1) false []) k t n).1=0→t=(LA (fun s n=>W getL f s n (d+1) false []) k t n).2.1++(LA (fun s n=>W getL f s n (d+1) false []) k t n).2.2:=by
     intro k
     induction k with
     | zero=>intro t n _; rfl
     | succ k ihk=>
      intro t n h
      unfold LA at h ⊢
      have i1:=ih t n (d+1) false []
      generalize W getL f t n (d+1) false []=w at h i1 ⊢
      by_cases hw:w.1=0
      ·rw [show decide (w.1=0)=true by simpa using hw] at h ⊢
       simp only [cond_true] at h ⊢
       rw [Qd,← ihk _ _ h]
       exact i1 hw
      ·rw [show decide (w.1=0)=false by simpa using hw] at h
       exact absurd h hw
    exact loop _ _ _ h
   ·by_cases h6:x.kind=6
    ·simp only [h6,decide_true,cond_true,Int.reduceEq,decide_false,cond_false] at h ⊢
     have loop:∀ (k:Nat) (t:List ApiItem) (n:Nat) (l:List UInt8),(LM (fun s n last=>W getL f s n (d+1) true last) (fun s n=>W getL f s n (d+1) false []) k t n l).1=0→t=(LM (fun s n last=>W getL f s n (d+1) true last) (fun s n=>W getL f s n (d+1) false []) k t n l).2.1++(LM (fun s n last=>W getL f s n (d+1) true last) (fun s n=>W getL f s n (d+1) false []) k t n l).2.2:=by
      intro k
      induction k with
      | zero=>intro t n l _; rfl
      | succ k ihk=>
       intro t n l h
       unfold LM at h ⊢
       dsimp only at h ⊢
       have i1:=ih t n (d+1) true l
       generalize W getL f t n (d+1) true l=w at h i1 ⊢
       by_cases hw:w.1=0
       ·rw [show decide (w.1=0)=true by simpa using hw] at h ⊢
        simp only [cond_true] at h ⊢
        have i2:=ih w.2.2 (n+w.2.1.length) (d+1) false []
        generalize W getL f w.2.2 (n+w.2.1.length) (d+1) false []=v at h i2 ⊢
        by_cases hv:v.1=0
        ·rw [show decide (v.1=0)=true by simpa using hv] at h ⊢
         simp only [cond_true] at h ⊢
         rw [Qd,Qd,← ihk _ _ _ h,← i2 hv]
         exact i1 hw
        ·rw [show decide (v.1=0)=false by simpa using hv] at h
         exact absurd h hv
       ·rw [show decide (w.1=0)=false by simpa using hw] at h
        exact absurd h hw
     exact loop _ _ _ _ h
    ·simp only [h5,h6,decide_false,cond_false]
     rfl
  ·rw [show decide (e=0)=false by simpa using he] at h
   exact absurd h he
def Zr (w:Res (List ApiItem)) (n:Nat) (z:(Int×Int×Unit)⊕(Int×Unit)):Prop:=(w.1=0→z = .inr (((n+w.2.1.length:Nat):Int),()))∧(w.1≠0→∃ j,z = .inl (j,w.1,()))
theorem Vm3 {l a b:List ApiItem} {n:Nat} (h:l.drop n=a++b):l.drop (n+a.length)=b:=by
 rw [← Qx,h]; simp
theorem Vqy (l:List ApiItem) (hl:l.length < 1000000) (hd:∀ x∈l,x.data.length < 100000):∀ (f n d:Nat) (key:Bool) (b:List UInt8),n≤l.length→d≤9→10≤f+d →
  ∃ j:Int,passkeyref1_walk_n f l (n:Int) (d:Int) key b=some ((),j,(W getL f (l.drop n) n d key b).1,())∧((W getL f (l.drop n) n d key b).1=0→j=((n+(W getL f (l.drop n) n d key b).2.1.length:Nat):Int))
 | 0,n,d,key,b,hn,hd9,hf=>by omega
 | f+1, n, d, key, b, hn, hd9, hf => by
  have ih:=Vqy l hl hd f
  show ∃ j:Int,passkeyref1_walk_R (passkeyref1_walk_n f) l (n:Int) (d:Int) key b=_∧_
  unfold passkeyref1_walk_R
  unfold W
  dsimp only
  by_cases hnl:n=l.length
  ·rw [show decide ((l.length:Int)≤(n:Int))=true by simp; omega,show l.drop n=[] by simp [hnl]]
   exact ⟨n,rfl,fun h=>by simp [getL] at h⟩
  ·have hlt:n < l.length:=by omega
   rw [show decide ((l.length:Int)≤(n:Int))=false by simp; omega]
   obtain ⟨x,hx⟩:∃ x,l[n]? = some x:=⟨l[n],by simp [hlt]⟩
   have hdr:l.drop n=x::l.drop (n+1):=by
    rw [List.drop_eq_getElem_cons hlt]
    congr 1
    rw [Qaf hlt] at hx
    exact Option.some.inj hx
   have eg:getI l (n:Int)=some x:=by unfold getI; simp [hx]
   rw [hdr,eg]
   simp only [cond_false,bindS,getL,Vvo x n d key b (by have:=hd x (Q1 hx); omega)]
   rw [Vac (n:=(n:Int)+1) (by omega) (by omega)]
   by_cases hc:chk x n d key b=0
   ·simp only [hc,decide_true,Qc,cond_false,cond_true]
    obtain ⟨c1,c2,c3,c4⟩:=Vax hc
    have hd8:=(Vbf c1).2.2.2.2
    have hnum:=(Vb7 c3).2
    -- the loop
    have ed:Qb .i64 ((d:Int)+1)=((d+1:Nat):Int):=by
     rw [Vac (n:=(d:Int)+1) (by omega) (by omega)]; rfl
    have ebv:∀ i:Nat,i≤2000→(Qg 64 i).toNat=i:=fun i hi=>by
     rw [Qt,Qm (by omega)]
    have ebs:∀ i:Nat,i≤1000→Qg 64 i+1#64=Qg 64 (i+1):=fun i hi=>by
     apply Qw
     rw [Qa9,ebv i (by omega),ebv (i+1) (by omega)]
     rw [show (1#64).toNat=1 from rfl,Qm (by omega)]
    have key2 : ∃ z, passkeyref1_walk_L0 (passkeyref1_walk_n f) (l, (d : Int), (x, ()), (n : Int)+1, [], 0#64, ()) = some z∧Zr (bif decide (x.kind = 5) then LA (fun s n => W getL f s n (d+1) false []) x.number.toNat (l.drop (n+1)) (n+1) else bif decide (x.kind = 6) then LM (fun s n last => W getL f s n (d+1) true last) (fun s n => W getL f s n (d+1) false []) x.number.toNat (l.drop (n+1)) (n+1) [] else ((0 : Int), ([] : List ApiItem), l.drop (n+1))) (n+1) z := by
     unfold passkeyref1_walk_L0
     rw [show ((n:Int)+1)=((n+1:Nat):Int) by omega,show (0#64)=Qg 64 0 from rfl]
     by_cases h5:x.kind=5
     ·have hk := hnum (by simp [isN, h5])
      have loop:∀ (k i m fuel:Nat) (last:List UInt8),i+k=x.number.toNat→m≤l.length→k < fuel→∃ z,iter (fun (y:((List (ApiItem))×Int×(ApiItem×Unit)×Int×(List UInt8)×(BitVec 64)×Unit))=>passkeyref1_walk_L0b (passkeyref1_walk_n f) y.1 y.2.1 y.2.2.1 y.2.2.2.1 y.2.2.2.2.1 y.2.2.2.2.2.1) fuel (l,(d:Int),(x,()),(m:Int),last,Qg 64 i,())=some z∧Zr (LA (fun s n=>W getL f s n (d+1) false []) k (l.drop m) m) m z:=by
       intro k
       induction k with
       | zero=>
        intro i m fuel last hi hm hfu
        obtain ⟨fuel,rfl⟩:∃ g,fuel=g+1:=⟨fuel - 1,by omega⟩
        rw [Vad]
        refine ⟨.inr ((m:Int),()),?_,fun _=>rfl,fun h=>absurd rfl h⟩
        dsimp only
        unfold passkeyref1_walk_L0b
        rw [ebv i (by omega),show decide (i < x.number.toNat)=false by simp; omega]
        rfl
       | succ k ihk=>
        intro i m fuel last hi hm hfu
        obtain ⟨fuel,rfl⟩:∃ g,fuel=g+1:=⟨fuel - 1,by omega⟩
        rw [Vad]
        obtain ⟨j,hj1,hj2⟩:=ih m (d+1) false [] hm (by omega) (by omega)
        have hwl:=fun h=>Vhe f (l.drop m) m (d+1) false [] h
        have e1:passkeyref1_walk_L0b (passkeyref1_walk_n f) l (d:Int) (x,()) (m:Int) last (Qg 64 i)=(bif (!decide ((W getL f (l.drop m) m (d+1) false []).1=(0:Int))) then (some (Qae (Q7 (j,(W getL f (l.drop m) m (d+1) false []).1,())))) else (some (Q7 (l,(d:Int),(x,()),j,last,(Qg 64 (i+1)),())))):=by
         unfold passkeyref1_walk_L0b
         rw [ebv i (by omega),show decide (i < x.number.toNat)=true by simp; omega]
         simp only [h5,decide_true,cond_true,Int.reduceEq,decide_false,cond_false,bindS,Qp,ed,ebs i (by omega)]
         rw [hj1]
         simp only [bindS]
        dsimp only
        rw [e1]
        unfold LA
        generalize W getL f (l.drop m) m (d+1) false []=w at hj2 hwl ⊢
        by_cases hw:w.1=0
        ·rw [show decide (w.1=0)=true by simpa using hw]
         simp only [Qc,cond_false,cond_true,bindS,Qp]
         rw [hj2 hw]
         have hdw:=Vm3 (hwl hw)
         have hle:m+w.2.1.length≤l.length:=by
          have:=congrArg List.length (hwl hw)
          simp at this
          omega
         obtain ⟨z,hz1,hz2,hz3⟩:=ihk (i+1) (m+w.2.1.length) fuel last (by omega) hle (by omega)
         rw [hdw] at hz2 hz3
         refine ⟨z,hz1,fun h=>?_,fun h=>hz3 h⟩
         dsimp only at h ⊢
         rw [hz2 h,Qa,Qas]
        ·rw [show decide (w.1=0)=false by simpa using hw]
         exact ⟨_,rfl,fun h=>absurd h hw,fun _=>⟨_,rfl⟩⟩
      rw [show decide (x.kind=5)=true by simpa using h5]
      exact loop _ 0 (n+1) rounds [] (by omega) (by omega) (by rw [Vae]; omega)
     ·by_cases h6:x.kind=6
      ·have hk := hnum (by simp [isN, h6])
       have loop:∀ (k i m fuel:Nat) (last:List UInt8),i+k=x.number.toNat→m≤l.length→k < fuel→∃ z,iter (fun (y:((List (ApiItem))×Int×(ApiItem×Unit)×Int×(List UInt8)×(BitVec 64)×Unit))=>passkeyref1_walk_L0b (passkeyref1_walk_n f) y.1 y.2.1 y.2.2.1 y.2.2.2.1 y.2.2.2.2.1 y.2.2.2.2.2.1) fuel (l,(d:Int),(x,()),(m:Int),last,Qg 64 i,())=some z∧Zr (LM (fun s n last=>W getL f s n (d+1) true last) (fun s n=>W getL f s n (d+1) false []) k (l.drop m) m last) m z:=by
        intro k
        induction k with
        | zero=>
         intro i m fuel last hi hm hfu
         obtain ⟨fuel,rfl⟩:∃ g,fuel=g+1:=⟨fuel - 1,by omega⟩
         rw [Vad]
         refine ⟨.inr ((m:Int),()),?_,fun _=>rfl,fun h=>absurd rfl h⟩
         dsimp only
         unfold passkeyref1_walk_L0b
         rw [ebv i (by omega),show decide (i < x.number.toNat)=false by simp; omega]
         rfl
        | succ k ihk=>
         intro i m fuel last hi hm hfu
         obtain ⟨fuel,rfl⟩:∃ g,fuel=g+1:=⟨fuel - 1,by omega⟩
         rw [Vad]
         obtain ⟨j,hj1,hj2⟩:=ih m (d+1) true last hm (by omega) (by omega)
         have hwl:=fun h=>Vhe f (l.drop m) m (d+1) true last h
         have hwn:=fun h=>W_ne (get:=getL) (f:=f) (s:=l.drop m) (n:=m) (d:=d+1) (key:=true) (b:=last) h
         unfold LM
         dsimp only
         unfold passkeyref1_walk_L0b
         rw [ebv i (by omega),show decide (i < x.number.toNat)=true by simp; omega]
         simp only [h6,decide_true,cond_true,Int.reduceEq,decide_false,cond_false,ed]
         rw [hj1]
         simp only [bindS]
         generalize W getL f (l.drop m) m (d+1) true last=w at hj2 hwl hwn ⊢
         by_cases hw:w.1=0
         ·rw [show decide (w.1=0)=true by simpa using hw]
          obtain ⟨y,r,hy⟩:=hwn hw
          have hdw:=Vm3 (hwl hw)
          have hlw:=congrArg List.length (hwl hw)
          simp only [Q5,Qa] at hlw
          have hl1:1≤w.2.1.length:=by rw [hy]; simp
          have hym:l[m]? = some y:=by
           have:=congrArg (·[0]?) (hwl hw)
           rw [hy] at this
           simpa using this
          have egy:getI l (m:Int)=some y:=by unfold getI; simp [hym]
          have hjj:=hj2 hw
          subst hjj
          obtain ⟨j2,hj3,hj4⟩:=ih (m+w.2.1.length) (d+1) false [] (by omega) (by omega) (by omega)
          have hvl:=fun h=>Vhe f (l.drop (m+w.2.1.length)) (m+w.2.1.length) (d+1) false [] h
          rw [hdw] at hj3 hj4 hvl
          simp only [Qc,cond_false,cond_true,egy,bindS,Veo y (by have:=hd y (Q1 hym); omega),Qp,ed,ebs i (by omega)]
          rw [hj3]
          simp only [bindS]
          have hhy:w.2.1.headD default=y:=by rw [hy]; rfl
          rw [hhy]
          generalize W getL f w.2.2 (m+w.2.1.length) (d+1) false []=v at hj4 hvl ⊢
          by_cases hv:v.1=0
          ·rw [show decide (v.1=0)=true by simpa using hv,hj4 hv]
           simp only [Qc,cond_false,cond_true,bindS,Qp]
           have hdv:l.drop (m+w.2.1.length+v.2.1.length)=v.2.2:=Vm3 (by rw [hdw]; exact hvl hv)
           have hlv:=congrArg List.length (hvl hv)
           simp only [Qa] at hlv
           obtain ⟨z,hz1,hz2,hz3⟩:=ihk (i+1) (m+w.2.1.length+v.2.1.length) fuel (enc y) (by omega) (by omega) (by omega)
           rw [hdv] at hz2 hz3
           refine ⟨z,hz1,fun h=>?_,fun h=>hz3 h⟩
           dsimp only at h ⊢
           rw [hz2 h,Qa,Qa]
           congr 3
           omega
          ·rw [show decide (v.1=0)=false by simpa using hv]
           exact ⟨_,rfl,fun h=>absurd h hv,fun _=>⟨_,rfl⟩⟩
         ·rw [show decide (w.1=0)=false by simpa using hw]
          exact ⟨_,rfl,fun h=>absurd h hw,fun _=>⟨_,rfl⟩⟩
       rw [show decide (x.kind=5)=false by simpa using h5,show decide (x.kind=6)=true by simpa using h6]
       exact loop _ 0 (n+1) rounds [] (by omega) (by omega) (by rw [Vae]; omega)
      ·rw [Vae,show (1180591620717411303424:Nat)=1180591620717411303423+1 from rfl,Vad]
       dsimp only
       unfold passkeyref1_walk_L0b
       simp only [h5,h6,decide_false,cond_false]
       refine ⟨.inr (((n+1:Nat):Int),()),?_,fun _=>rfl,fun h=>absurd rfl h⟩
       cases decide ((Qg 64 0).toNat < x.number.toNat)<;>rfl
    obtain ⟨z,hz,hz1⟩:=key2
    rw [hz]
    simp only [bindS]
    have fin:∀ (w:Res (List ApiItem)) (z:(Int×Int×Unit)⊕(Int×Unit)),Zr w (n+1) z→∃ j:Int,Qai (fun (z13:(Int×Int×Unit))=>(some ((),(z13.1,z13.2.1,())):Option (Unit×(Int×Int×Unit)))) (fun (z14:(Int×Unit))=>(some ((),(z14.1,(0:Int),())))) z=some ((),j,w.1,())∧(w.1=0→j=((n+(x::w.2.1).length:Nat):Int)):=by
     intro w z hz
     obtain ⟨hz1,hz2⟩:=hz
     by_cases hw:w.1=0
     ·rw [hz1 hw,hw]
      refine ⟨_,rfl,fun _=>?_⟩
      simp only [Qj]
      omega
     ·obtain ⟨j,rfl⟩:=hz2 hw
      exact ⟨j,rfl,fun h=>absurd h hw⟩
    exact fin _ _ hz1
   ·simp only [hc,decide_false,Qi,cond_false,cond_true]
    exact ⟨(n:Int),rfl,fun h=>h.elim⟩
theorem Vgo (l:List ApiItem) (hl:l.length < 1000000) (hd:∀ x∈l,x.data.length < 100000):Zaz l=some ((),valO l,()):=by
 obtain ⟨j,h1,h2⟩:=Vqy l hl hd 12 0 0 false [] (by omega) (by omega) (by omega)
 obtain ⟨m1,m2⟩:=Vob Vm2 12 (by omega) l
 have hwl:=fun h=>Vhe 12 l 0 0 false [] h
 unfold Zaz passkeyref1_walk valO valE
 rw [show l.drop 0=l from rfl] at h1 h2
 have h1':passkeyref1_walk_n 12 l 0 0 false []=some ((),j,(W getL 12 l 0 0 false []).1,()):=h1
 rw [h1']
 simp only [bindS]
 by_cases hw:(W getL 12 l 0 0 false []).1=0
 ·rw [m2 hw,h2 hw]
  have hh:=hwl hw
  generalize W getL 12 l 0 0 false []=w at hw hh ⊢
  simp only [hw,decide_true,Qc,cond_false]
  have hlen:=congrArg List.length hh
  rw [Qa] at hlen
  cases ht:w.2.2 with
  | nil=>
   rw [ht] at hlen
   rw [show decide (((0+w.2.1.length:Nat):Int) < (l.length:Int))=false by simp at hlen ⊢; omega]
   rfl
  | cons y r=>
   rw [ht] at hlen
   rw [show decide (((0+w.2.1.length:Nat):Int) < (l.length:Int))=true by simp at hlen ⊢; omega]
   rfl
 ·rw [m1 hw]
  simp [hw]
theorem Vi6:∀ (f:Nat) (S:List CborFrame) (n:Nat) (l:List ApiItem),(mach getL f S n l).1=0→l=(mach getL f S n l).2.1++(mach getL f S n l).2.2∧∀ x∈(mach getL f S n l).2.1,∃ n d k b,chk x n d k b=0
 | 0,S,n,l,h=>by simp [mach] at h
 | f+1,S,n,l,h=>by
  cases hS:(decide (0 < n)&&S.isEmpty)
  ·rcases hg:getL n S.length (atK S) (lst S) l with ⟨e,x,t⟩
   by_cases he:e=0
   ·subst he
    rw [Vb6 hS hg] at h ⊢
    obtain ⟨i1,i2⟩:=Vi6 f (nxt x S) (n+1) t h
    have hs:l=x::t∧chk x n S.length (atK S) (lst S)=0:=by
     cases l with
     | nil=>simp [getL] at hg
     | cons y r=>
      simp only [getL,Qf] at hg
      obtain ⟨q1,rfl,rfl⟩:=hg
      exact ⟨rfl,q1⟩
    refine ⟨by rw [hs.1,Qs,← i1],fun y hy=>?_⟩
    rcases List.mem_cons.1 hy with rfl | hy
    ·exact ⟨_,_,_,_,hs.2⟩
    ·exact i2 y hy
   ·rw [Vdh hS hg he] at h
    exact absurd h he
  ·simp only [Qh,decide_eq_true_eq,Qa2] at hS
   obtain ⟨q1,rfl⟩:=hS
   rw [Vfg q1]
   exact ⟨rfl,by simp⟩
theorem Vdc {l:List ApiItem} (h:valO l=0):mach getL 600 [] 0 l=(0,l,[])∧∀ x∈l,kin x∧x.data.length≤1024:=by
 unfold valO valE at h
 have hm:=Vi6 600 [] 0 l
 generalize mach getL 600 [] 0 l=m at h hm ⊢
 obtain ⟨e,o,t⟩:=m
 dsimp only at h hm ⊢
 by_cases he:e=0
 ·subst he
  cases t with
  | nil=>
   obtain ⟨h1,h2⟩:=hm rfl
   rw [Qy] at h1
   subst h1
   refine ⟨rfl,fun x hx=>?_⟩
   obtain ⟨n,d,k,b,hc⟩:=h2 x hx
   obtain ⟨c1,c2,c3,c4⟩:=Vax hc
   exact ⟨Voa c1 c2,(Vb7 c3).1⟩
  | cons y r=>simp at h
 ·simp [he] at h
def encA (l:List ApiItem):List UInt8:=l.flatMap enc
def encO (l:List ApiItem):List UInt8×Int:=bif decide (valO l=0) then (encA l,0) else ([],valO l)
theorem Vqz {x:ApiItem} (h:x.data.length≤1024):(enc x).length≤1033:=by
 have:=(Vjz x).2
 unfold enc
 rw [Qa]
 omega
theorem Vhf:∀ (l:List ApiItem) (o:List UInt8),l.foldl (fun o x=>o++enc x) o=o++encA l
 | [],o=>by simp [encA]
 | x::r,o=>by
  rw [List.foldl_cons,Vhf r,Qd]
  simp [encA]
theorem Vq0 (l:List ApiItem) (hl:l.length≤600) (hd:∀ x∈l,x.data.length < 100000):Zds l=some ((),(encO l).1,(encO l).2,()):=by
 unfold Zds encO
 rw [Vcn l (by omega) hd]
 simp only [bindS]
 by_cases h:valO l=0
 ·obtain ⟨_,hk⟩:=Vdc h
  simp only [h,decide_true,Qc,cond_false,cond_true]
  unfold Zds_L0
  have:=Vmr (f:=fun (y:((List (UInt8))×(List (ApiItem))×Int×Int×Unit))=>Zds_L0b y.1 y.2.1 y.2.2.1 y.2.2.2.1) (fun i (o:List UInt8)=>(o,l,(l.length:Int),i,())) l (fun _ x o=>.inl (o++enc x)) (fun o=>(o,())) (fun i o=>o.length≤1033 * i) ?_ ?_ [] (by simp) rounds (by rw [Vae]; omega)
  ·rw [this,Vim,Vhf]
   rfl
  ·intro i x o hx ho
   have hi:i < l.length:=(List.getElem?_eq_some_iff.1 hx).1
   obtain ⟨k1,k2⟩:=hk x (Q1 hx)
   have he:=Vqz k2
   refine ⟨?_,fun a' ha=>?_⟩
   ·dsimp only
    unfold Zds_L0b
    have eg:getI l (i:Int)=some x:=by unfold getI; simp [hx]
    rw [show decide ((i:Int) < (l.length:Int))=true by simp; omega,eg,Vac (n:=(i:Int)+1) (by omega) (by omega)]
    simp only [cond_true,bindS]
    rw [Vfe o x k1 (by omega) (by omega)]
    rfl
   ·cases ha
    rw [Qa]
    omega
  ·intro o _
   dsimp only
   unfold Zds_L0b
   rw [show decide ((l.length:Int) < (l.length:Int))=false by simp]
   rfl
 ·simp [h]
theorem Vps (l:List ApiItem) (hl:l.length≤600) (hd:∀ x∈l,x.data.length < 100000):Zbt l=some ((),(encO l).1,(encO l).2,()):=by
 unfold Zbt encO
 rw [Vgo l (by omega) hd]
 simp only [bindS]
 by_cases h:valO l=0
 ·obtain ⟨_,hk⟩:=Vdc h
  simp only [h,decide_true,Qc,cond_false,cond_true]
  unfold Zbt_L0
  have:=Vmr (f:=fun (y:((List (ApiItem))×(List (UInt8))×Int×Unit))=>Zbt_L0b y.1 y.2.1 y.2.2.1) (fun i (o:List UInt8)=>(l,o,i,())) l (fun _ x o=>.inl (o++enc x)) (fun o=>(o,())) (fun i o=>o.length≤1033 * i) ?_ ?_ [] (by simp) rounds (by rw [Vae]; omega)
  ·rw [this,Vim,Vhf]
   rfl
  ·intro i x o hx ho
   have hi:i < l.length:=(List.getElem?_eq_some_iff.1 hx).1
   obtain ⟨k1,k2⟩:=hk x (Q1 hx)
   have he:=Vqz k2
   refine ⟨?_,fun a' ha=>?_⟩
   ·dsimp only
    unfold Zbt_L0b
    have eg:getI l (i:Int)=some x:=by unfold getI; simp [hx]
    rw [show decide ((i:Int) < (l.length:Int))=true by simp; omega,eg,Vac (n:=(i:Int)+1) (by omega) (by omega)]
    simp only [cond_true,bindS]
    rw [Veo x (by omega)]
    simp only [bindS]
    rw [Vcg (by omega)]
    rfl
   ·cases ha
    rw [Qa]
    omega
  ·intro o _
   dsimp only
   unfold Zbt_L0b
   rw [show decide ((l.length:Int) < (l.length:Int))=false by simp]
   rfl
 ·simp [h]
theorem mask (a:Int) (m:Nat) (hm:m < 10000000):∃ k:Nat,k≤m∧Qb .i64 ((Qk (Qaq .i64) a &&& Qk (Qaq .i64) (m:Int)).toNat:Int)=(k:Int):=by
 have e:(Qk 64 (m:Int)).toNat=m:=by rw [Q0,Qt,Qm (by omega)]
 have h:(Qk 64 a &&& Qk 64 (m:Int)).toNat≤m:=by
  rw [BitVec.toNat_and,e]; exact Nat.and_le_right
 refine ⟨_,h,?_⟩
 show Qb .i64 ((Qk 64 a &&& Qk 64 (m:Int)).toNat:Int)=_
 exact Vac (by omega) (by omega)
def VT (h:Nat) (o:List ApiItem):Prop:=∀ (g n dd:Nat) (r:List ApiItem) (b:List UInt8),h≤g→n+o.length≤512→dd+h≤9→W getL g (o++r) n dd false b=(0,o,r)
theorem Vhg {x:ApiItem} (h5:x.kind≠5) (h6:x.kind≠6) (hc:∀ n d b,n < 512→d≤8→chk x n d false b=0):VT 1 [x]:=by
 intro g n dd r b hg hn hd
 obtain ⟨g,rfl⟩:∃ q,g=q+1:=⟨g - 1,by omega⟩
 unfold W
 have:=hc n dd b (by simp at hn; omega) (by omega)
 simp [getL,this,h5,h6]
theorem Vq1 {h h':Nat} {o:List ApiItem} (hh:h≤h') (H:VT h o):VT h' o:=fun g n dd r b h1 h2 h3=>H g n dd r b (by omega) h2 (by omega)
def keysOk:List UInt8→List ApiItem→Prop
 | _,[]=>True
 | last,x::r=>isN x.kind=false∧(∀ n d,n < 512→d≤8→chk x n d true last=0)∧keysOk (enc x) r
theorem LM_ok {h g dd:Nat} (hg:h≤g) (hg1:1≤g) (hd:dd+1+h≤9) (hd8:dd+1≤8):∀ (ks:List ApiItem) (os:List (List ApiItem)) (r:List ApiItem) (n:Nat) (last:List UInt8),ks.length=os.length→keysOk last ks→(∀ o∈os,VT h o)→n+((ks.zip os).flatMap fun p=>p.1::p.2).length≤512→LM (fun s n last=>W getL g s n (dd+1) true last) (fun s n=>W getL g s n (dd+1) false []) ks.length (((ks.zip os).flatMap fun p=>p.1::p.2)++r) n last=(0,(ks.zip os).flatMap fun p=>p.1::p.2,r)
 | [],os,r,n,last,_,_,_,_=>rfl
 | x::ks,[],r,n,last,hl,_,_,_=>by cases hl
 | x::ks,o::os,r,n,last,hl,hk,H,hn=>by
  obtain ⟨k1,k2,k3⟩:=hk
  simp only [Qa8,Qau,Qa,Qj] at hn
  obtain ⟨g,rfl⟩:∃ q,g=q+1:=⟨g - 1,by omega⟩
  have hkey:∀ s,W getL (g+1) (x::s) n (dd+1) true last=(0,[x],s):=by
   intro s
   unfold W
   simp only [isN,Qq,decide_eq_false_iff_not] at k1
   simp [getL,k2 n (dd+1) (by omega) hd8,k1.1,k1.2]
  have h1:=H o (by simp) (g+1) (n+1) (dd+1) (((ks.zip os).flatMap fun p=>p.1::p.2)++r) [] hg (by omega) (by omega)
  have h2:=LM_ok hg hg1 hd hd8 ks os r (n+1+o.length) (enc x) (by simpa using hl) k3 (fun p hp=>H p (by simp [hp])) (by omega)
  simp only [Qj,Qa8,Qau,Qs,Qd]
  unfold LM
  dsimp only
  rw [hkey]
  simp only [decide_true,cond_true,Qj,Qan,Qbd,Q8]
  rw [h1]
  simp only [decide_true,cond_true]
  rw [h2]
  rfl
theorem Vasa {h k:Nat} {ks:List ApiItem} {os:List (List ApiItem)} (hk:ks.length=k) (hl:ks.length=os.length) (hk3:k≤512) (h1:1≤h) (hK:keysOk [] ks) (H:∀ o∈os,VT h o):VT (h+1) (⟨6,Qg 64 k,[]⟩::(ks.zip os).flatMap fun p=>p.1::p.2):=by
 intro g n dd r b hg hn hd
 obtain ⟨g,rfl⟩:∃ q,g=q+1:=⟨g - 1,by omega⟩
 simp only [Qj] at hn
 have hkn:(Qg 64 k).toNat=k:=by rw [Qt,Qm (by omega)]
 have hc:chk ⟨6,Qg 64 k,[]⟩ n dd false b=0:=by
  unfold chk adm bad big acc
  dsimp only
  rw [hkn,show decide (512≤n)=false by simp; omega,show decide (8 < dd)=false by simp; omega,show decide (512 < k)=false by simp; omega]
  rfl
 have:=LM_ok (g:=g) (dd:=dd) (by omega) (by omega) (by omega) (by omega) ks os r (n+1) [] hl hK H (by omega)
 rw [hk] at this
 unfold W
 simp only [Qs,getL,hc,decide_true,decide_false,cond_true,cond_false,hkn,this,Int.reduceEq]
def words:List (List UInt8):=[([]:List UInt8),([97]:List UInt8),([98]:List UInt8),([108,111,103,105,110]:List UInt8),([107,101,121]:List UInt8),([101,120,97,109,112,108,101,46,111,114,103]:List UInt8),([195,169]:List UInt8),([48,49,50,51,52,53,54,55,56,57,48,49,50,51,52,53]:List UInt8)]
theorem Vq2:∀ a:Fin 8,(words[a.val]'(by have:=a.isLt; simp only [words,Qj,Qan]; omega)).length≤16:=by decide
theorem Vyz (n:Int):∃ a b:Fin 8,Zcn n=some ((),words.getD a.val []++words.getD b.val [],()):=by
 obtain ⟨a,ha,ea⟩:=mask n 7 (by omega)
 obtain ⟨b,hb,eb⟩:=mask (Int.fdiv n (2 ^ (min 3 (Qaq .i64)))) 7 (by omega)
 refine ⟨⟨a,by omega⟩,⟨b,by omega⟩,?_⟩
 unfold Zcn
 dsimp only
 rw [show ((7:Nat):Int)=7 from rfl] at ea eb
 rw [ea,eb]
 rw [show (decide ((0:Int)≤(a:Int))&&decide ((a:Int) < 8))=true by simp; omega,show (decide ((0:Int)≤(b:Int))&&decide ((b:Int) < 8))=true by simp; omega,Ql,Ql]
 have w8:∀ c:Nat,c≤7→∃ w,words[c]? = some w∧w.length≤16:=by
  intro c hc
  have:c < words.length:=by simp [words]; omega
  exact ⟨words[c],by simp [this],Vq2 ⟨c,by omega⟩⟩
 obtain ⟨wa,qa,la⟩:=w8 a ha
 obtain ⟨wb,qb,lb⟩:=w8 b hb
 have qa':([([]:List UInt8),([97]:List UInt8),([98]:List UInt8),([108,111,103,105,110]:List UInt8),([107,101,121]:List UInt8),([101,120,97,109,112,108,101,46,111,114,103]:List UInt8),([195,169]:List UInt8),([48,49,50,51,52,53,54,55,56,57,48,49,50,51,52,53]:List UInt8)]:List (List UInt8))[a]? = some wa:=qa
 have qb':([([]:List UInt8),([97]:List UInt8),([98]:List UInt8),([108,111,103,105,110]:List UInt8),([107,101,121]:List UInt8),([101,120,97,109,112,108,101,46,111,114,103]:List UInt8),([195,169]:List UInt8),([48,49,50,51,52,53,54,55,56,57,48,49,50,51,52,53]:List UInt8)]:List (List UInt8))[b]? = some wb:=qb
 rw [qa',qb']
 simp only [cond_true,bindS]
 rw [Vxj (by omega),Q2,Q2,qa,qb]
 rfl
theorem Vfh {x:ApiItem} {n d:Nat} {b:List UInt8} (h1:1≤x.kind) (h2:x.kind≤8) (h3:bad x=false) (h4:big x=false) (h5:x.kind=4→Lib.validD x.data=true) (hn:n < 512) (hd:d≤8):chk x n d false b=0:=by
 unfold chk adm acc
 rw [h3,h4,show decide (512≤n)=false by simp; omega,show decide (8 < d)=false by simp; omega,show (decide (1≤x.kind)&&decide (x.kind≤8))=true by simp [h1,h2]]
 by_cases hk:x.kind=4
 ·rw [h5 hk]; simp
 ·simp [hk]
theorem Vy0 {x:ApiItem} {n d:Nat} {last:List UInt8} (h1:x.kind=1∨x.kind=4) (h3:bad x=false) (h4:big x=false) (h5:x.kind=4→Lib.validD x.data=true) (h6:last=[]∨lss last (enc x)=true) (hn:n < 512) (hd:d≤8):chk x n d true last=0:=by
 have e6:(true&&(!last.isEmpty&&!lss last (enc x)))=false:=by
  rcases h6 with rfl | h
  ·rfl
  ·rw [h]; cases last.isEmpty<;>rfl
 unfold chk adm acc
 rw [h3,h4,show decide (512≤n)=false from decide_eq_false (by omega),show decide (8 < d)=false from decide_eq_false (by omega),e6]
 rcases h1 with hk | hk
 ·rw [hk]; rfl
 ·rw [h5 hk,hk]; rfl
def bev:BitVec 64→List UInt8→BitVec 64
 | n,[]=>n
 | n,c::r=>bev ((n <<< 8) ||| (Qr 64 c.toBitVec)) r
def nv:Nat→List UInt8→Nat
 | v,[]=>v
 | v,c::r=>nv (v * 256+c.toNat) r
theorem nv_eq:∀ (l:List UInt8) (v:Nat),nv v l=v * 256 ^ l.length+nv 0 l
 | [],v=>by simp [nv]
 | c::r,v=>by
  have h1:=nv_eq r (v * 256+c.toNat)
  have h2:=nv_eq r (0 * 256+c.toNat)
  simp only [nv,Qj]
  rw [h1,h2,Qaz,Nat.add_mul,Qay,Q8,Nat.mul_assoc,Qa0 256,Qas]
theorem nv_lt:∀ l:List UInt8,nv 0 l < 256 ^ l.length
 | []=>by simp [nv]
 | c::r=>by
  have h1:=nv_eq r (0 * 256+c.toNat)
  have h2:=nv_lt r
  have h3:c.toNat < 256:=c.toNat_lt
  simp only [nv,Qj]
  rw [h1,Qay,Q8,Qaz]
  have:c.toNat * 256 ^ r.length≤255 * 256 ^ r.length:=Nat.mul_le_mul_right _ (by omega)
  omega
theorem Vxm:∀ (a b:List UInt8),a.length=b.length→nv 0 a=nv 0 b→a=b
 | [],[],_,_=>rfl
 | [],_::_,h,_=>by cases h
 | _::_,[],h,_=>by cases h
 | c::r,d::s,h,e=>by
  have hl:r.length=s.length:=by simpa using h
  have h1:=nv_eq r (0 * 256+c.toNat)
  have h2:=nv_eq s (0 * 256+d.toNat)
  simp only [nv] at e
  rw [h1,h2,Qay,Q8,Q8,hl] at e
  have l1:=nv_lt r
  have l2:=nv_lt s
  rw [hl] at l1
  have hc:c.toNat=d.toNat:=by
   have e1:(c.toNat * 256 ^ s.length+nv 0 r) / 256 ^ s.length=c.toNat:=by
    rw [Qa0,Qbe (by omega),Qbc l1,Nat.add_zero]
   have e2:(d.toNat * 256 ^ s.length+nv 0 s) / 256 ^ s.length=d.toNat:=by
    rw [Qa0,Qbe (by omega),Qbc l2,Nat.add_zero]
   rw [← e1,← e2,e]
  rw [hc] at e
  rw [UInt8.toNat_inj.1 hc,Vxm r s hl (by omega)]
theorem Vq3 (n:BitVec 64):(byt n).toNat=n.toNat % 256:=by
 unfold byt
 show (Qr 8 n).toNat=_
 rw [Qaj]
theorem p256 (k:Nat):2 ^ (8 * k)=256 ^ k:=by rw [Nat.pow_mul]
theorem Vq4 (n:BitVec 64):∀ k,nv 0 (beb n k)=n.toNat % 256 ^ k
 | 0=>by simp [beb,nv,Nat.mod_one]
 | k+1=>by
  have h1:=nv_eq (beb n k) (0 * 256+(byt (n >>> (8 * k))).toNat)
  simp only [beb,nv]
  rw [h1,Vq4 n k,Vc3,Vq3,BitVec.toNat_ushiftRight,Nat.shiftRight_eq_div_pow,p256,Qay,Q8,Qaz,Nat.mod_mul,Qa0,Qa1]
theorem Vata (n:BitVec 64) (c:UInt8) (h:n.toNat < 256 ^ 7):((n <<< 8) ||| (Qr 64 c.toBitVec)).toNat=n.toNat * 256+c.toNat:=by
 have hc:c.toNat < 256:=c.toNat_lt
 rw [BitVec.toNat_or,BitVec.toNat_shiftLeft,Qaj,Qm (a:=n.toNat <<< 8) (by rw [Qbb]; omega)]
 rw [show c.toBitVec.toNat=c.toNat from rfl,Qm (a:=c.toNat) (by omega),← Nat.shiftLeft_add_eq_or_of_lt (by omega),Qbb]
theorem Vq5:∀ (l:List UInt8) (n:BitVec 64) (j:Nat),n.toNat < 256 ^ j→j+l.length≤8→(bev n l).toNat=nv n.toNat l
 | [],n,j,_,_=>rfl
 | c::r,n,j,h,hj=>by
  simp only [Qj] at hj
  have hc:c.toNat < 256:=c.toNat_lt
  have e:=Vata n c (Nat.lt_of_lt_of_le h (Qab (by omega) (by omega)))
  have:=Vq5 r ((n <<< 8) ||| (Qr 64 c.toBitVec)) (j+1) (by rw [e,Qaz]; omega) (by omega)
  simp only [bev,nv]
  rw [this,e]
theorem bev0 (l:List UInt8) (hl:l.length≤8):(bev 0#64 l).toNat=nv 0 l:=Vq5 l 0#64 0 (by simp) (by omega)
theorem Vy1 (n:BitVec 64) (k:Nat) (hk:k≤8) (hn:n.toNat < 256 ^ k):bev 0#64 (beb n k)=n:=by
 apply Qw
 rw [bev0 _ (by rw [Vc3]; exact hk),Vq4,Qm hn]
theorem Vy2 (l:List UInt8) (hl:l.length≤8):beb (bev 0#64 l) l.length=l:=by
 apply Vxm
 ·rw [Vc3]
 ·rw [Vq4,bev0 l hl,Qm (nv_lt l)]
def sho (n:BitVec 64):Nat:=bif decide (n.toNat < 24) then 0 else bif decide (n.toNat < 256) then 1 else bif decide (n.toNat < 65536) then 2 else bif decide (n.toNat < 4294967296) then 4 else 8
def isB (c:UInt8):Bool:=decide (c=244)||decide (c=245)
def hdB:List UInt8→Int×Int×BitVec 64×List UInt8
 | []=>(1,0,0#64,[])
 | c::r=>bif isB c then (0,7,Qg 64 (c.toNat - 244),r) else bif decide (c=246) then (0,8,0#64,r) else bif decide (5 < c.toNat / 32)||decide (27 < c.toNat % 32) then (2,0,0#64,[]) else bif decide (c.toNat % 32 < 24) then (0,((c.toNat / 32:Nat):Int)+1,Qg 64 (c.toNat % 32),r) else bif decide (r.length < 2 ^ (c.toNat % 32 - 24)) then (1,0,0#64,[]) else bif decide (sho (bev 0#64 (r.take (2 ^ (c.toNat % 32 - 24)))) < 2 ^ (c.toNat % 32 - 24)) then (2,0,0#64,[]) else (0,((c.toNat / 32:Nat):Int)+1,bev 0#64 (r.take (2 ^ (c.toNat % 32 - 24))),r.drop (2 ^ (c.toNat % 32 - 24)))
def hdc (n:BitVec 64):UInt8:=bif decide (n.toNat < 24) then byt n else bif decide (n.toNat < 256) then 24 else bif decide (n.toNat < 65536) then 25 else bif decide (n.toNat < 4294967296) then 26 else 27
theorem Vq6 (m:UInt8) (n:BitVec 64):hdr m n=(m+hdc n)::beb n (sho n):=by
 unfold hdr hdc sho
 cases decide (n.toNat < 24)<;>cases decide (n.toNat < 256)<;>cases decide (n.toNat < 65536)<;>cases decide (n.toNat < 4294967296)<;>rfl
theorem Vhh (n:BitVec 64):(n.toNat < 24∧sho n=0∧hdc n=byt n)∨(24≤n.toNat∧∃ j,j < 4∧sho n=2 ^ j∧hdc n=Qv (24+j)∧n.toNat < 256 ^ (2 ^ j)):=by
 have hn:=n.isLt
 unfold sho hdc
 by_cases h1:n.toNat < 24
 ·left; simp [h1]
 ·right
  refine ⟨by omega,?_⟩
  by_cases h2:n.toNat < 256
  ·exact ⟨0,by omega,by simp [h1,h2],by simp [h1,h2],by simpa using h2⟩
  ·by_cases h3:n.toNat < 65536
   ·exact ⟨1,by omega,by simp [h1,h2,h3],by simp [h1,h2,h3],by simpa using h3⟩
   ·by_cases h4:n.toNat < 4294967296
    ·exact ⟨2,by omega,by simp [h1,h2,h3,h4],by simp [h1,h2,h3,h4],by simpa using h4⟩
    ·exact ⟨3,by omega,by simp [h1,h2,h3,h4],by simp [h1,h2,h3,h4],by simpa using hn⟩
theorem Vq7:∀ (k:Fin 6) (j:Fin 28),isB (mj ((k.val:Int)+1)+Qv j.val)=false∧¬ (mj ((k.val:Int)+1)+Qv j.val)=246∧(mj ((k.val:Int)+1)+Qv j.val).toNat / 32=k.val∧(mj ((k.val:Int)+1)+Qv j.val).toNat % 32=j.val:=by decide +kernel
theorem Voc {k:Int} (h1:1≤k) (h2:k≤6) {j:Nat} (hj:j < 28):isB (mj k+Qv j)=false∧¬ (mj k+Qv j)=246∧(((mj k+Qv j).toNat / 32:Nat):Int)+1=k∧(mj k+Qv j).toNat % 32=j:=by
 obtain ⟨q,rfl⟩:∃ q:Nat,k=(q:Int)+1:=⟨(k - 1).toNat,by omega⟩
 obtain ⟨a,b,c,d⟩:=Vq7 ⟨q,by omega⟩ ⟨j,hj⟩
 dsimp only at a b c d
 exact ⟨a,b,by rw [c],d⟩
theorem Vlh {n:BitVec 64} (h:n.toNat < 24):byt n=Qv n.toNat:=by
 apply UInt8.toNat_inj.1
 rw [Vq3]
 simp
theorem Vy3 {k:Int} (h1:1≤k) (h2:k≤6) (n:BitVec 64) (r:List UInt8):hdB (hdr (mj k) n++r)=(0,k,n,r):=by
 rw [Vq6,Qs]
 rcases Vhh n with ⟨a,b,c⟩ | ⟨a,j,hj,b,c,d⟩
 ·rw [b,c,Vlh a]
  obtain ⟨f1,f2,f3,f4⟩:=Voc h1 h2 (j:=n.toNat) (by omega)
  simp only [hdB]
  rw [f1,f4,f3,show decide (_=(246:UInt8))=false from decide_eq_false f2,show decide (5 < (mj k+Qv n.toNat).toNat / 32)=false from decide_eq_false (by omega),show decide (27 < n.toNat)=false from decide_eq_false (by omega),show decide (n.toNat < 24)=true from decide_eq_true a]
  simp [beb]
 ·rw [b,c]
  obtain ⟨f1,f2,f3,f4⟩:=Voc h1 h2 (j:=24+j) (by omega)
  have hj8:2 ^ j≤8:=Qal (Qab (by omega) (show j≤3 by omega)) (by omega)
  simp only [hdB]
  have et:(beb n (2 ^ j)++r).take (2 ^ j)=beb n (2 ^ j):=by
   rw [Qa3 (by rw [Vc3]; omega),Qa6 (by rw [Vc3]; omega)]
  have ed:(beb n (2 ^ j)++r).drop (2 ^ j)=r:=by
   have:=List.drop_left (l₁:=beb n (2 ^ j)) (l₂:=r)
   rwa [Vc3] at this
  rw [f1,f4,f3,show decide (_=(246:UInt8))=false from decide_eq_false f2,show decide (5 < (mj k+Qv (24+j)).toNat / 32)=false from decide_eq_false (by omega),show decide (27 < 24+j)=false from decide_eq_false (by omega),show decide (24+j < 24)=false from decide_eq_false (by omega),show 24+j - 24=j by omega,et,ed,Vy1 n _ hj8 d,b,show decide ((beb n (2 ^ j)++r).length < 2 ^ j)=false from decide_eq_false (by rw [Qa,Vc3]; omega),show decide (2 ^ j < 2 ^ j)=false from decide_eq_false (by omega)]
  rfl
theorem Vvq:∀ c:Fin 256,c.val / 32≤5→c.val % 32≤27→Qv c.val=mj ((c.val / 32:Nat)+1)+Qv (c.val % 32):=by decide +kernel
theorem Vj3 {s : List UInt8} {k : Int} {n : BitVec 64} {t : List UInt8} (h : hdB s = (0, k, n, t)) : (1≤k∧k≤6∧s = hdr (mj k) n++t)∨(k = 7∧n.toNat≤1∧s = (244+byt n)::t)∨(k = 8∧n = 0#64∧s = 246::t) := by
 cases s with
 | nil=>simp [hdB] at h
 | cons c r=>
  simp only [hdB] at h
  cases hb:isB c
  ·rw [hb] at h
   simp only [cond_false] at h
   by_cases h6:c=246
   ·rw [show decide (c=246)=true from decide_eq_true h6] at h
    simp only [cond_true,Qf] at h
    right; right
    exact ⟨h.2.1.symm,h.2.2.1.symm,by rw [h6,h.2.2.2]⟩
   ·rw [show decide (c=246)=false from decide_eq_false h6] at h
    simp only [cond_false] at h
    cases h7:(decide (5 < c.toNat / 32)||decide (27 < c.toNat % 32))
    ·rw [h7] at h
     simp only [cond_false] at h
     simp only [Qq,decide_eq_false_iff_not,Nat.not_lt] at h7
     have hcl:c.toNat < 256:=c.toNat_lt
     have hc:=Vvq ⟨c.toNat,hcl⟩ h7.1 h7.2
     dsimp only at hc
     rw [Qat] at hc
     left
     by_cases h8:c.toNat % 32 < 24
     ·rw [show decide (c.toNat % 32 < 24)=true from decide_eq_true h8] at h
      simp only [cond_true,Qf,true_and] at h
      obtain ⟨e1,e2,e3⟩:=h
      have en:n.toNat=c.toNat % 32:=by rw [← e2,Qt,Qm (by omega)]
      refine ⟨by omega,by omega,?_⟩
      rw [Vq6,e3]
      rcases Vhh n with ⟨a,b,d⟩ | ⟨a,_⟩
      ·rw [b,d,Vlh a,en,← e1,← hc]
       rfl
      ·omega
     ·rw [show decide (c.toNat % 32 < 24)=false from decide_eq_false h8] at h
      simp only [cond_false] at h
      generalize hz:c.toNat % 32 - 24=z at h
      have hz3:z≤3:=by omega
      have hz8:2 ^ z≤8:=Qal (Qab (by omega) hz3) (by omega)
      by_cases h9:r.length < 2 ^ z
      ·rw [show decide (r.length < 2 ^ z)=true from decide_eq_true h9] at h
       simp at h
      ·rw [show decide (r.length < 2 ^ z)=false from decide_eq_false h9] at h
       simp only [cond_false] at h
       by_cases h10:sho (bev 0#64 (r.take (2 ^ z))) < 2 ^ z
       ·rw [show decide (sho (bev 0#64 (r.take (2 ^ z))) < 2 ^ z)=true from decide_eq_true h10] at h
        simp at h
       ·rw [show decide (sho (bev 0#64 (r.take (2 ^ z))) < 2 ^ z)=false from decide_eq_false h10] at h
        simp only [cond_false,Qf,true_and] at h
        obtain ⟨e1,e2,e3⟩:=h
        have hlen:(r.take (2 ^ z)).length=2 ^ z:=by rw [Qz]; omega
        have hbb:=Vy2 (r.take (2 ^ z)) (by omega)
        have hnn:=bev0 (r.take (2 ^ z)) (by omega)
        have hlt:=nv_lt (r.take (2 ^ z))
        rw [e2] at hbb hnn h10
        rw [hlen] at hbb hlt
        rw [← hnn] at hlt
        refine ⟨by omega,by omega,?_⟩
        rw [Vq6]
        have hz1:1≤2 ^ z:=Qba
        rcases Vhh n with ⟨a,b,d⟩ | ⟨a,j,hj,b,d,f⟩
        ·omega
        ·-- the number takes exactly these bytes
         have hjz:j=z:=by
          have h1:z≤j:=by
           rw [b] at h10
           exact (Qa5 (a:=2) (by omega)).1 (by omega)
          have h2:¬ z < j:=by
           intro hlt2
           have hs:sho n≤2 ^ z:=by
            unfold sho
            have hh:n.toNat < 256 ^ 2 ^ z:=hlt
            have hz4:z=0∨z=1∨z=2:=by omega
            rcases hz4 with rfl | rfl | rfl
            ·have:n.toNat < 256:=by simpa using hh
             cases decide (n.toNat < 24)<;>simp [this]
            ·have:n.toNat < 65536:=by simpa using hh
             cases decide (n.toNat < 24)<;>cases decide (n.toNat < 256)<;>simp [this]
            ·have:n.toNat < 4294967296:=by simpa using hh
             cases decide (n.toNat < 24)<;>cases decide (n.toNat < 256)<;>cases decide (n.toNat < 65536)<;>simp [this]
           rw [b] at hs
           have:=(Qa5 (a:=2) (by omega)).1 hs
           omega
          omega
         subst hjz
         rw [b,d,hbb,← e3,← e1,show 24+j=c.toNat % 32 by omega,← hc,Qs,Qa7]
    ·rw [h7] at h
     simp at h
  ·rw [hb] at h
   simp only [cond_true,Qf,true_and] at h
   obtain ⟨e1,e2,e3⟩:=h
   right; left
   unfold isB at hb
   simp only [Qao,decide_eq_true_eq] at hb
   rcases hb with rfl | rfl
   ·refine ⟨e1.symm,?_,?_⟩
    ·rw [← e2]; decide
    ·rw [← e2,e3]; rfl
   ·refine ⟨e1.symm,?_,?_⟩
    ·rw [← e2]; decide
    ·rw [← e2,e3]; rfl
def bodB (k:Int) (m:BitVec 64) (r:List UInt8):Int×ApiItem×List UInt8:=
 bif isN k then (bif decide (512 < m.toNat) then (8,default,[]) else (0,⟨k,m,[]⟩,r))
 else bif isD k then (bif decide (1024 < m.toNat) then (8,default,[]) else bif decide (r.length < m.toNat) then (1,default,[]) else (0,⟨k,0#64,r.take m.toNat⟩,r.drop m.toNat))
 else (0,⟨k,m,[]⟩,r)
def accB (key:Bool) (before:List UInt8) (q:Int×ApiItem×List UInt8):Int×ApiItem×List UInt8:=
 bif decide (q.1=0) then (acc q.2.1 key before,q.2.1,q.2.2) else q
def getB (n d:Nat) (key:Bool) (before:List UInt8) (s:List UInt8):Int×ApiItem×List UInt8:=
 bif !decide ((hdB s).1=0) then ((hdB s).1,default,[]) else
 bif !decide (adm (hdB s).2.1 n d key=0) then (adm (hdB s).2.1 n d key,default,[]) else
 accB key before (bodB (hdB s).2.1 (hdB s).2.2.1 (hdB s).2.2.2)
theorem Vq8 {n d:Nat} {key:Bool} {before s t:List UInt8} {k:Int} {m:BitVec 64} (h:hdB s=(0,k,m,t)) (ha:adm k n d key=0):getB n d key before s=accB key before (bodB k m t):=by
 unfold getB
 rw [h]
 dsimp only
 rw [ha]
 rfl
theorem Vy4 : GetOk getB := by
 constructor
 ·intro n d k b s x t h
  unfold getB at h
  by_cases h1:(hdB s).1=0
  ·rw [show decide ((hdB s).1=0)=true from decide_eq_true h1] at h
   by_cases h2:adm (hdB s).2.1 n d k=0
   ·rw [show decide (adm (hdB s).2.1 n d k=0)=true from decide_eq_true h2] at h
    simp only [Qc,cond_false] at h
    obtain ⟨a1,_,_,_,a5⟩:=Vbf h2
    refine ⟨a1,a5,?_⟩
    unfold accB bodB at h
    cases hN:isN (hdB s).2.1
    ·rw [hN] at h
     simp only [cond_false] at h
     cases hD:isD (hdB s).2.1
     ·rw [hD] at h
      simp only [cond_false,decide_true,cond_true,Qf] at h
      obtain ⟨_,rfl,_⟩:=h
      intro h3; dsimp only at h3; rw [hN] at h3; cases h3
     ·rw [hD] at h
      simp only [cond_true] at h
      cases c1:decide (1024 < (hdB s).2.2.1.toNat)
      ·rw [c1] at h
       cases c2:decide ((hdB s).2.2.2.length < (hdB s).2.2.1.toNat)
       ·rw [c2] at h
        simp only [cond_false,decide_true,cond_true,Qf] at h
        obtain ⟨_,rfl,_⟩:=h
        intro h3; dsimp only at h3; rw [hN] at h3; cases h3
       ·rw [c2] at h; simp at h
      ·rw [c1] at h; simp at h
    ·rw [hN] at h
     simp only [cond_true] at h
     cases c1:decide (512 < (hdB s).2.2.1.toNat)
     ·rw [c1] at h
      simp only [cond_false,decide_true,cond_true,Qf] at h
      obtain ⟨_,rfl,_⟩:=h
      intro _
      simp only [decide_eq_false_iff_not] at c1
      dsimp only; omega
     ·rw [c1] at h; simp at h
   ·rw [show decide (adm (hdB s).2.1 n d k=0)=false from decide_eq_false h2] at h
    simp only [Qc,cond_false,Qi,cond_true,Qf] at h
    exact absurd h.1 h2
  ·rw [show decide ((hdB s).1=0)=false from decide_eq_false h1] at h
   simp only [Qi,cond_true,Qf] at h
   exact absurd h.1 h1
 ·intro n d b b' s
  unfold getB accB acc
  simp only [Qo,cond_false]
theorem Vm4 {k:Int} (h:isD k=true):isN k=false:=by
 unfold isD at h
 simp only [Qao,decide_eq_true_eq] at h
 rcases h with rfl | rfl<;>rfl
theorem Vy5 {l:List UInt8} (h:l.length≤1024):(Qk 64 (l.length:Int)).toNat=l.length:=by
 rw [Q0,Qt,Qm (by omega)]
theorem Vaua {x:ApiItem} {n d:Nat} {key:Bool} {b:List UInt8} (h:chk x n d key b=0) (t:List UInt8):bodB x.kind (num x) (x.data++t)=(0,x,t):=by
 obtain ⟨c1,c2,c3,c4⟩:=Vax h
 obtain ⟨k1,k2,k3⟩:=Voa c1 c2
 obtain ⟨b1,b2⟩:=Vb7 c3
 obtain ⟨k,m,l⟩:=x
 dsimp only at *
 unfold bodB num
 dsimp only
 cases hN:isN k
 ·cases hD:isD k
  ·rw [k3 hD]; rfl
  ·have hm:m=0#64:=by
    unfold bad at c2
    dsimp only at c2
    rw [hD] at c2
    simp only [Qav,Qn,Qq,Q9,decide_eq_true_eq] at c2
    exact c2.1
   simp only [cond_true,cond_false]
   simp only [Vy5 b1]
   rw [show decide (1024 < l.length)=false from decide_eq_false (by omega),show decide ((l++t).length < l.length)=false from decide_eq_false (by rw [Qa]; omega),hm]
   simp
 ·have hD:isD k=false:=by
   cases hD:isD k
   ·rfl
   ·rw [Vm4 hD] at hN; cases hN
  rw [k3 hD,hD]
  simp only [cond_true,cond_false]
  rw [show decide (512 < m.toNat)=false from decide_eq_false (by have:=b2 hN; omega)]
  rfl
theorem byt01 {n:BitVec 64} (h:n.toNat≤1):n=0#64∨n=1#64:=by
 have:n.toNat=0∨n.toNat=1:=by omega
 rcases this with h | h
 ·left; exact Qw h
 ·right; exact Qw h
theorem kin8 {x:ApiItem} (h:kin x):(x.kind≠7∧x.kind≠8∧1≤x.kind∧x.kind≤6)∨x.kind=7∨x.kind=8:=by
 obtain ⟨h1,h2,_⟩:=h
 omega
theorem bad7 {x:ApiItem} (h:bad x=false) (h7:x.kind=7):x.number.toNat≤1:=by
 unfold bad at h
 rw [h7] at h
 simp only [decide_true,Qn,Qq,decide_eq_false_iff_not] at h
 have:=h.2.1
 omega
theorem bad8 {x:ApiItem} (h:bad x=false) (h8:x.kind=8):x.number=0#64:=by
 unfold bad at h
 rw [h8] at h
 simp only [decide_true,Qaw,Qn,Qq,Q9,decide_eq_true_eq] at h
 exact h.1
theorem Vy6 {x:ApiItem} {n d:Nat} {key:Bool} {b:List UInt8} (h:chk x n d key b=0) (t:List UInt8):hdB (hdI x++t)=(0,x.kind,num x,t):=by
 obtain ⟨c1,c2,c3,c4⟩:=Vax h
 have hk:=Voa c1 c2
 rcases kin8 hk with ⟨q1,q2,q3,q4⟩ | h7 | h8
 ·unfold hdI
  rw [show decide (x.kind=7)=false from decide_eq_false q1,show decide (x.kind=8)=false from decide_eq_false q2]
  exact Vy3 q3 q4 _ _
 ·unfold hdI num
  rw [h7]
  rcases byt01 (bad7 c2 h7) with e | e<;>rw [e]<;>rfl
 ·unfold hdI num
  rw [h8,bad8 c2 h8]
  rfl
theorem Vvr {x:ApiItem} {n d:Nat} {key:Bool} {b:List UInt8} (h:chk x n d key b=0) (t:List UInt8):getB n d key b (enc x++t)=(0,x,t):=by
 have e:enc x++t=hdI x++(x.data++t):=by unfold enc; rw [Qd]
 rw [e,Vq8 (Vy6 h _) (Vax h).1,Vaua h]
 unfold accB
 simp [(Vax h).2.2.2]
theorem Vli {x:ApiItem} {n d:Nat} {key:Bool} {b s t:List UInt8} (h:getB n d key b s=(0,x,t)):s=enc x++t∧chk x n d key b=0:=by
 unfold getB at h
 by_cases h1:(hdB s).1=0
 ·rw [show decide ((hdB s).1=0)=true from decide_eq_true h1] at h
  by_cases h2:adm (hdB s).2.1 n d key=0
  ·rw [show decide (adm (hdB s).2.1 n d key=0)=true from decide_eq_true h2] at h
   simp only [Qc,cond_false] at h
   generalize hh:hdB s=q at h h1 h2
   obtain ⟨e,k,m,r⟩:=q
   dsimp only at h h1 h2
   subst h1
   -- the body
   have hbod:(bodB k m r).1=0∧(bodB k m r).2.1=x∧(bodB k m r).2.2=t∧acc x key b=0:=by
    unfold accB at h
    by_cases h3:(bodB k m r).1=0
    ·rw [show decide ((bodB k m r).1=0)=true from decide_eq_true h3] at h
     simp only [cond_true,Qf] at h
     exact ⟨h3,h.2.1,h.2.2,by rw [← h.2.1]; exact h.1⟩
    ·rw [show decide ((bodB k m r).1=0)=false from decide_eq_false h3] at h
     simp only [cond_false] at h
     rw [h] at h3
     exact absurd rfl h3
   obtain ⟨q1,q2,q3,q4⟩:=hbod
   have main : x.kind = k∧num x = m∧r = x.data++t∧big x = false∧(isD k = true→x.number = 0#64)∧(isD k = false→x.data = []∧x.number = m) := by
    unfold bodB at q1 q2 q3
    cases hN:isN k
    ·rw [hN] at q1 q2 q3
     cases hD:isD k
     ·rw [hD] at q1 q2 q3
      simp only [cond_false] at q2 q3
      subst q2; subst q3
      refine ⟨rfl,?_,by simp,?_,by simp,by simp⟩
      ·unfold num; dsimp only; rw [hD]; rfl
      ·unfold big; dsimp only; rw [hN]; rfl
     ·rw [hD] at q1 q2 q3
      simp only [cond_false,cond_true] at q1 q2 q3
      cases g1:decide (1024 < m.toNat)
      ·rw [g1] at q1 q2 q3
       cases g2:decide (r.length < m.toNat)
       ·rw [g2] at q1 q2 q3
        simp only [cond_false] at q2 q3
        simp only [decide_eq_false_iff_not] at g1 g2
        subst q2; subst q3
        have hl:(r.take m.toNat).length=m.toNat:=by rw [Qz]; omega
        refine ⟨rfl,?_,by simp,?_,by simp,by simp⟩
        ·unfold num; dsimp only; rw [hD,hl]
         simp only [cond_true]
         apply Qw
         rw [Q0,Qt,Qm m.isLt]
        ·unfold big; dsimp only; rw [hN,hl,show decide (1024 < m.toNat)=false from decide_eq_false g1]; rfl
       ·rw [g2] at q1; simp at q1
      ·rw [g1] at q1; simp at q1
    ·have hD:isD k=false:=by
      cases hD:isD k
      ·rfl
      ·rw [Vm4 hD] at hN; cases hN
     rw [hN] at q1 q2 q3
     rw [hD]
     simp only [cond_true] at q1 q2 q3
     cases g1:decide (512 < m.toNat)
     ·rw [g1] at q1 q2 q3
      simp only [cond_false] at q2 q3
      subst q2; subst q3
      refine ⟨rfl,?_,by simp,?_,by simp,by simp⟩
      ·unfold num; dsimp only; rw [hD]; rfl
      ·unfold big; dsimp only; rw [hN,g1]; rfl
     ·rw [g1] at q1; simp at q1
   obtain ⟨m1,m2,m3,m4,m5,m6⟩:=main
   have hbk:=Vj3 hh
   have hbad:bad x=false:=by
    unfold bad
    rw [m1]
    rcases hbk with ⟨w1,w2,_⟩ | ⟨w1,w2,_⟩ | ⟨w1,w2,_⟩
    ·rw [show decide (k=8)=false from decide_eq_false (by omega),show decide (k=7)=false from decide_eq_false (by omega)]
     cases hD:isD k
     ·simp [(m6 hD).1]
     ·simp [m5 hD]
    ·subst w1
     have:=(m6 rfl)
     rw [this.1,this.2]
     simp [isD]; omega
    ·subst w1
     have:=(m6 rfl)
     rw [this.1,this.2,w2]
     rfl
   refine ⟨?_,?_⟩
   ·have eh:s=hdI x++r:=by
     unfold hdI
     rw [m1,m2]
     rcases hbk with ⟨w1,w2,w3⟩ | ⟨w1,w2,w3⟩ | ⟨w1,w2,w3⟩
     ·rw [show decide (k=7)=false from decide_eq_false (by omega),show decide (k=8)=false from decide_eq_false (by omega)]
      exact w3
     ·subst w1
      rw [w3,(m6 rfl).2]; rfl
     ·subst w1
      rw [w3]; rfl
    rw [eh,m3]
    unfold enc
    rw [Qd]
   ·unfold chk
    rw [m1,h2,hbad,m4,q4]
    rfl
  ·rw [show decide (adm (hdB s).2.1 n d key=0)=false from decide_eq_false h2] at h
   simp only [Qc,cond_false,Qi,cond_true,Qf] at h
   exact absurd h.1 h2
 ·rw [show decide ((hdB s).1=0)=false from decide_eq_false h1] at h
  simp only [Qi,cond_true,Qf] at h
  exact absurd h.1 h1
theorem Vep {σ:Type} (get:Nat→Nat→Bool→List UInt8→σ→Int×ApiItem×σ) (f:Nat) (S:List CborFrame) (n:Nat) (s:σ):(decide (0 < n)&&S.isEmpty)=true∧mach get (f+1) S n s=(0,[],s)∨(decide (0 < n)&&S.isEmpty)=false∧(get n S.length (atK S) (lst S) s).1≠0∧mach get (f+1) S n s=((get n S.length (atK S) (lst S) s).1,[],s)∨(decide (0 < n)&&S.isEmpty)=false∧∃ x t,get n S.length (atK S) (lst S) s=(0,x,t)∧mach get (f+1) S n s=((mach get f (nxt x S) (n+1) t).1,x::(mach get f (nxt x S) (n+1) t).2.1,(mach get f (nxt x S) (n+1) t).2.2):=by
 cases hS:(decide (0 < n)&&S.isEmpty)
 ·right
  by_cases hg:(get n S.length (atK S) (lst S) s).1=0
  ·right
   have e:get n S.length (atK S) (lst S) s=(0,(get n S.length (atK S) (lst S) s).2.1,(get n S.length (atK S) (lst S) s).2.2):=by rw [← hg]
   exact ⟨rfl,_,_,e,Vb6 hS e⟩
  ·left
   refine ⟨rfl,hg,Vdh hS (x:=(get n S.length (atK S) (lst S) s).2.1) (t:=(get n S.length (atK S) (lst S) s).2.2) rfl hg⟩
 ·left
  refine ⟨rfl,?_⟩
  unfold mach
  rw [hS]; rfl
theorem Vhi {n d:Nat} {key:Bool} {b:List UInt8} {l:List ApiItem} {x:ApiItem} {t:List ApiItem} (h:getL n d key b l=(0,x,t)):l=x::t∧chk x n d key b=0:=by
 cases l with
 | nil=>simp [getL] at h
 | cons y r=>
  simp only [getL,Qf] at h
  obtain ⟨h1,rfl,rfl⟩:=h
  exact ⟨rfl,h1⟩
theorem Vhj (x:ApiItem) (l:List ApiItem):encA (x::l)=enc x++encA l:=by unfold encA; rw [Qau]
theorem Vq9:∀ (f:Nat) (S:List CborFrame) (n:Nat) (l:List ApiItem) (o r:List ApiItem) (t:List UInt8),mach getL f S n l=(0,o,r)→mach getB f S n (encA o++t)=(0,o,t)
 | 0,S,n,l,o,r,t,h=>by simp [mach] at h
 | f+1,S,n,l,o,r,t,h=>by
  rcases Vep getL f S n l with ⟨h1,h2⟩ | ⟨h1,h2,h3⟩ | ⟨h1,x,u,h2,h3⟩
  ·rw [h2] at h
   simp only [Qf,true_and] at h
   obtain ⟨rfl,rfl⟩:=h
   unfold mach
   rw [h1]; rfl
  ·rw [h3] at h
   simp only [Qf] at h
   exact absurd h.1 h2
  ·rw [h3] at h
   simp only [Qf] at h
   obtain ⟨g1,g2,g3⟩:=h
   obtain ⟨_,hc⟩:=Vhi h2
   generalize hm:mach getL f (nxt x S) (n+1) u=m at g1 g2 g3
   obtain ⟨m1,m2,m3⟩:=m
   dsimp only at g1 g2 g3
   subst g1; subst g2; subst g3
   have ih:=Vq9 f (nxt x S) (n+1) u m2 m3 t hm
   rw [Vhj,Qd,Vb6 h1 (Vvr hc _),ih]
theorem Vra:∀ (f:Nat) (S:List CborFrame) (n:Nat) (s:List UInt8) (o:List ApiItem) (t:List UInt8),mach getB f S n s=(0,o,t)→s=encA o++t∧∀ r,mach getL f S n (o++r)=(0,o,r)
 | 0,S,n,s,o,t,h=>by simp [mach] at h
 | f+1,S,n,s,o,t,h=>by
  rcases Vep getB f S n s with ⟨h1,h2⟩ | ⟨h1,h2,h3⟩ | ⟨h1,x,u,h2,h3⟩
  ·rw [h2] at h
   simp only [Qf,true_and] at h
   obtain ⟨rfl,rfl⟩:=h
   refine ⟨rfl,fun r=>?_⟩
   unfold mach
   rw [h1]; rfl
  ·rw [h3] at h
   simp only [Qf] at h
   exact absurd h.1 h2
  ·rw [h3] at h
   simp only [Qf] at h
   obtain ⟨g1,g2,g3⟩:=h
   obtain ⟨he,hc⟩:=Vli h2
   generalize hm:mach getB f (nxt x S) (n+1) u=m at g1 g2 g3
   obtain ⟨m1,m2,m3⟩:=m
   dsimp only at g1 g2 g3
   subst g1; subst g2; subst g3
   obtain ⟨i1,i2⟩:=Vra f (nxt x S) (n+1) u m2 m3 hm
   refine ⟨by rw [Vhj,Qd,← i1,he],fun r=>?_⟩
   rw [Qs,Vb6 h1 (show getL n S.length (atK S) (lst S) (x::(m2++r))=(0,x,m2++r) by simp [getL,hc]),i2 r]
def decO (b:List UInt8):List ApiItem×Int×Int:=bif decide ((mach getB 600 [] 0 b).1=0) then ((mach getB 600 [] 0 b).2.1,((b.length - (mach getB 600 [] 0 b).2.2.length:Nat):Int),0) else ([],0,(mach getB 600 [] 0 b).1)
theorem Vod {o:List ApiItem} (h:valO o=0) (t:List UInt8):decO (encA o++t)=(o,((encA o).length:Int),0):=by
 have:=Vq9 600 [] 0 o o [] t (Vdc h).1
 unfold decO
 rw [this]
 simp
theorem Vrb {b:List UInt8} (h:(decO b).2.2=0):valO (decO b).1=0∧∃ t,b=encA (decO b).1++t∧(decO b).2.1=((encA (decO b).1).length:Int):=by
 unfold decO at h ⊢
 by_cases h1:(mach getB 600 [] 0 b).1=0
 ·rw [show decide ((mach getB 600 [] 0 b).1=0)=true from decide_eq_true h1] at h ⊢
  simp only [cond_true]
  have e:mach getB 600 [] 0 b=(0,(mach getB 600 [] 0 b).2.1,(mach getB 600 [] 0 b).2.2):=by rw [← h1]
  obtain ⟨i1,i2⟩:=Vra _ _ _ _ _ _ e
  have i3:=i2 []
  rw [Qy] at i3
  refine ⟨?_,_,i1,?_⟩
  ·unfold valO
   rw [i3]; rfl
  ·have:=congrArg List.length i1
   rw [Qa] at this
   omega
 ·rw [show decide ((mach getB 600 [] 0 b).1=0)=false from decide_eq_false h1] at h
  simp only [cond_false] at h
  exact absurd h h1
theorem Vlj {σ τ ρ ρ':Type} {f:σ→Option (σ⊕ρ)} {f':τ→Option (τ⊕ρ')} {e:σ→τ} {g:ρ→ρ'} (h:∀ s,f' (e s)=(f s).map (Sum.map e g)):∀ n s,iter f' n (e s)=(iter f n s).map g
 | 0,s=>rfl
 | n+1,s=>by
  rw [Vad,Vad,h s]
  cases hs:f s with
  | none=>rfl
  | some z=>
   cases z with
   | inl q=>exact Vlj h n q
   | inr r=>rfl
theorem Vd4 {α β γ δ:Type} {X:Option α} {X':Option β} {e:α→β} {F:α→Option γ} {F':β→Option δ} {g:γ→δ} (h1:X'=X.map e) (h2:∀ y,F' (e y)=(F y).map g):X'.bind F'=(X.bind F).map g:=by
 rw [h1]
 cases X with
 | none=>rfl
 | some y=>exact h2 y
theorem Van {α γ δ:Type} {X:Option α} {F:α→Option γ} {F':α→Option δ} {g:γ→δ} (h2:∀ y,F' y=(F y).map g):X.bind F'=(X.bind F).map g:=by
 cases X with
 | none=>rfl
 | some y=>exact h2 y
theorem Vaj {γ δ:Type} {c:Bool} {a b:Option γ} {a' b':Option δ} {g:γ→δ} (h1:a'=a.map g) (h2:b'=b.map g):(bif c then a' else b')=(bif c then a else b).map g:=by
 cases c
 ·exact h2
 ·exact h1
abbrev Wk:=List CborFrame×Int×Unit
abbrev Rd:=List CborFrame×Int×List UInt8×Int×Unit
def rdo (bs:List UInt8) (at0:Int) (w:Wk):Rd:=(w.1,w.2.1,bs,at0,())
theorem Vpt (bs:List UInt8) (at0:Int) (y:Wk×Int×Unit):Zcj_L0 (rdo bs at0 y.1,y.2.1,())=(Zdd_L0 y).map fun z=>(rdo bs at0 z.1,()):=by
 unfold Zcj_L0 Zdd_L0
 refine Vlj (e:=fun y:Wk×Int×Unit=>((rdo bs at0 y.1,y.2.1,()):Rd×Int×Unit)) (g:=fun z:Wk×Unit=>((rdo bs at0 z.1,()):Rd×Unit)) (fun s=>?_) _ y
 dsimp only
 unfold Zcj_L0b Zdd_L0b rdo
 dsimp only
 refine Vaj (Vaj (Van fun x=>Vaj (Vaj (Vaj rfl rfl) rfl) rfl) rfl) rfl
theorem Vrc (bs:List UInt8) (at0:Int) (w:Wk) (x:ApiItem):Zcj (rdo bs at0 w) x=(Zdd w x).map fun r=>((rdo bs at0 r.1.1,()),()):=by
 unfold Zcj Zdd
 refine Vd4 (e:=fun j:Wk×(ApiItem×Unit)×Unit=>((rdo bs at0 j.1,j.2.1,()):Rd×(ApiItem×Unit)×Unit)) ?_ fun y=>?_
 ·exact Vaj (Vaj (Van fun x=>Vaj (Van fun y=>rfl) rfl) rfl) rfl
 ·refine Vd4 (e:=fun j:Wk×(ApiItem×Unit)×Unit=>((rdo bs at0 j.1,j.2.1,()):Rd×(ApiItem×Unit)×Unit)) ?_ fun y=>?_
  ·exact Vaj (Vaj (Vaj rfl rfl) rfl) rfl
  ·refine Vd4 (e:=fun j:Wk×Unit=>((rdo bs at0 j.1,()):Rd×Unit)) ?_ fun y=>?_
   ·exact Vaj (Vaj (Vaj rfl rfl) rfl) rfl
   ·refine Vd4 (e:=fun j:Wk×Unit=>((rdo bs at0 j.1,()):Rd×Unit)) (Vpt bs at0 (y.1,(y.1.1.length:Int),())) fun z=>rfl
theorem Vm5 (bs:List UInt8) (at0:Int) (w:Wk) (x:ApiItem):Zbk (rdo bs at0 w) x=(Zci w x).map fun r=>((rdo bs at0 r.1.1,()),r.2):=by
 have K:∀ w:Wk,(Zcj (rdo bs at0 w) x).bind (fun r13=>some (((r13.1.1.1,r13.1.1.2.1,r13.1.1.2.2.1,r13.1.1.2.2.2.1,()),()),((0:Int),())))=((Zdd w x).bind (fun r25=>some (((r25.1.1.1,r25.1.1.2.1,()),()),((0:Int),())))).map fun (r:(Wk×Unit)×(Int×Unit))=>(((rdo bs at0 r.1.1,()),r.2):(Rd×Unit)×(Int×Unit)):=fun w=>
  Vd4 (Vrc bs at0 w x) fun z=>rfl
 unfold Zbk Zci
 refine Vaj (Van fun r=>Vaj rfl (Van fun r2=>Vaj (Vaj (Van fun r3=>Van fun x4=>Vaj (Van fun x5=>Van fun r6=>Vaj rfl (Van fun x7=>Vaj rfl (K (_,_,())))) (Van fun x10=>Vaj rfl (K (_,_,())))) rfl) (K (_,_,())))) (Van fun r2=>Vaj (Vaj (Van fun r3=>Van fun x4=>Vaj (Van fun x5=>Van fun r6=>Vaj rfl (Van fun x7=>Vaj rfl (K (_,_,())))) (Van fun x10=>Vaj rfl (K (_,_,())))) rfl) (K (_,_,())))
theorem Vpu (bs:List UInt8) (at0:Int) (S:List CborFrame) (n:Nat) (x:ApiItem) (hk:kin x) (hd:x.data.length < 100000) (hl:S.length < 100000) (hn:n < 1000000) (hw:∀ f∈S,-10≤f.left∧f.left≤2000) (hx:isN x.kind=true→x.number.toNat≤512) :
  Zbk (S.reverse,(n:Int),bs,at0,()) x=some (bif decide (acc x (atK S) (lst S)=0) then ((((nxt x S).reverse,((n+1:Nat):Int),bs,at0,()),()),(0,())) else (((S.reverse,(n:Int),bs,at0,()),()),(acc x (atK S) (lst S),()))):=by
 have:=Vm5 bs at0 (S.reverse,(n:Int),()) x
 rw [Vff S n x hk hd hl hn hw hx] at this
 refine Eq.trans this ?_
 unfold res
 by_cases h:acc x (atK S) (lst S)=0
 ·rw [h]; rfl
 ·rw [show decide (acc x (atK S) (lst S)=0)=false from decide_eq_false h]; rfl
theorem Vvs (n:BitVec 64):Zdz n=some ((),(sho n:Int),()):=by
 unfold Zdz sho
 rw [show (24#64).toNat=24 from rfl,show (256#64).toNat=256 from rfl,show (65536#64).toNat=65536 from rfl,show (4294967296#64).toNat=4294967296 from rfl]
 cases decide (n.toNat < 24)<;>cases decide (n.toNat < 256)<;>cases decide (n.toNat < 65536)<;>cases decide (n.toNat < 4294967296)<;>rfl
theorem Vbj {α:Type} {l:List α} {i:Nat} {x:α} (h:l[i]? = some x):getI l (i:Int)=some x:=by unfold getI; simp [h]
theorem headL (st:Rd) (k:Int) (sz:Int) (l:List UInt8) (hl:l.length < 1000):Zcg_L1 (st,k,0#64,sz,l,(l.length:Int),0,())=some ((st.1,st.2.1,st.2.2.1,st.2.2.2.1,()),k,bev 0#64 l,sz,()):=by
 have key:∀ (r:List UInt8) (j f:Nat) (v:BitVec 64),l.drop j=r→j≤l.length→r.length < f→iter (fun (y:(Rd×Int×(BitVec 64)×Int×(List (UInt8))×Int×Int×Unit))=>Zcg_L1b y.1 y.2.1 y.2.2.1 y.2.2.2.1 y.2.2.2.2.1 y.2.2.2.2.2.1 y.2.2.2.2.2.2.1) f (st,k,v,sz,l,(l.length:Int),(j:Int),())=some ((st.1,st.2.1,st.2.2.1,st.2.2.2.1,()),k,bev v r,sz,()):=by
  intro r
  induction r with
  | nil=>
   intro j f v hr hj hf
   obtain ⟨f,rfl⟩:∃ g,f=g+1:=⟨f - 1,by omega⟩
   have hjl:j=l.length:=by
    have:=congrArg List.length hr
    simp at this
    omega
   rw [Vad]
   dsimp only
   unfold Zcg_L1b
   rw [show decide ((j:Int) < (l.length:Int))=false from decide_eq_false (by omega)]
   rfl
  | cons c r ih=>
   intro j f v hr hj hf
   obtain ⟨f,rfl⟩:∃ g,f=g+1:=⟨f - 1,by omega⟩
   have hjl:j < l.length:=by
    have:=congrArg List.length hr
    simp at this
    omega
   have hx:l[j]? = some c:=by
    have:=congrArg (·[0]?) hr
    simpa using this
   have hr2:l.drop (j+1)=r:=by
    have:=congrArg (Q6 1) hr
    simpa [Qx] using this
   rw [Vad]
   dsimp only
   unfold Zcg_L1b
   rw [show decide ((j:Int) < (l.length:Int))=true from decide_eq_true (by omega),Vbj hx,Vac (n:=(j:Int)+1) (by omega) (by omega)]
   simp only [cond_true,bindS,Qp]
   exact ih (j+1) f _ hr2 (by omega) (by simp at hf; omega)
 unfold Zcg_L1
 exact key l 0 rounds 0#64 rfl (by omega) (by rw [Vae]; omega)
theorem u8lt (a:UInt8) (n:UInt8):decide (a.toBitVec.toNat < n.toBitVec.toNat)=decide (a.toNat < n.toNat):=rfl
theorem Vy7:∀ c:Fin 256,(Qe ((Qv c.val).toBitVec >>> 5)).toNat=c.val / 32∧(Qe ((Qv c.val).toBitVec &&& (31:UInt8).toBitVec)).toNat=c.val % 32:=by decide +kernel
theorem Vxn (c:UInt8):(Qe (c.toBitVec >>> 5)).toNat=c.toNat / 32∧(Qe (c.toBitVec &&& (31:UInt8).toBitVec)).toNat=c.toNat % 32:=by
 have:=Vy7 ⟨c.toNat,c.toNat_lt⟩
 dsimp only at this
 rwa [Qat] at this
theorem Vy8:∀ j:Fin 4,(Qe ((Qv (24+j.val)).toBitVec - (24:UInt8).toBitVec)).toNat=j.val:=by decide +kernel
theorem Vava {v:UInt8} (h1:24≤v.toNat) (h2:v.toNat≤27):(Qe (v.toBitVec - (24:UInt8).toBitVec)).toNat=v.toNat - 24:=by
 have:=Vy8 ⟨v.toNat - 24,by omega⟩
 dsimp only at this
 rw [show 24+(v.toNat - 24)=v.toNat by omega,Qat] at this
 exact this
theorem setw (v:UInt8):Qr 64 v.toBitVec=Qg 64 v.toNat:=by
 apply Qw
 have:=v.toNat_lt
 rw [Qaj,Qt]
 rfl
theorem Vxo (a b:UInt8):decide (a.toBitVec=b.toBitVec)=decide (a=b):=by
 rw [decide_eq_decide]
 exact ⟨fun h=>UInt8.toBitVec_inj.1 h,fun h=>by rw [h]⟩
theorem Vbk {α:Type} {l:List α} {j:Nat} {c:α} {r:List α} (h:l.drop j=c::r):l[j]? = some c∧l.drop (j+1)=r∧j < l.length∧l.length=j+1+r.length:=by
 refine ⟨?_,?_,?_,?_⟩
 ·have:=congrArg (·[0]?) h
  simpa using this
 ·have:=congrArg (Q6 1) h
  simpa [Qx] using this
 ·have:=congrArg List.length h
  simp at this
  omega
 ·have:=congrArg List.length h
  simp at this
  omega
theorem Vrd {z:Nat} (h:z≤3):1≤2 ^ z∧2 ^ z≤8:=⟨Qba,Qal (Qab (by omega) h) (by omega)⟩
theorem Vre {z:Nat} (h:z≤3):Qb .i64 ((1:Int) * 2 ^ (min z (Qaq .i64)))=((2 ^ z:Nat):Int):=by
 have hz:z=0∨z=1∨z=2∨z=3:=by omega
 rcases hz with rfl | rfl | rfl | rfl<;>decide
theorem Vy9 (o:List CborFrame) (n:Int) (bs:List UInt8) (at0:Nat) (hat:at0≤bs.length) (hbs:bs.length < 1000000) :
  ∃ at1:Nat,at1≤bs.length∧Zcg (o,n,bs,(at0:Int),())=some (((o,n,bs,(at1:Int),()),()),((hdB (bs.drop at0)).2.1,(hdB (bs.drop at0)).2.2.1,(hdB (bs.drop at0)).1,()))∧((hdB (bs.drop at0)).1=0→bs.drop at1=(hdB (bs.drop at0)).2.2.2):=by
 unfold Zcg
 dsimp only
 cases hs:bs.drop at0 with
 | nil=>
  have:=congrArg List.length hs
  simp at this
  rw [show decide ((bs.length:Int)≤(at0:Int))=true from decide_eq_true (by omega)]
  exact ⟨at0,hat,rfl,fun h=>by simp [hdB] at h⟩
 | cons c r=>
  obtain ⟨d1,d2,d3,d4⟩:=Vbk hs
  rw [show decide ((bs.length:Int)≤(at0:Int))=false from decide_eq_false (by omega),Vbj d1]
  simp only [cond_false,bindS,Vxo]
  rw [Vac (n:=(at0:Int)+1) (by omega) (by omega),show (at0:Int)+1=((at0+1:Nat):Int) from rfl]
  obtain ⟨m1,m2⟩:=Vxn c
  simp only [hdB]
  by_cases hB:isB c=true
  ·rw [hB]
   have hb:=hB
   unfold isB at hb
   simp only [Qao,decide_eq_true_eq] at hb
   rcases hb with rfl | rfl
   ·exact ⟨at0+1,by omega,rfl,fun _=>d2⟩
   ·exact ⟨at0+1,by omega,rfl,fun _=>d2⟩
  ·have hB':isB c=false:=by cases h:isB c; rfl; exact absurd h hB
   have hb:=hB'
   unfold isB at hb
   simp only [Qq,decide_eq_false_iff_not] at hb
   rw [hB',show decide (c=244)=false from decide_eq_false hb.1,show decide (c=245)=false from decide_eq_false hb.2]
   by_cases h6:c=246
   ·rw [show decide (c=246)=true from decide_eq_true h6]
    exact ⟨at0+1,by omega,rfl,fun _=>d2⟩
   ·rw [show decide (c=246)=false from decide_eq_false h6]
    simp only [cond_false,bindS,Qp]
    rw [u8lt,u8lt,u8lt,m1,m2,show (5:UInt8).toNat=5 from rfl,show (27:UInt8).toNat=27 from rfl,show (24:UInt8).toNat=24 from rfl]
    by_cases q1:5 < c.toNat / 32
    ·rw [show decide (5 < c.toNat / 32)=true from decide_eq_true q1]
     exact ⟨at0+1,by omega,rfl,fun h=>by simp at h⟩
    ·rw [show decide (5 < c.toNat / 32)=false from decide_eq_false q1]
     by_cases q2:27 < c.toNat % 32
     ·rw [show decide (27 < c.toNat % 32)=true from decide_eq_true q2]
      exact ⟨at0+1,by omega,rfl,fun h=>by simp at h⟩
     ·rw [show decide (27 < c.toNat % 32)=false from decide_eq_false q2]
      simp only [cond_false,Qac]
      have ek:Qb .i64 ((1:Int)+((Qe (c.toBitVec >>> 5)).toBitVec.toNat:Int))=((c.toNat / 32:Nat):Int)+1:=by
       rw [show ((Qe (c.toBitVec >>> 5)).toBitVec.toNat:Int)=((c.toNat / 32:Nat):Int) by rw [← m1]; rfl,Vac (by omega) (by omega)]
       omega
      rw [ek]
      by_cases q3:c.toNat % 32 < 24
      ·rw [show decide (c.toNat % 32 < 24)=true from decide_eq_true q3,setw,m2]
       exact ⟨at0+1,by omega,rfl,fun _=>d2⟩
      ·rw [show decide (c.toNat % 32 < 24)=false from decide_eq_false q3,Vava (by omega) (by omega),m2]
       generalize hz:c.toNat % 32 - 24=z
       have hz3:z≤3:=by omega
       obtain ⟨p1,p8⟩:=Vrd hz3
       rw [Vre hz3,Vac (n:=(bs.length:Int) - ((at0+1:Nat):Int)) (by omega) (by omega)]
       simp only [cond_false]
       by_cases q4:r.length < 2 ^ z
       ·rw [show decide ((bs.length:Int) - ((at0+1:Nat):Int) < ((2 ^ z:Nat):Int))=true from decide_eq_true (by omega),show decide (r.length < 2 ^ z)=true from decide_eq_true q4]
        exact ⟨at0+1,by omega,rfl,fun h=>by simp at h⟩
       ·rw [show decide ((bs.length:Int) - ((at0+1:Nat):Int) < ((2 ^ z:Nat):Int))=false from decide_eq_false (by omega),show decide (r.length < 2 ^ z)=false from decide_eq_false q4,Vac (n:=((at0+1:Nat):Int)+((2 ^ z:Nat):Int)) (by omega) (by omega),show (((at0+1:Nat):Int)+((2 ^ z:Nat):Int))=((at0+1+2 ^ z:Nat):Int) from rfl]
        simp only [cond_false,Ql]
        rw [show (decide ((0:Int)≤((at0+1+2 ^ z:Nat):Int))&&decide (((at0+1+2 ^ z:Nat):Int)≤(bs.length:Int)))=true by (rw [Qh,decide_eq_true_eq,decide_eq_true_eq]; exact ⟨by omega,by omega⟩),show (decide ((0:Int)≤((at0+1:Nat):Int))&&decide (((at0+1:Nat):Int)≤((at0+1+2 ^ z:Nat):Int)))=true by (rw [Qh,decide_eq_true_eq,decide_eq_true_eq]; exact ⟨by omega,by omega⟩)]
        simp only [cond_true]
        have hv:Q6 (at0+1) (Qah (at0+1+2 ^ z) bs)=r.take (2 ^ z):=by
         rw [Qaa,d2,show at0+1+2 ^ z - (at0+1)=2 ^ z by omega]
        have hvl:(r.take (2 ^ z)).length=2 ^ z:=by rw [Qz]; omega
        rw [hv,headL _ _ _ _ (by omega)]
        simp only [bindS,Vvs]
        rw [Vac (n:=((at0+1:Nat):Int)+((2 ^ z:Nat):Int)) (by omega) (by omega),show (((at0+1:Nat):Int)+((2 ^ z:Nat):Int))=((at0+1+2 ^ z:Nat):Int) from rfl,show decide ((sho (bev 0#64 (r.take (2 ^ z))):Int) < ((2 ^ z:Nat):Int))=decide (sho (bev 0#64 (r.take (2 ^ z))) < 2 ^ z) by rw [decide_eq_decide]; omega]
        refine ⟨at0+1+2 ^ z,by omega,?_,?_⟩
        ·cases decide (sho (bev 0#64 (r.take (2 ^ z))) < 2 ^ z)<;>rfl
        ·cases decide (sho (bev 0#64 (r.take (2 ^ z))) < 2 ^ z)
         ·intro _
          show bs.drop (at0+1+2 ^ z)=r.drop (2 ^ z)
          rw [← d2,Qx]
         ·intro h; simp at h
def RdOut (S:List CborFrame) (n:Nat) (bs:List UInt8) (g:Int×ApiItem×List UInt8) (z:Option ((Rd×Unit)×(ApiItem×Int×Unit))):Prop:=
 ∃ at1:Nat,at1≤bs.length∧(g.1=0→bs.drop at1=g.2.2∧z=some ((((nxt g.2.1 S).reverse,((n+1:Nat):Int),bs,(at1:Int),()),()),(g.2.1,0,())))∧(g.1≠0→∃ st y,z=some (st,(y,g.1,())))
theorem Vco {S:List CborFrame} {n:Nat} {bs:List UInt8} {e:Int} {x:ApiItem} {t:List UInt8} {st:Rd×Unit} {y:ApiItem} (he:e≠0):RdOut S n bs (e,x,t) (some (st,(y,e,()))):=
 ⟨0,by omega,fun h=>absurd h he,fun _=>⟨_,_,rfl⟩⟩
def tailR (st:Rd) (x:ApiItem):Option ((Rd × Unit) × (ApiItem × Int × Unit)):=
  (Zbk (st.1,st.2.1,st.2.2.1,st.2.2.2.1,()) x).bind fun r20=>(bif (!decide (r20.2.1=(0:Int))) then (some (((r20.1.1.1,r20.1.1.2.1,r20.1.1.2.2.1,r20.1.1.2.2.2.1,()),()),((⟨(0:Int),0#64,([]:List UInt8)⟩:ApiItem),r20.2.1,())))
 else (some (((r20.1.1.1,r20.1.1.2.1,r20.1.1.2.2.1,r20.1.1.2.2.2.1,()),()),(x,(0:Int),()))))
theorem Vm6 {S:List CborFrame} {n:Nat} {bs:List UInt8} {at1:Nat} {x:ApiItem} {t:List UInt8} (hS:WS S) (hn:n≤512) (hat:at1≤bs.length) (ht:bs.drop at1=t) (hk:kin x) (hd:x.data.length≤1024) (hx:isN x.kind=true→x.number.toNat≤512) :
  RdOut S n bs (accB (atK S) (lst S) (0,x,t)) (tailR (S.reverse,(n:Int),bs,(at1:Int),()) x):=by
 unfold tailR
 dsimp only
 rw [Vpu bs (at1:Int) S n x hk (by omega) (by have:=hS.2.2; omega) (by omega) (fun f hf=>by have:=hS.1 f hf; omega) hx]
 simp only [bindS,accB,decide_true,cond_true]
 by_cases h:acc x (atK S) (lst S)=0
 ·rw [h]
  exact ⟨at1,hat,fun _=>⟨ht,rfl⟩,fun h=>absurd rfl h⟩
 ·rw [show decide (acc x (atK S) (lst S)=0)=false from decide_eq_false h]
  simp only [cond_false]
  rw [show decide (acc x (atK S) (lst S)=0)=false from decide_eq_false h]
  exact Vco h
theorem Vawa (k:Int):k=5∨k=3∨k=6∨k=4∨(¬ k=5∧¬ k=3∧¬ k=6∧¬ k=4):=by omega
def datR (S:List CborFrame) (n:Int) (bs:List UInt8) (at1:Nat) (k:Int) (m:BitVec 64):Option ((Rd × Unit) × (ApiItem × Int × Unit)):=
  (bif decide ((1024#64).toNat < m.toNat) then some (((S.reverse,n,bs,(at1:Int),()),()),((⟨(0:Int),0#64,([]:List UInt8)⟩:ApiItem),(8:Int),()))
  else bif decide (Qb .i64 ((bs.length:Int) - (at1:Int)) < Qb .i64 (m.toNat:Int)) then some (((S.reverse,n,bs,(at1:Int),()),()),((⟨(0:Int),0#64,([]:List UInt8)⟩:ApiItem),(1:Int),()))
  else bif (decide ((0:Int) ≤ Qb .i64 ((at1:Int) + Qb .i64 (m.toNat:Int))) && decide (Qb .i64 ((at1:Int) + Qb .i64 (m.toNat:Int)) ≤ (bs.length:Int))) then
    (bif (decide ((0:Int) ≤ (at1:Int)) && decide ((at1:Int) ≤ ((Qb .i64 ((at1:Int) + Qb .i64 (m.toNat:Int))).toNat:Int))) then
      tailR (S.reverse,n,bs,Qb .i64 ((at1:Int) + Qb .i64 (m.toNat:Int)),()) ⟨k,0#64,Q6 ((at1:Int)).toNat (Qah (Qb .i64 ((at1:Int) + Qb .i64 (m.toNat:Int))).toNat bs)⟩
     else none)
  else none)
theorem Vxp {S:List CborFrame} {n:Nat} {bs:List UInt8} {at1:Nat} {k:Int} {m:BitVec 64} {t:List UInt8} (hS:WS S) (hn:n≤512) (hbs:bs.length < 1000000) (hat:at1≤bs.length) (ht:bs.drop at1=t) (hk:k=3∨k=4) :
  RdOut S n bs (accB (atK S) (lst S) (bodB k m t)) (datR S n bs at1 k m):=by
 have hD:isD k=true:=by rcases hk with rfl | rfl<;>rfl
 have hN:=Vm4 hD
 have htl:=congrArg List.length ht
 rw [Q5] at htl
 unfold datR bodB
 rw [hN,hD,show (1024#64).toNat=1024 from rfl]
 simp only [cond_true,cond_false]
 by_cases h1:1024 < m.toNat
 ·rw [show decide (1024 < m.toNat)=true from decide_eq_true h1]
  exact Vco (by decide)
 ·rw [show decide (1024 < m.toNat)=false from decide_eq_false h1,Vac (n:=(m.toNat:Int)) (by omega) (by omega),Vac (n:=(bs.length:Int) - (at1:Int)) (by omega) (by omega)]
  simp only [cond_false]
  by_cases h2:t.length < m.toNat
  ·rw [show decide (t.length < m.toNat)=true from decide_eq_true h2,show decide ((bs.length:Int) - (at1:Int) < (m.toNat:Int))=true from decide_eq_true (by omega)]
   exact Vco (by decide)
  ·rw [show decide (t.length < m.toNat)=false from decide_eq_false h2,show decide ((bs.length:Int) - (at1:Int) < (m.toNat:Int))=false from decide_eq_false (by omega),Vac (n:=(at1:Int)+(m.toNat:Int)) (by omega) (by omega),show ((at1:Int)+(m.toNat:Int))=((at1+m.toNat:Nat):Int) from rfl]
   simp only [cond_false,Ql]
   rw [show (decide ((0:Int)≤((at1+m.toNat:Nat):Int))&&decide (((at1+m.toNat:Nat):Int)≤(bs.length:Int)))=true by (rw [Qh,decide_eq_true_eq,decide_eq_true_eq]; exact ⟨by omega,by omega⟩),show (decide ((0:Int)≤(at1:Int))&&decide ((at1:Int)≤((at1+m.toNat:Nat):Int)))=true by (rw [Qh,decide_eq_true_eq,decide_eq_true_eq]; exact ⟨by omega,by omega⟩)]
   simp only [cond_true]
   have hv:Q6 at1 (Qah (at1+m.toNat) bs)=t.take m.toNat:=by
    rw [Qaa,ht,show at1+m.toNat - at1=m.toNat by omega]
   rw [hv]
   refine Vm6 hS hn (by omega) (by rw [← ht,Qx]) ?_ ?_ ?_
   ·refine ⟨?_,?_,?_⟩
    ·dsimp only; omega
    ·dsimp only; omega
    ·intro h; dsimp only at h; rw [hD] at h; cases h
   ·dsimp only; rw [Qz]; omega
   ·intro h; dsimp only at h; rw [hN] at h; cases h
theorem Vvt (S:List CborFrame) (n:Nat) (bs:List UInt8) (at0:Nat) (hS:WS S) (hn:n≤512) (hbs:bs.length < 1000000) (hat:at0≤bs.length) :
  RdOut S n bs (getB n S.length (atK S) (lst S) (bs.drop at0)) (Zch (S.reverse,(n:Int),bs,(at0:Int),())):=by
 obtain ⟨at1,h1,h2,h3⟩:=Vy9 S.reverse (n:Int) bs at0 hat hbs
 generalize bs.drop at0=s at h2 h3 ⊢
 unfold Zch getB
 dsimp only
 rw [h2]
 simp only [bindS]
 have hB:=fun k m t=>Vj3 (s:=s) (k:=k) (n:=m) (t:=t)
 generalize hdB s=q at h3 hB ⊢
 obtain ⟨e,k,m,t⟩:=q
 dsimp only at h3 hB ⊢
 by_cases he:e=0
 ·subst he
  have ht:=h3 rfl
  have hbk:=hB k m t rfl
  simp only [decide_true,Qc,cond_false]
  rw [Vn9 S n k (by have:=hS.2.2; omega)]
  simp only [bindS]
  by_cases ha:adm k n S.length (atK S)=0
  ·rw [show decide (adm k n S.length (atK S)=0)=true from decide_eq_true ha]
   simp only [Qc,cond_false]
   obtain ⟨a1,a2,a3,a4,a5⟩:=Vbf ha
   have hnum:isN k=true→¬ 512 < m.toNat→RdOut S n bs (accB (atK S) (lst S) (bodB k m t)) (tailR (S.reverse,(n:Int),bs,(at1:Int),()) ⟨k,m,[]⟩):=by
    intro hN hm
    have:bodB k m t=(0,⟨k,m,[]⟩,t):=by
     unfold bodB
     rw [hN,show decide (512 < m.toNat)=false from decide_eq_false hm]; rfl
    rw [this]
    exact Vm6 hS hn h1 ht ⟨a2,a3,fun _=>rfl⟩ (by simp) (fun _=>by dsimp only; omega)
   have hbig:isN k=true→512 < m.toNat→bodB k m t=(8,default,[]):=by
    intro hN hm
    unfold bodB
    rw [hN,show decide (512 < m.toNat)=true from decide_eq_true hm]; rfl
   rcases Vawa k with rfl | rfl | rfl | rfl | ⟨g1,g2,g3,g4⟩
   ·simp only [decide_true,cond_true,show (512#64).toNat=512 from rfl]
    by_cases hm:512 < m.toNat
    ·rw [show decide (512 < m.toNat)=true from decide_eq_true hm,hbig rfl hm]
     exact Vco (by decide)
    ·rw [show decide (512 < m.toNat)=false from decide_eq_false hm]
     exact hnum rfl hm
   ·have:=Vxp (m:=m) hS hn hbs h1 ht (.inl rfl)
    refine Eq.mp (congrArg (RdOut S n bs _) ?_) this
    unfold datR
    simp only [Int.reduceEq,decide_true,decide_false,cond_true,cond_false]
    cases decide ((1024#64).toNat < m.toNat)
    ·simp only [cond_false]
     generalize decide (Qb .i64 ((bs.length:Int) - (at1:Int)) < Qb .i64 (m.toNat:Int))=c1
     cases c1
     ·simp only [cond_false]
      generalize (decide ((0:Int)≤Qb .i64 ((at1:Int)+Qb .i64 (m.toNat:Int)))&&decide (Qb .i64 ((at1:Int)+Qb .i64 (m.toNat:Int))≤(bs.length:Int)))=c2
      cases c2
      ·rfl
      ·simp only [cond_true]
       generalize (decide ((0:Int)≤(at1:Int))&&decide ((at1:Int)≤((Qb .i64 ((at1:Int)+Qb .i64 (m.toNat:Int))).toNat:Int)))=c3
       cases c3<;>rfl
     ·rfl
    ·rfl
   ·simp only [Int.reduceEq,decide_true,decide_false,cond_true,cond_false,show (512#64).toNat=512 from rfl]
    by_cases hm:512 < m.toNat
    ·rw [show decide (512 < m.toNat)=true from decide_eq_true hm,hbig rfl hm]
     exact Vco (by decide)
    ·rw [show decide (512 < m.toNat)=false from decide_eq_false hm]
     exact hnum rfl hm
   ·have:=Vxp (m:=m) hS hn hbs h1 ht (.inr rfl)
    refine Eq.mp (congrArg (RdOut S n bs _) ?_) this
    unfold datR
    simp only [Int.reduceEq,decide_true,decide_false,cond_true,cond_false]
    cases decide ((1024#64).toNat < m.toNat)
    ·simp only [cond_false]
     generalize decide (Qb .i64 ((bs.length:Int) - (at1:Int)) < Qb .i64 (m.toNat:Int))=c1
     cases c1
     ·simp only [cond_false]
      generalize (decide ((0:Int)≤Qb .i64 ((at1:Int)+Qb .i64 (m.toNat:Int)))&&decide (Qb .i64 ((at1:Int)+Qb .i64 (m.toNat:Int))≤(bs.length:Int)))=c2
      cases c2
      ·rfl
      ·simp only [cond_true]
       generalize (decide ((0:Int)≤(at1:Int))&&decide ((at1:Int)≤((Qb .i64 ((at1:Int)+Qb .i64 (m.toNat:Int))).toNat:Int)))=c3
       cases c3<;>rfl
     ·rfl
    ·rfl
   ·simp only [g1,g2,g3,g4,decide_false,cond_false,bindS,Qp]
    have:bodB k m t=(0,⟨k,m,[]⟩,t):=by
     unfold bodB isN isD
     simp [g1,g2,g3,g4]
    rw [this]
    have hN:isN k=false:=by unfold isN; simp [g1,g3]
    exact Vm6 hS hn h1 ht ⟨a2,a3,fun _=>rfl⟩ (by simp) (fun h=>by dsimp only at h; rw [hN] at h; cases h)
  ·rw [show decide (adm k n S.length (atK S)=0)=false from decide_eq_false ha]
   exact Vco ha
 ·rw [show decide (e=0)=false from decide_eq_false he]
  exact Vco he
theorem Vi7 {n d:Nat} {key:Bool} {b s:List UInt8} {x:ApiItem} {t:List UInt8} (h:getB n d key b s=(0,x,t)):chk x n d key b=0:=(Vli h).2
theorem Vlk (bs:List UInt8) (hbs:bs.length < 1000000):Zdr bs=some ((),(decO bs).1,(decO bs).2.1,(decO bs).2.2,()):=by
 have key:∀ (fuel:Nat) (S:List CborFrame) (n:Nat) (out:List ApiItem) (at0 f:Nat),WS S→n≤512→out.length=n→at0≤bs.length→600≤fuel+n→fuel≤f →
   (iter (fun (y:(List (ApiItem))×Rd×Unit)=>Zdr_L0b y.1 y.2.1) f (out,(S.reverse,(n:Int),bs,(at0:Int),()),())).bind (Qai (fun (z3:((List (ApiItem))×Int×Int×Unit))=>(some ((),(z3.1,z3.2.1,z3.2.2.1,())):Option (Unit×(List ApiItem×Int×Int×Unit)))) (fun (z4:((List (ApiItem))×Rd×Unit))=>(some ((),(z4.1,z4.2.1.2.2.2.1,(0:Int),())))))=some ((),(bif decide ((mach getB fuel S n (bs.drop at0)).1=0) then (out++(mach getB fuel S n (bs.drop at0)).2.1,((bs.length - (mach getB fuel S n (bs.drop at0)).2.2.length:Nat):Int),(0:Int),()) else ([],(0:Int),(mach getB fuel S n (bs.drop at0)).1,()))):=by
  intro fuel
  induction fuel with
  | zero=>intro S n out at0 f hS hn ho hat h6; omega
  | succ fuel ih=>
   intro S n out at0 f hS hn ho hat h6 hf
   obtain ⟨f,rfl⟩:∃ g,f=g+1:=⟨f - 1,by omega⟩
   rw [Vad]
   have hit:=Vvt S n bs at0 hS hn hbs hat
   have e1:Zdr_L0b out (S.reverse,(n:Int),bs,(at0:Int),())=bif decide (0 < n)&&S.isEmpty then some (Qae (Qae (out,(S.reverse,(n:Int),bs,(at0:Int),()),()))) else (Zch (S.reverse,(n:Int),bs,(at0:Int),())).bind fun r2=>(bif (!decide (r2.2.2.1=(0:Int))) then (some (Qae (Q7 ([],(0:Int),r2.2.2.1,())))) else (bif small ((out).length+(([r2.2.1]:List (ApiItem)):List (ApiItem)).length) 32 then (some (Q7 ((out++([r2.2.1]:List (ApiItem))),(r2.1.1.1,r2.1.1.2.1,r2.1.1.2.2.1,r2.1.1.2.2.2.1,()),()))) else none)):=by
    unfold Zdr_L0b
    dsimp only
    rw [Vm0]
    simp only [bindS]
    cases (decide (0 < n)&&S.isEmpty)<;>rfl
   dsimp only
   rw [e1]
   rcases Vep getB fuel S n (bs.drop at0) with ⟨h1,h2⟩ | ⟨h1,h2,h3⟩ | ⟨h1,x,t,h2,h3⟩
   ·rw [h1,h2]
    simp only [cond_true,bindS,Qak,decide_true,Qy,Q5]
    rw [show bs.length - (bs.length - at0)=at0 by omega]
   ·rw [h1,h3]
    obtain ⟨_,_,_,g3⟩:=hit
    obtain ⟨st,y,g4⟩:=g3 h2
    rw [g4]
    simp only [cond_false,bindS]
    rw [show decide ((getB n S.length (atK S) (lst S) (bs.drop at0)).1=0)=false from decide_eq_false h2]
    rfl
   ·rw [h1,h3]
    obtain ⟨at1,g1,g2,_⟩:=hit
    rw [h2] at g2
    obtain ⟨g3,g4⟩:=g2 rfl
    dsimp only at g3 g4
    rw [g4]
    have hc:=Vi7 h2
    have hn512:=(Vbf (Vax hc).1).1
    simp only [cond_false,bindS,decide_true,Qc,Qp]
    rw [Vc2 (by simp; omega)]
    simp only [cond_true,bindS,Qp]
    have:=ih (nxt x S) (n+1) (out++[x]) at1 f (Vxk hS hc) (by omega) (by simp; omega) g1 (by omega) (by omega)
    rw [g3] at this
    rw [this,Qd]
    rfl
 unfold Zdr Zdr_L0 decO
 have:=key 600 [] 0 [] 0 rounds ⟨by simp,trivial,by simp⟩ (by omega) rfl (by omega) (by omega) (by rw [Vae]; omega)
 refine Eq.trans this ?_
 rw [show bs.drop 0=bs from rfl,Qam]
 cases decide ((mach getB 600 [] 0 bs).1=0)<;>rfl
abbrev Rr:=List UInt8×Int×List ApiItem×Unit
theorem Vaxa (st:Rr) (x:ApiItem) (k:Int) (at0:Nat) (l:List UInt8) (hst:st.2.1=(at0:Int)) (hl:l.length < 1000) (h1:st.1.length < 1000000) (h2:(st.1.drop (at0+1)).take l.length=l):Zam_L1 (st,(x,()),k,(l.length:Int),0#64,0,())=some ((st.1,st.2.1,st.2.2.1,()),(x,()),k,(l.length:Int),bev 0#64 l,()):=by
 have key:∀ (r:List UInt8) (j f:Nat) (v:BitVec 64),l.drop j=r→j≤l.length→r.length < f→iter (fun (y:(Rr×(ApiItem×Unit)×Int×Int×(BitVec 64)×Int×Unit))=>Zam_L1b y.1 y.2.1 y.2.2.1 y.2.2.2.1 y.2.2.2.2.1 y.2.2.2.2.2.1) f (st,(x,()),k,(l.length:Int),v,(j:Int),())=some ((st.1,st.2.1,st.2.2.1,()),(x,()),k,(l.length:Int),bev v r,()):=by
  intro r
  induction r with
  | nil=>
   intro j f v hr hj hf
   obtain ⟨f,rfl⟩:∃ g,f=g+1:=⟨f - 1,by omega⟩
   have hjl:j=l.length:=by
    have:=congrArg List.length hr
    simp at this
    omega
   rw [Vad]
   dsimp only
   unfold Zam_L1b
   rw [show decide ((j:Int) < (l.length:Int))=false from decide_eq_false (by omega)]
   rfl
  | cons c r ih=>
   intro j f v hr hj hf
   obtain ⟨f,rfl⟩:∃ g,f=g+1:=⟨f - 1,by omega⟩
   obtain ⟨d1,d2,d3,d4⟩:=Vbk hr
   have hx:st.1[at0+1+j]? = some c:=by
    have e:((st.1.drop (at0+1)).take l.length)[j]? = l[j]?:=by rw [h2]
    rw [d1,List.getElem?_take_of_lt d3,List.getElem?_drop] at e
    exact e
   have hlen:at0+1+j < st.1.length:=(List.getElem?_eq_some_iff.1 hx).1
   have e1:Zam_L1b st (x,()) k (l.length:Int) v (j:Int)=some (Q7 ((st.1,st.2.1,st.2.2.1,()),(x,()),k,(l.length:Int),((v <<< 8) ||| (Qr 64 c.toBitVec)),((j+1:Nat):Int),())):=by
    unfold Zam_L1b
    rw [show decide ((j:Int) < (l.length:Int))=true from decide_eq_true (by omega),hst,Vac (n:=(at0:Int)+1) (by omega) (by omega),Vac (n:=(at0:Int)+1+(j:Int)) (by omega) (by omega),show (at0:Int)+1+(j:Int)=((at0+1+j:Nat):Int) from rfl,Vac (n:=(j:Int)+1) (by omega) (by omega)]
    simp only [cond_true,Vbj hx,bindS]
    rfl
   rw [Vad]
   dsimp only
   rw [e1]
   simp only [bindS,Qp]
   exact ih (j+1) f ((v <<< 8) ||| (Qr 64 c.toBitVec)) d2 (by omega) (by simp at hf; omega)
 unfold Zam_L1
 exact key l 0 rounds 0#64 rfl (by omega) (by rw [Vae]; omega)
theorem maj6:∀ z:Fin 6,([(1:Int),(2:Int),(3:Int),(4:Int),(5:Int),(6:Int)]:List Int)[z.val]? = some ((z.val:Int)+1):=by decide
theorem low9 {z:Nat} (h:z≤3) (n:BitVec 64):∃ q:BitVec 64,([0#64,24#64,256#64,0#64,65536#64,0#64,0#64,0#64,4294967296#64]:List (BitVec 64))[2 ^ z]? = some q∧decide (n.toNat < q.toNat)=decide (sho n < 2 ^ z):=by
 have hn:=n.isLt
 have hz:z=0∨z=1∨z=2∨z=3:=by omega
 unfold sho
 rcases hz with rfl | rfl | rfl | rfl
 ·refine ⟨24#64,rfl,?_⟩
  rw [show (24#64).toNat=24 from rfl]
  cases h1:decide (n.toNat < 24)<;>cases decide (n.toNat < 256)<;>cases decide (n.toNat < 65536)<;>cases decide (n.toNat < 4294967296)<;>rfl
 ·refine ⟨256#64,rfl,?_⟩
  rw [show (256#64).toNat=256 from rfl]
  by_cases h1:n.toNat < 24
  ·have h2:n.toNat < 256:=by omega
   simp [h1,h2]
  ·by_cases h2:n.toNat < 256<;>by_cases h3:n.toNat < 65536<;>by_cases h4:n.toNat < 4294967296<;>simp [h1,h2,h3,h4]
 ·refine ⟨65536#64,rfl,?_⟩
  rw [show (65536#64).toNat=65536 from rfl]
  by_cases h1:n.toNat < 24
  ·have h2:n.toNat < 65536:=by omega
   simp [h1,h2]
  ·by_cases h2:n.toNat < 256
   ·have h3:n.toNat < 65536:=by omega
    simp [h1,h2,h3]
   ·by_cases h3:n.toNat < 65536<;>by_cases h4:n.toNat < 4294967296<;>simp [h1,h2,h3,h4]
 ·refine ⟨4294967296#64,rfl,?_⟩
  rw [show (4294967296#64).toNat=4294967296 from rfl]
  by_cases h1:n.toNat < 24
  ·have h2:n.toNat < 4294967296:=by omega
   simp [h1,h2]
  ·by_cases h2:n.toNat < 256
   ·have h3:n.toNat < 4294967296:=by omega
    simp [h1,h2,h3]
   ·by_cases h3:n.toNat < 65536
    ·have h4:n.toNat < 4294967296:=by omega
     simp [h1,h2,h3,h4]
    ·by_cases h4:n.toNat < 4294967296<;>simp [h1,h2,h3,h4]
theorem Vvu (out:List ApiItem) (bs:List UInt8) (at0:Nat) (hat:at0≤bs.length) (hbs:bs.length < 1000000) :
  ∃ at1:Nat,at1≤bs.length∧Zam (bs,(at0:Int),out,())=some (((bs,(at1:Int),out,()),()),(⟨(hdB (bs.drop at0)).2.1,(hdB (bs.drop at0)).2.2.1,[]⟩,(hdB (bs.drop at0)).1,()))∧((hdB (bs.drop at0)).1=0→bs.drop at1=(hdB (bs.drop at0)).2.2.2):=by
 unfold Zam
 dsimp only
 cases hs:bs.drop at0 with
 | nil=>
  have:=congrArg List.length hs
  simp at this
  rw [show decide ((bs.length:Int)≤(at0:Int))=true from decide_eq_true (by omega)]
  exact ⟨at0,hat,rfl,fun h=>by simp [hdB] at h⟩
 | cons c r=>
  obtain ⟨d1,d2,d3,d4⟩:=Vbk hs
  rw [show decide ((bs.length:Int)≤(at0:Int))=false from decide_eq_false (by omega),Vbj d1]
  simp only [cond_false,bindS,Vxo]
  rw [Vac (n:=(at0:Int)+1) (by omega) (by omega),show (at0:Int)+1=((at0+1:Nat):Int) from rfl]
  obtain ⟨m1,m2⟩:=Vxn c
  simp only [hdB]
  by_cases hB:isB c=true
  ·rw [hB]
   have hb:=hB
   unfold isB at hb
   simp only [Qao,decide_eq_true_eq] at hb
   rcases hb with rfl | rfl
   ·exact ⟨at0+1,by omega,rfl,fun _=>d2⟩
   ·exact ⟨at0+1,by omega,rfl,fun _=>d2⟩
  ·have hB':isB c=false:=by cases h:isB c; rfl; exact absurd h hB
   have hb:=hB'
   unfold isB at hb
   simp only [Qq,decide_eq_false_iff_not] at hb
   rw [hB',show decide (c=244)=false from decide_eq_false hb.1,show decide (c=245)=false from decide_eq_false hb.2]
   by_cases h6:c=246
   ·rw [show decide (c=246)=true from decide_eq_true h6]
    exact ⟨at0+1,by omega,rfl,fun _=>d2⟩
   ·rw [show decide (c=246)=false from decide_eq_false h6]
    simp only [cond_false,bindS,Qp]
    have em1:((Qe (c.toBitVec >>> 5)).toBitVec.toNat:Int)=((c.toNat / 32:Nat):Int):=by rw [← m1]; rfl
    have em2:((Qe (c.toBitVec &&& (31:UInt8).toBitVec)).toBitVec.toNat:Int)=((c.toNat % 32:Nat):Int):=by rw [← m2]; rfl
    simp only [em1,em2]
    have hcl:c.toNat < 256:=c.toNat_lt
    by_cases q1:5 < c.toNat / 32
    ·rw [show decide (5 < c.toNat / 32)=true from decide_eq_true q1,show decide ((5:Int) < ((c.toNat / 32:Nat):Int))=true from decide_eq_true (by omega)]
     exact ⟨at0,by omega,rfl,fun h=>by simp at h⟩
    ·rw [show decide (5 < c.toNat / 32)=false from decide_eq_false q1,show decide ((5:Int) < ((c.toNat / 32:Nat):Int))=false from decide_eq_false (by omega)]
     by_cases q2:27 < c.toNat % 32
     ·rw [show decide (27 < c.toNat % 32)=true from decide_eq_true q2,show decide ((27:Int) < ((c.toNat % 32:Nat):Int))=true from decide_eq_true (by omega)]
      exact ⟨at0,by omega,rfl,fun h=>by simp at h⟩
     ·rw [show decide (27 < c.toNat % 32)=false from decide_eq_false q2,show decide ((27:Int) < ((c.toNat % 32:Nat):Int))=false from decide_eq_false (by omega)]
      simp only [cond_false,Qac]
      have e6:([(1:Int),(2:Int),(3:Int),(4:Int),(5:Int),(6:Int)]:List Int)[c.toNat / 32]? = some (((c.toNat / 32:Nat):Int)+1):=maj6 ⟨c.toNat / 32,by omega⟩
      have i6:(decide ((0:Int)≤((c.toNat / 32:Nat):Int))&&decide (((c.toNat / 32:Nat):Int) < (6:Int)))=true:=by
       rw [Qh,decide_eq_true_eq,decide_eq_true_eq]; exact ⟨by omega,by omega⟩
      by_cases q3:c.toNat % 32 < 24
      ·rw [show decide (c.toNat % 32 < 24)=true from decide_eq_true q3,show decide ((24:Int)≤((c.toNat % 32:Nat):Int))=false from decide_eq_false (by omega)]
       simp only [cond_false,cond_true,bindS]
       rw [Vac (n:=(bs.length:Int) - (at0:Int)) (by omega) (by omega),Vac (n:=(bs.length:Int) - (at0:Int) - 1) (by omega) (by omega),show decide ((bs.length:Int) - (at0:Int) - 1 < 0)=false from decide_eq_false (by omega)]
       simp only [cond_false,Int.lt_irrefl,decide_false,bindS]
       have eL:Zam_L1 ((bs,(at0:Int),out,()),((⟨(0:Int),0#64,([]:List UInt8)⟩:ApiItem),()),((c.toNat / 32:Nat):Int),0,Qk 64 ((c.toNat % 32:Nat):Int),0,())=some ((bs,(at0:Int),out,()),((⟨(0:Int),0#64,([]:List UInt8)⟩:ApiItem),()),((c.toNat / 32:Nat):Int),0,Qk 64 ((c.toNat % 32:Nat):Int),()):=by
        unfold Zam_L1
        rw [Vae,show (1180591620717411303424:Nat)=1180591620717411303423+1 from rfl,Vad]
        rfl
       rw [eL]
       simp only [bindS,Ql,i6,e6,cond_true]
       rw [Vac (n:=(1:Int)+0) (by omega) (by omega),Vac (n:=(at0:Int)+(1+0)) (by omega) (by omega),Q0]
       have i9:(decide ((0:Int)≤0)&&decide ((0:Int) < 9))=true:=by decide
       rw [i9]
       simp only [cond_true]
       rw [show ([0#64,24#64,256#64,0#64,65536#64,0#64,0#64,0#64,4294967296#64]:List (BitVec 64))[(0:Int).toNat]? = some 0#64 from rfl]
       simp only [bindS]
       rw [show decide ((Qg 64 (c.toNat % 32)).toNat < (0#64).toNat)=false from decide_eq_false (by simp)]
       refine ⟨at0+1,by omega,?_,fun _=>d2⟩
       rw [show (at0:Int)+(1+0)=((at0+1:Nat):Int) by omega]
       rfl
      ·rw [show decide (c.toNat % 32 < 24)=false from decide_eq_false q3,show decide ((24:Int)≤((c.toNat % 32:Nat):Int))=true from decide_eq_true (by omega),Vac (n:=((c.toNat % 32:Nat):Int) - 24) (by omega) (by omega),show ((c.toNat % 32:Nat):Int) - 24=((c.toNat % 32 - 24:Nat):Int) by omega]
       generalize hz:c.toNat % 32 - 24=z
       have hz3:z≤3:=by omega
       obtain ⟨p1,p8⟩:=Vrd hz3
       rw [Q0,show (Qg 64 z).toNat=z by rw [Qt,Qm (by omega)],Vre hz3]
       simp only [cond_false,cond_true,bindS]
       rw [Vac (n:=(bs.length:Int) - (at0:Int)) (by omega) (by omega),Vac (n:=(bs.length:Int) - (at0:Int) - 1) (by omega) (by omega)]
       by_cases q4:r.length < 2 ^ z
       ·rw [show decide ((bs.length:Int) - (at0:Int) - 1 < ((2 ^ z:Nat):Int))=true from decide_eq_true (by omega),show decide (r.length < 2 ^ z)=true from decide_eq_true q4]
        exact ⟨at0,by omega,rfl,fun h=>by simp at h⟩
       ·rw [show decide ((bs.length:Int) - (at0:Int) - 1 < ((2 ^ z:Nat):Int))=false from decide_eq_false (by omega),show decide (r.length < 2 ^ z)=false from decide_eq_false q4,show decide ((0:Int) < ((2 ^ z:Nat):Int))=true from decide_eq_true (by omega)]
        simp only [cond_false,cond_true,bindS]
        have hvl:(r.take (2 ^ z)).length=2 ^ z:=by rw [Qz]; omega
        have eL:=Vaxa (bs,(at0:Int),out,()) ⟨(0:Int),0#64,([]:List UInt8)⟩ ((c.toNat / 32:Nat):Int) at0 (r.take (2 ^ z)) rfl (by omega) hbs (by rw [hvl]; dsimp only; rw [d2])
        rw [hvl] at eL
        rw [eL]
        obtain ⟨q,e9,eq9⟩:=low9 hz3 (bev 0#64 (r.take (2 ^ z)))
        have i9:(decide ((0:Int)≤((2 ^ z:Nat):Int))&&decide (((2 ^ z:Nat):Int) < (9:Int)))=true:=by
         rw [Qh,decide_eq_true_eq,decide_eq_true_eq]; exact ⟨by omega,by omega⟩
        simp only [bindS,i9,i6,cond_true,Ql,e9,e6,eq9]
        rw [Vac (n:=(1:Int)+((2 ^ z:Nat):Int)) (by omega) (by omega),Vac (n:=(at0:Int)+(1+((2 ^ z:Nat):Int))) (by omega) (by omega),show (at0:Int)+(1+((2 ^ z:Nat):Int))=((at0+1+2 ^ z:Nat):Int) by omega]
        cases hsh:decide (sho (bev 0#64 (r.take (2 ^ z))) < 2 ^ z)
        ·refine ⟨at0+1+2 ^ z,by omega,rfl,fun _=>?_⟩
         show bs.drop (at0+1+2 ^ z)=r.drop (2 ^ z)
         rw [← d2,Qx]
        ·exact ⟨at0,by omega,rfl,fun h=>by simp at h⟩
def RI (bs:List UInt8) (out:List ApiItem) (w:Res (List UInt8)) (z:Option ((Rr×Unit)×(Int×Unit))):Prop:=
 (w.1=0→∃ at1:Nat,at1≤bs.length∧z=some (((bs,(at1:Int),out++w.2.1,()),()),(0,()))∧bs.drop at1=w.2.2∧out.length+w.2.1.length≤512)∧(w.1≠0→∃ st,z=some (st,(w.1,())))
theorem Vi8 {bs:List UInt8} {out:List ApiItem} {e:Int} {o:List ApiItem} {t:List UInt8} {st:Rr×Unit} (he:e≠0):RI bs out (e,o,t) (some (st,(e,()))):=⟨fun h=>absurd h he,fun _=>⟨st,rfl⟩⟩
def ZB (bs:List UInt8) (out:List ApiItem) (w:Res (List UInt8)) (z:(Rr×Int×Unit)⊕(Rr×Unit)):Prop:=
 (w.1=0→∃ at1:Nat,at1≤bs.length∧z = .inr ((bs,(at1:Int),out++w.2.1,()),())∧bs.drop at1=w.2.2∧out.length+w.2.1.length≤512)∧(w.1≠0→∃ st,z = .inl (st,w.1,()))
abbrev RK:=Rr→Int→Bool→List UInt8→Option ((Rr×Unit)×(Int×Unit))
abbrev LS:=Rr×Int×(ApiItem×Unit)×BitVec 64×Bool×List UInt8×BitVec 64×Unit
theorem bvn (i:Nat) (hi:i≤2000):(Qg 64 i).toNat=i:=by rw [Qt,Qm (by omega)]
theorem bvs (i:Nat) (hi:i≤1000):Qg 64 i+1#64=Qg 64 (i+1):=by
 apply Qw
 rw [Qa9,bvn i (by omega),bvn (i+1) (by omega)]
 rw [show (1#64).toNat=1 from rfl,Qm (by omega)]
theorem Vaya {f:Nat} {s:List UInt8} {n d:Nat} {key:Bool} {b:List UInt8} (h:(W getB f s n d key b).1=0):∃ x r,(W getB f s n d key b).2.1=x::r∧x.data.length≤1024:=by
 cases f with
 | zero=>simp [W] at h
 | succ f=>
  unfold W at h ⊢
  dsimp only at h ⊢
  by_cases hg:(getB n d key b s).1=0
  ·rw [show decide ((getB n d key b s).1=0)=true from decide_eq_true hg]
   have e:getB n d key b s=(0,(getB n d key b s).2.1,(getB n d key b s).2.2):=by rw [← hg]
   exact ⟨_,_,rfl,(Vb7 (Vax (Vi7 e)).2.2.1).1⟩
  ·rw [show decide ((getB n d key b s).1=0)=false from decide_eq_false hg] at h
   exact absurd h hg
section
variable (bs:List UInt8) (k_rec:RK) (f:Nat) (d:Nat)
  (ih:∀ (at0:Nat) (out:List ApiItem) (key:Bool) (b:List UInt8),at0≤bs.length→out.length≤512→RI bs out (W getB f (bs.drop at0) out.length (d+1) key b) (k_rec (bs,(at0:Int),out,()) ((d+1:Nat):Int) key b))
  (ed:Qb .i64 ((d:Int)+1)=((d+1:Nat):Int))
include ih ed
theorem loopA (x:ApiItem) (m:BitVec 64) (h5:x.kind=5) (hm:m.toNat ≤ 512):∀ (k i at0:Nat) (out:List ApiItem) (fuel:Nat) (last:List UInt8),i + k=m.toNat → at0 ≤ bs.length → out.length ≤ 512 → k < fuel →
    ∃ z,iter (fun (y:LS)=>Zan_L1b k_rec y.1 y.2.1 y.2.2.1 y.2.2.2.1 y.2.2.2.2.1 y.2.2.2.2.2.1 y.2.2.2.2.2.2.1) fuel ((bs,(at0:Int),out,()),(d:Int),(x,()),m,true,last,Qg 64 i,())=some z ∧ ZB bs out (LA (fun s n=>W getB f s n (d + 1) false []) k (bs.drop at0) out.length) z:=by
  intro k
  induction k with
  | zero=>
    intro i at0 out fuel last hi hat ho hfu
    obtain ⟨fuel,rfl⟩:∃ g,fuel=g + 1:=⟨fuel - 1,by omega⟩
    rw [Vad]
    refine ⟨.inr ((bs,(at0:Int),out,()),()),?_,fun _=>⟨at0,hat,by simp [LA],rfl,by simpa [LA] using ho⟩,fun h=>absurd rfl h⟩
    dsimp only
    unfold Zan_L1b
    rw [bvn i (by omega),show decide (i < m.toNat)=false from decide_eq_false (by omega)]
    rfl
  | succ k ihk=>
    intro i at0 out fuel last hi hat ho hfu
    obtain ⟨fuel,rfl⟩:∃ g,fuel=g + 1:=⟨fuel - 1,by omega⟩
    have hj:=ih at0 out false [] hat ho
    have e1:Zan_L1b k_rec (bs,(at0:Int),out,()) (d:Int) (x,()) m true last (Qg 64 i)=(k_rec (bs,(at0:Int),out,()) ((d + 1:Nat):Int) false ([]:List UInt8)).bind fun r22=>(bif (!decide (r22.2.1=(0:Int))) then (some (Qae (Q7 ((r22.1.1.1,r22.1.1.2.1,r22.1.1.2.2.1,()),r22.2.1,()))))
 else (some (Q7 ((r22.1.1.1,r22.1.1.2.1,r22.1.1.2.2.1,()),(d:Int),(x,()),m,true,last,Qg 64 (i + 1),())))):=by
      unfold Zan_L1b
      rw [bvn i (by omega),show decide (i < m.toNat)=true from decide_eq_true (by omega),show decide (x.kind=6)=false from decide_eq_false (by omega),bvs i (by omega),ed]
      rfl
    rw [Vad]
    dsimp only
    rw [e1]
    unfold LA
    generalize W getB f (bs.drop at0) out.length (d + 1) false []=w at hj ⊢
    obtain ⟨j1,j2⟩:=hj
    by_cases hw:w.1=0
    · obtain ⟨at1,a1,a2,a3,a4⟩:=j1 hw
      rw [a2,show decide (w.1=0)=true from decide_eq_true hw]
      simp only [bindS,decide_true,Qc,cond_false,cond_true,Qp]
      obtain ⟨z,z1,z2,z3⟩:=ihk (i + 1) at1 (out ++ w.2.1) fuel last (by omega) a1 (by rw [Qa]; exact a4) (by omega)
      rw [a3,Qa] at z2 z3
      refine ⟨z,z1,fun h=>?_,fun h=>z3 h⟩
      obtain ⟨at2,b1,b2,b3,b4⟩:=z2 h
      refine ⟨at2,b1,by rw [b2,Qd],b3,?_⟩
      dsimp only
      rw [Qa]
      omega
    · obtain ⟨st,a1⟩:=j2 hw
      rw [a1,show decide (w.1=0)=false from decide_eq_false hw]
      refine ⟨.inl (st.1,w.1,()),?_,fun h=>absurd h hw,fun _=>⟨_,rfl⟩⟩
      simp only [bindS]
      rw [show decide (w.1=0)=false from decide_eq_false hw]
      rfl
theorem loopM (x:ApiItem) (m:BitVec 64) (h6:x.kind=6) (hm:m.toNat ≤ 512):∀ (k i at0:Nat) (out:List ApiItem) (fuel:Nat) (last:List UInt8),i + k=m.toNat → at0 ≤ bs.length → out.length ≤ 512 → k < fuel →
    ∃ z,iter (fun (y:LS)=>Zan_L1b k_rec y.1 y.2.1 y.2.2.1 y.2.2.2.1 y.2.2.2.2.1 y.2.2.2.2.2.1 y.2.2.2.2.2.2.1) fuel ((bs,(at0:Int),out,()),(d:Int),(x,()),m,true,last,Qg 64 i,())=some z ∧ ZB bs out (LM (fun s n last=>W getB f s n (d + 1) true last) (fun s n=>W getB f s n (d + 1) false []) k (bs.drop at0) out.length last) z:=by
  intro k
  induction k with
  | zero=>
    intro i at0 out fuel last hi hat ho hfu
    obtain ⟨fuel,rfl⟩:∃ g,fuel=g + 1:=⟨fuel - 1,by omega⟩
    rw [Vad]
    refine ⟨.inr ((bs,(at0:Int),out,()),()),?_,fun _=>⟨at0,hat,by simp [LM],rfl,by simpa [LM] using ho⟩,fun h=>absurd rfl h⟩
    dsimp only
    unfold Zan_L1b
    rw [bvn i (by omega),show decide (i < m.toNat)=false from decide_eq_false (by omega)]
    rfl
  | succ k ihk=>
    intro i at0 out fuel last hi hat ho hfu
    obtain ⟨fuel,rfl⟩:∃ g,fuel=g + 1:=⟨fuel - 1,by omega⟩
    have hj:=ih at0 out true last hat ho
    have hwn:=fun h=>Vaya (f:=f) (s:=bs.drop at0) (n:=out.length) (d:=d + 1) (key:=true) (b:=last) h
    have e1:Zan_L1b k_rec (bs,(at0:Int),out,()) (d:Int) (x,()) m true last (Qg 64 i)=(k_rec (bs,(at0:Int),out,()) ((d + 1:Nat):Int) true last).bind fun r18=>(bif (!decide (r18.2.1=(0:Int))) then (some (Qae (Q7 ((r18.1.1.1,r18.1.1.2.1,r18.1.1.2.2.1,()),r18.2.1,()))))
 else (bif (decide ((0:Int) ≤ (out.length:Int)) && decide ((out.length:Int) < ((r18.1.1.2.2.1).length:Int))) then (((r18.1.1.2.2.1)[((out.length:Int)).toNat]?).bind fun x19=>((Zcc x19).bind fun r20=>((k_rec (r18.1.1.1,r18.1.1.2.1,r18.1.1.2.2.1,()) ((d + 1:Nat):Int) false ([]:List UInt8)).bind fun r21=>(bif (!decide (r21.2.1=(0:Int))) then (some (Qae (Q7 ((r21.1.1.1,r21.1.1.2.1,r21.1.1.2.2.1,()),r21.2.1,()))))
 else (some (Q7 ((r21.1.1.1,r21.1.1.2.1,r21.1.1.2.2.1,()),(d:Int),(x,()),m,true,r20.2.1,Qg 64 (i + 1),())))))))
 else none)):=by
      unfold Zan_L1b
      rw [bvn i (by omega),show decide (i < m.toNat)=true from decide_eq_true (by omega),show decide (x.kind=6)=true from decide_eq_true h6,bvs i (by omega),ed]
      rfl
    rw [Vad]
    dsimp only
    rw [e1]
    unfold LM
    dsimp only
    generalize W getB f (bs.drop at0) out.length (d + 1) true last=w at hj hwn ⊢
    obtain ⟨j1,j2⟩:=hj
    by_cases hw:w.1=0
    · obtain ⟨at1,a1,a2,a3,a4⟩:=j1 hw
      obtain ⟨y,r,hy,hyd⟩:=hwn hw
      have hl1:1 ≤ w.2.1.length:=by rw [hy]; simp
      rw [a2,show decide (w.1=0)=true from decide_eq_true hw]
      simp only [bindS,decide_true,Qc,cond_false,cond_true,Ql]
      have hget:(out ++ w.2.1)[out.length]? = some y:=by rw [List.getElem?_append_right (by omega),hy]; simp
      have hh:w.2.1.headD default=y:=by rw [hy]; rfl
      have hlen:(out ++ w.2.1).length=out.length + w.2.1.length:=Qa
      rw [hget,hh,show (decide ((0:Int) ≤ (out.length:Int)) && decide ((out.length:Int) < ((out ++ w.2.1).length:Int)))=true by (rw [Qh,decide_eq_true_eq,decide_eq_true_eq]; exact ⟨by omega,by omega⟩)]
      simp only [bindS,cond_true,Veo y (by omega)]
      have hv:=ih at1 (out ++ w.2.1) false [] a1 (by omega)
      rw [a3,hlen] at hv
      generalize W getB f w.2.2 (out.length + w.2.1.length) (d + 1) false []=v at hv ⊢
      obtain ⟨v1,v2⟩:=hv
      by_cases hv0:v.1=0
      · obtain ⟨at2,b1,b2,b3,b4⟩:=v1 hv0
        rw [b2,show decide (v.1=0)=true from decide_eq_true hv0]
        simp only [bindS,decide_true,Qc,cond_false,cond_true,Qp]
        have hlen2:(out ++ w.2.1 ++ v.2.1).length=out.length + w.2.1.length + v.2.1.length:=by rw [Qa,hlen]
        obtain ⟨z,z1,z2,z3⟩:=ihk (i + 1) at2 (out ++ w.2.1 ++ v.2.1) fuel (enc y) (by omega) b1 (by omega) (by omega)
        rw [b3,hlen2] at z2 z3
        refine ⟨z,z1,fun h=>?_,fun h=>z3 h⟩
        obtain ⟨at3,c1,c2,c3,c4⟩:=z2 h
        refine ⟨at3,c1,by rw [c2,Qd,Qd],c3,?_⟩
        dsimp only
        rw [Qa,Qa]
        omega
      · obtain ⟨st,b1⟩:=v2 hv0
        rw [b1,show decide (v.1=0)=false from decide_eq_false hv0]
        refine ⟨.inl (st.1,v.1,()),?_,fun h=>absurd h hv0,fun _=>⟨_,rfl⟩⟩
        simp only [bindS]
        rw [show decide (v.1=0)=false from decide_eq_false hv0]
        rfl
    · obtain ⟨st,a1⟩:=j2 hw
      rw [a1,show decide (w.1=0)=false from decide_eq_false hw]
      refine ⟨.inl (st.1,w.1,()),?_,fun h=>absurd h hw,fun _=>⟨_,rfl⟩⟩
      simp only [bindS]
      rw [show decide (w.1=0)=false from decide_eq_false hw]
      rfl
theorem tailI (x:ApiItem) (m:BitVec 64) (at1:Nat) (out:List ApiItem) (hat:at1≤bs.length) (ho:out.length < 512) (hm:isN x.kind=true→m=x.number∧m.toNat≤512) :
  RI bs out ((bif decide (x.kind=5) then LA (fun s n=>W getB f s n (d+1) false []) x.number.toNat (bs.drop at1) (out.length+1) else bif decide (x.kind=6) then LM (fun s n last=>W getB f s n (d+1) true last) (fun s n=>W getB f s n (d+1) false []) x.number.toNat (bs.drop at1) (out.length+1) [] else ((0:Int),([]:List ApiItem),bs.drop at1)).1,x::(bif decide (x.kind=5) then LA (fun s n=>W getB f s n (d+1) false []) x.number.toNat (bs.drop at1) (out.length+1) else bif decide (x.kind=6) then LM (fun s n last=>W getB f s n (d+1) true last) (fun s n=>W getB f s n (d+1) false []) x.number.toNat (bs.drop at1) (out.length+1) [] else ((0:Int),([]:List ApiItem),bs.drop at1)).2.1,(bif decide (x.kind=5) then LA (fun s n=>W getB f s n (d+1) false []) x.number.toNat (bs.drop at1) (out.length+1) else bif decide (x.kind=6) then LM (fun s n last=>W getB f s n (d+1) true last) (fun s n=>W getB f s n (d+1) false []) x.number.toNat (bs.drop at1) (out.length+1) [] else ((0:Int),([]:List ApiItem),bs.drop at1)).2.2)
   ((Zan_L1 k_rec ((bs,(at1:Int),out++[x],()),(d:Int),(x,()),m,isN x.kind,([]:List UInt8),0#64,())).bind (Qai (fun (z23:(Rr×Int×Unit))=>(some (((z23.1.1,z23.1.2.1,z23.1.2.2.1,()),()),(z23.2.1,())))) (fun (z24:(Rr×Unit))=>(some (((z24.1.1,z24.1.2.1,z24.1.2.2.1,()),()),((0:Int),())))))):=by
 have hlen:(out++[x]).length=out.length+1:=by simp
 have fin:∀ (w:Res (List UInt8)) (z:(Rr×Int×Unit)⊕(Rr×Unit)),ZB bs (out++[x]) w z→RI bs out (w.1,x::w.2.1,w.2.2) (Qai (fun (z23:(Rr×Int×Unit))=>(some (((z23.1.1,z23.1.2.1,z23.1.2.2.1,()),()),(z23.2.1,())):Option ((Rr×Unit)×(Int×Unit)))) (fun (z24:(Rr×Unit))=>(some (((z24.1.1,z24.1.2.1,z24.1.2.2.1,()),()),((0:Int),())))) z):=by
  intro w z hz
  obtain ⟨z1,z2⟩:=hz
  refine ⟨fun h=>?_,fun h=>?_⟩
  ·obtain ⟨at2,b1,b2,b3,b4⟩:=z1 h
   refine ⟨at2,b1,?_,b3,?_⟩
   ·rw [b2]
    simp
   ·dsimp only
    rw [Qj]
    omega
  ·obtain ⟨st,b1⟩:=z2 h
   rw [b1]
   exact ⟨_,rfl⟩
 unfold Zan_L1
 rw [show (0#64)=Qg 64 0 from rfl]
 by_cases h5:x.kind=5
 ·obtain ⟨rfl,hm2⟩:=hm (by simp [isN,h5])
  obtain ⟨z,z1,z2⟩:=loopA bs k_rec f d ih ed x x.number h5 hm2 x.number.toNat 0 at1 (out++[x]) rounds [] (by omega) hat (by omega) (by rw [Vae]; omega)
  rw [show isN x.kind=true by simp [isN,h5],z1,show decide (x.kind=5)=true from decide_eq_true h5]
  rw [hlen] at z2
  exact fin _ z z2
 ·by_cases h6:x.kind=6
  ·obtain ⟨rfl,hm2⟩:=hm (by simp [isN,h6])
   obtain ⟨z,z1,z2⟩:=loopM bs k_rec f d ih ed x x.number h6 hm2 x.number.toNat 0 at1 (out++[x]) rounds [] (by omega) hat (by omega) (by rw [Vae]; omega)
   rw [show isN x.kind=true by simp [isN,h6],z1,show decide (x.kind=5)=false from decide_eq_false h5,show decide (x.kind=6)=true from decide_eq_true h6]
   rw [hlen] at z2
   exact fin _ z z2
  ·rw [show isN x.kind=false by simp [isN,h5,h6],show decide (x.kind=5)=false from decide_eq_false h5,show decide (x.kind=6)=false from decide_eq_false h6,Vae,show (1180591620717411303424:Nat)=1180591620717411303423+1 from rfl,Vad]
   refine fin (0,[],bs.drop at1) (.inr ((bs,(at1:Int),out++[x],()),())) ⟨fun _=>⟨at1,hat,by simp,rfl,by simp; omega⟩,fun h=>absurd rfl h⟩
end
theorem admR (k:Int) (n d:Nat) (key:Bool) (h1:1≤k) (h2:k≤8):adm k n d key=bif decide (512≤n) then 8 else bif key&&!isK k then 3 else bif decide (8 < d) then 5 else 0:=by
 unfold adm
 rw [show (decide (1≤k)&&decide (k≤8))=true by simp [h1,h2]]
 rfl
def endI (k_rec:RK) (bs:List UInt8) (at1:Int) (out:List ApiItem) (d:Int) (key:Bool) (before:List UInt8) (x:ApiItem) (m:BitVec 64):Option ((Rr×Unit)×(Int×Unit)):=
 bif !decide (acc x key before=0) then some (((bs,at1,out,()),()),(acc x key before,())) else
 (Zan_L1 k_rec ((bs,at1,out++[x],()),d,(x,()),m,isN x.kind,([]:List UInt8),0#64,())).bind (Qai (fun (z23:(Rr×Int×Unit))=>(some (((z23.1.1,z23.1.2.1,z23.1.2.2.1,()),()),(z23.2.1,())))) (fun (z24:(Rr×Unit))=>(some (((z24.1.1,z24.1.2.1,z24.1.2.2.1,()),()),((0:Int),())))))
def midI (k_rec:RK) (bs:List UInt8) (at1:Nat) (out:List ApiItem) (d:Nat) (key:Bool) (before:List UInt8) (k:Int) (m:BitVec 64):Option ((Rr×Unit)×(Int×Unit)):=
 bif !decide (adm k out.length d key=0) then some (((bs,(at1:Int),out,()),()),(adm k out.length d key,())) else
 bif isN k then (bif decide (512 < m.toNat) then some (((bs,(at1:Int),out,()),()),(8,())) else endI k_rec bs (at1:Int) out (d:Int) key before ⟨k,m,[]⟩ m) else
 bif isD k then (bif decide (1024 < m.toNat) then some (((bs,(at1:Int),out,()),()),(8,())) else bif decide (bs.length - at1 < m.toNat) then some (((bs,(at1:Int),out,()),()),(1,())) else endI k_rec bs ((at1+m.toNat:Nat):Int) out (d:Int) key before ⟨k,0#64,(bs.drop at1).take m.toNat⟩ m) else
 endI k_rec bs (at1:Int) out (d:Int) key before ⟨k,m,[]⟩ m
theorem Vaza (k_rec:RK) (bs:List UInt8) (at0:Int) (at1:Nat) (out:List ApiItem) (d:Nat) (key:Bool) (before:List UInt8) (k:Int) (m:BitVec 64) (hat:at1≤bs.length) (hbs:bs.length < 1000000) (ho:out.length≤512) (h1:1≤k) (h2:k≤8)
  (hh:Zam (bs,at0,out,())=some (((bs,(at1:Int),out,()),()),(⟨k,m,[]⟩,0,()))) :
  Zan_R k_rec (bs,at0,out,()) (d:Int) key before=midI k_rec bs at1 out d key before k m:=by
 unfold Zan_R midI
 dsimp only
 rw [hh,admR k out.length d key h1 h2]
 simp only [bindS,decide_true,Qc,cond_false,Vj1]
 have q1:decide ((512:Int)≤(out.length:Int))=decide (512≤out.length):=by rw [decide_eq_decide]; omega
 have q2:decide ((8:Int) < (d:Int))=decide (8 < d):=by rw [decide_eq_decide]; omega
 have sm:∀ x:ApiItem,small (out.length+([x]:List ApiItem).length) 32=true:=fun x=>Vc2 (by simp; omega)
 have eb:decide (before=[])=before.isEmpty:=by cases before<;>rfl
 have bv:∀ v:Nat,v < 1000000→(Qk 64 (v:Int)).toNat=v:=fun v hv=>by rw [Q0,Qt,Qm (by omega)]
 rcases kinds k with rfl | rfl | rfl | rfl | rfl | rfl | ⟨g1,g2,g3,g4,g5,g6⟩
 ·unfold endI acc
  cases key<;>simp only [show isN (3:Int)=false from rfl,show isD (3:Int)=true from rfl,show isK (3:Int)=false from rfl,show (1024#64).toNat=1024 from rfl,show (512#64).toNat=512 from rfl,Int.reduceEq,decide_true,decide_false,cond_true,cond_false,bindS,q1,q2,Qc,Qi,Qn,Qo,Q4,Qu]
  ·
   generalize decide (512≤out.length)=c1
   cases c1
   ·generalize decide (8 < d)=c2
    cases c2
    ·by_cases h3:1024 < m.toNat
     ·rw [show decide (1024 < m.toNat)=true from decide_eq_true h3]; rfl
     ·rw [show decide (1024 < m.toNat)=false from decide_eq_false h3]
      simp only [cond_false,cond_true,bindS]
      rw [Vac (n:=(bs.length:Int) - (at1:Int)) (by omega) (by omega),show (bs.length:Int) - (at1:Int)=((bs.length - at1:Nat):Int) by omega,bv _ (by omega)]
      by_cases h4:bs.length - at1 < m.toNat
      ·rw [show decide (bs.length - at1 < m.toNat)=true from decide_eq_true h4]; rfl
      ·rw [show decide (bs.length - at1 < m.toNat)=false from decide_eq_false h4]
       simp only [cond_false,cond_true,bindS]
       rw [Vac (n:=(m.toNat:Int)) (by omega) (by omega),Vac (n:=(at1:Int)+(m.toNat:Int)) (by omega) (by omega),show ((at1:Int)+(m.toNat:Int))=((at1+m.toNat:Nat):Int) from rfl]
       simp only [Ql]
       rw [show (decide ((0:Int)≤((at1+m.toNat:Nat):Int))&&decide (((at1+m.toNat:Nat):Int)≤(bs.length:Int)))=true by (rw [Qh,decide_eq_true_eq,decide_eq_true_eq]; exact ⟨by omega,by omega⟩),show (decide ((0:Int)≤(at1:Int))&&decide ((at1:Int)≤((at1+m.toNat:Nat):Int)))=true by (rw [Qh,decide_eq_true_eq,decide_eq_true_eq]; exact ⟨by omega,by omega⟩)]
       have hv:Q6 at1 (Qah (at1+m.toNat) bs)=(bs.drop at1).take m.toNat:=by
        rw [Qaa,show at1+m.toNat - at1=m.toNat by omega]
       have hvl:((bs.drop at1).take m.toNat).length < 1000000:=by rw [Qz]; omega
       rw [hv]
       generalize (bs.drop at1).take m.toNat=l at hvl
       simp only [cond_true,bindS,Int.reduceEq,decide_true,decide_false,cond_false,Qo,Qn,Qu]
       rw [sm]
       rfl
    ·rfl
   ·rfl
  ·generalize decide (512≤out.length)=c1
   cases c1<;>rfl
 ·unfold endI acc
  cases key<;>simp only [show isN (4:Int)=false from rfl,show isD (4:Int)=true from rfl,show isK (4:Int)=true from rfl,show (1024#64).toNat=1024 from rfl,show (512#64).toNat=512 from rfl,Int.reduceEq,decide_true,decide_false,cond_true,cond_false,bindS,q1,q2,Qc,Qi,Qn,Qo,Q4,Qu]
  ·
   generalize decide (512≤out.length)=c1
   cases c1
   ·generalize decide (8 < d)=c2
    cases c2
    ·by_cases h3:1024 < m.toNat
     ·rw [show decide (1024 < m.toNat)=true from decide_eq_true h3]; rfl
     ·rw [show decide (1024 < m.toNat)=false from decide_eq_false h3]
      simp only [cond_false,cond_true,bindS]
      rw [Vac (n:=(bs.length:Int) - (at1:Int)) (by omega) (by omega),show (bs.length:Int) - (at1:Int)=((bs.length - at1:Nat):Int) by omega,bv _ (by omega)]
      by_cases h4:bs.length - at1 < m.toNat
      ·rw [show decide (bs.length - at1 < m.toNat)=true from decide_eq_true h4]; rfl
      ·rw [show decide (bs.length - at1 < m.toNat)=false from decide_eq_false h4]
       simp only [cond_false,cond_true,bindS]
       rw [Vac (n:=(m.toNat:Int)) (by omega) (by omega),Vac (n:=(at1:Int)+(m.toNat:Int)) (by omega) (by omega),show ((at1:Int)+(m.toNat:Int))=((at1+m.toNat:Nat):Int) from rfl]
       simp only [Ql]
       rw [show (decide ((0:Int)≤((at1+m.toNat:Nat):Int))&&decide (((at1+m.toNat:Nat):Int)≤(bs.length:Int)))=true by (rw [Qh,decide_eq_true_eq,decide_eq_true_eq]; exact ⟨by omega,by omega⟩),show (decide ((0:Int)≤(at1:Int))&&decide ((at1:Int)≤((at1+m.toNat:Nat):Int)))=true by (rw [Qh,decide_eq_true_eq,decide_eq_true_eq]; exact ⟨by omega,by omega⟩)]
       have hv:Q6 at1 (Qah (at1+m.toNat) bs)=(bs.drop at1).take m.toNat:=by
        rw [Qaa,show at1+m.toNat - at1=m.toNat by omega]
       have hvl:((bs.drop at1).take m.toNat).length < 1000000:=by rw [Qz]; omega
       rw [hv]
       generalize (bs.drop at1).take m.toNat=l at hvl
       simp only [cond_true,bindS,Int.reduceEq,decide_true,decide_false,cond_false,Qo,Qn,Qu]
       rw [Vb2 hvl]
       simp only [bindS]
       generalize Lib.validD l=va
       cases va
       ·rfl
       ·simp only [Qc,cond_false,bindS]
        rw [sm]
        rfl
    ·rfl
   ·rfl
  ·
   generalize decide (512≤out.length)=c1
   cases c1
   ·generalize decide (8 < d)=c2
    cases c2
    ·by_cases h3:1024 < m.toNat
     ·rw [show decide (1024 < m.toNat)=true from decide_eq_true h3]; rfl
     ·rw [show decide (1024 < m.toNat)=false from decide_eq_false h3]
      simp only [cond_false,cond_true,bindS]
      rw [Vac (n:=(bs.length:Int) - (at1:Int)) (by omega) (by omega),show (bs.length:Int) - (at1:Int)=((bs.length - at1:Nat):Int) by omega,bv _ (by omega)]
      by_cases h4:bs.length - at1 < m.toNat
      ·rw [show decide (bs.length - at1 < m.toNat)=true from decide_eq_true h4]; rfl
      ·rw [show decide (bs.length - at1 < m.toNat)=false from decide_eq_false h4]
       simp only [cond_false,cond_true,bindS]
       rw [Vac (n:=(m.toNat:Int)) (by omega) (by omega),Vac (n:=(at1:Int)+(m.toNat:Int)) (by omega) (by omega),show ((at1:Int)+(m.toNat:Int))=((at1+m.toNat:Nat):Int) from rfl]
       simp only [Ql]
       rw [show (decide ((0:Int)≤((at1+m.toNat:Nat):Int))&&decide (((at1+m.toNat:Nat):Int)≤(bs.length:Int)))=true by (rw [Qh,decide_eq_true_eq,decide_eq_true_eq]; exact ⟨by omega,by omega⟩),show (decide ((0:Int)≤(at1:Int))&&decide ((at1:Int)≤((at1+m.toNat:Nat):Int)))=true by (rw [Qh,decide_eq_true_eq,decide_eq_true_eq]; exact ⟨by omega,by omega⟩)]
       have hv:Q6 at1 (Qah (at1+m.toNat) bs)=(bs.drop at1).take m.toNat:=by
        rw [Qaa,show at1+m.toNat - at1=m.toNat by omega]
       have hvl:((bs.drop at1).take m.toNat).length < 1000000:=by rw [Qz]; omega
       rw [hv]
       generalize (bs.drop at1).take m.toNat=l at hvl
       simp only [cond_true,bindS,Int.reduceEq,decide_true,decide_false,cond_false,Qo,Qn,Qu]
       rw [Vb2 hvl]
       simp only [bindS]
       generalize Lib.validD l=va
       cases va
       ·rfl
       ·simp only [Qc,cond_false,bindS,cond_true,eb]
        rw [Veo ⟨4,0#64,l⟩ hvl]
        simp only [bindS,Vj0]
        generalize before.isEmpty=be
        generalize lss before (enc ⟨4,0#64,l⟩)=ls
        cases be
        ·cases ls
         ·rfl
         ·simp only [Qc,Qi,cond_true,cond_false,bindS]
          rw [sm]
          rfl
        ·simp only [Qc,Qi,cond_true,cond_false,bindS]
         rw [sm]
         rfl
    ·rfl
   ·rfl
 ·unfold endI acc
  cases key<;>simp only [show isN (5:Int)=true from rfl,show isD (5:Int)=false from rfl,show isK (5:Int)=false from rfl,show (1024#64).toNat=1024 from rfl,show (512#64).toNat=512 from rfl,Int.reduceEq,decide_true,decide_false,cond_true,cond_false,bindS,q1,q2,Qc,Qi,Qn,Qo,Q4,Qu]
  ·
   generalize decide (512≤out.length)=c1
   cases c1
   ·generalize decide (8 < d)=c2
    cases c2
    ·by_cases h3:512 < m.toNat
     ·rw [show decide (512 < m.toNat)=true from decide_eq_true h3]; rfl
     ·rw [show decide (512 < m.toNat)=false from decide_eq_false h3]
      simp only [cond_false,cond_true,bindS,Int.reduceEq,decide_true,decide_false]
      rw [sm]
      rfl
    ·rfl
   ·rfl
  ·generalize decide (512≤out.length)=c1
   cases c1<;>rfl
 ·unfold endI acc
  cases key<;>simp only [show isN (6:Int)=true from rfl,show isD (6:Int)=false from rfl,show isK (6:Int)=false from rfl,show (1024#64).toNat=1024 from rfl,show (512#64).toNat=512 from rfl,Int.reduceEq,decide_true,decide_false,cond_true,cond_false,bindS,q1,q2,Qc,Qi,Qn,Qo,Q4,Qu]
  ·
   generalize decide (512≤out.length)=c1
   cases c1
   ·generalize decide (8 < d)=c2
    cases c2
    ·by_cases h3:512 < m.toNat
     ·rw [show decide (512 < m.toNat)=true from decide_eq_true h3]; rfl
     ·rw [show decide (512 < m.toNat)=false from decide_eq_false h3]
      simp only [cond_false,cond_true,bindS,Int.reduceEq,decide_true,decide_false]
      rw [sm]
      rfl
    ·rfl
   ·rfl
  ·generalize decide (512≤out.length)=c1
   cases c1<;>rfl
 ·unfold endI acc
  cases key<;>simp only [show isN (7:Int)=false from rfl,show isD (7:Int)=false from rfl,show isK (7:Int)=false from rfl,show (1024#64).toNat=1024 from rfl,show (512#64).toNat=512 from rfl,Int.reduceEq,decide_true,decide_false,cond_true,cond_false,bindS,q1,q2,Qc,Qi,Qn,Qo,Q4,Qu]
  ·
   generalize decide (512≤out.length)=c1
   cases c1
   ·generalize decide (8 < d)=c2
    cases c2
    ·simp only [cond_false,cond_true,bindS,Int.reduceEq,decide_true,decide_false]
     rw [sm]
     rfl
    ·rfl
   ·rfl
  ·generalize decide (512≤out.length)=c1
   cases c1<;>rfl
 ·unfold endI acc
  cases key<;>simp only [show isN (8:Int)=false from rfl,show isD (8:Int)=false from rfl,show isK (8:Int)=false from rfl,show (1024#64).toNat=1024 from rfl,show (512#64).toNat=512 from rfl,Int.reduceEq,decide_true,decide_false,cond_true,cond_false,bindS,q1,q2,Qc,Qi,Qn,Qo,Q4,Qu]
  ·
   generalize decide (512≤out.length)=c1
   cases c1
   ·generalize decide (8 < d)=c2
    cases c2
    ·simp only [cond_false,cond_true,bindS,Int.reduceEq,decide_true,decide_false]
     rw [sm]
     rfl
    ·rfl
   ·rfl
  ·generalize decide (512≤out.length)=c1
   cases c1<;>rfl
 ·have eN : isN k = false := by simp [isN, g3, g4]
  have eD:isD k=false:=by simp [isD,g1,g2]
  unfold endI acc
  cases key<;>simp only [eN,eD,g1,g2,g3,g4,show (1024#64).toNat=1024 from rfl,show (512#64).toNat=512 from rfl,Int.reduceEq,decide_true,decide_false,cond_true,cond_false,bindS,q1,q2,Qc,Qi,Qn,Qo,Q4,Qu]
  ·
   generalize decide (512≤out.length)=c1
   cases c1
   ·generalize decide (8 < d)=c2
    cases c2
    ·simp only [cond_false,cond_true,bindS,g1,g2,g3,g4,decide_true,decide_false]
     rw [sm]
     rfl
    ·rfl
   ·rfl
  ·generalize isK k=ik
   cases ik
   ·generalize decide (512≤out.length)=c1
    cases c1<;>rfl
   ·simp only [Qc,cond_false]
    generalize decide (512≤out.length)=c1
    cases c1
    ·generalize decide (8 < d)=c2
     cases c2
     ·simp only [cond_false,cond_true,bindS,g1,g2,g3,g4,decide_true,decide_false,eb]
      rw [Veo ⟨k,m,[]⟩ (by simp)]
      simp only [bindS,Vj0]
      generalize before.isEmpty=be
      generalize lss before (enc ⟨k,m,[]⟩)=ls
      cases be
      ·cases ls
       ·rfl
       ·simp only [Qc,Qi,cond_true,cond_false,bindS]
        rw [sm]
        rfl
      ·simp only [Qc,Qi,cond_true,cond_false,bindS]
       rw [sm]
       rfl
     ·rfl
    ·rfl
def WR (f:Nat) (n d:Nat) (s:List UInt8) (g:Int×ApiItem×List UInt8):Res (List UInt8):=
 bif decide (g.1=0) then
  let q:=bif decide (g.2.1.kind=5) then LA (fun s n=>W getB f s n (d+1) false []) g.2.1.number.toNat g.2.2 (n+1)
   else bif decide (g.2.1.kind=6) then LM (fun s n last=>W getB f s n (d+1) true last) (fun s n=>W getB f s n (d+1) false []) g.2.1.number.toNat g.2.2 (n+1) []
   else (0,[],g.2.2)
  (q.1,g.2.1::q.2.1,q.2.2)
 else (g.1,[],s)
theorem W_WR (f n d:Nat) (s:List UInt8) (key:Bool) (b:List UInt8):W getB (f+1) s n d key b=WR f n d s (getB n d key b s):=rfl
theorem Vrf {f n d:Nat} {s:List UInt8} {g:Int×ApiItem×List UInt8} (h:g.1≠0):WR f n d s g=(g.1,[],s):=by
 unfold WR
 rw [show decide (g.1=0)=false from decide_eq_false h]
 rfl
theorem Voe (bs:List UInt8) (hbs:bs.length < 1000000):∀ (f d at0:Nat) (out:List ApiItem) (key:Bool) (b:List UInt8),at0≤bs.length→out.length≤512→d≤9→10≤f+d→RI bs out (W getB f (bs.drop at0) out.length d key b) (Zan_n f (bs,(at0:Int),out,()) (d:Int) key b)
 | 0,d,at0,out,key,b,hat,ho,hd,hf=>by omega
 | f+1, d, at0, out, key, b, hat, ho, hd, hf => by
  have ih:=fun at0 out key b h1 h2 h3 h4=>Voe bs hbs f (d+1) at0 out key b h1 h2 h3 h4
  obtain ⟨at1,h1,h2,h3⟩:=Vvu out bs at0 hat hbs
  show RI bs out (W getB (f+1) (bs.drop at0) out.length d key b) (Zan_R (Zan_n f) (bs,(at0:Int),out,()) (d:Int) key b)
  rw [W_WR]
  generalize bs.drop at0=s at h2 h3 ⊢
  unfold getB
  have hB:=fun k m t=>Vj3 (s:=s) (k:=k) (n:=m) (t:=t)
  generalize hdB s=q at h2 h3 hB ⊢
  obtain ⟨e,k,m,t⟩:=q
  dsimp only at h2 h3 hB ⊢
  by_cases he:e=0
  ·subst he
   have ht:=h3 rfl
   have hbk:=hB k m t rfl
   have hk1:1≤k∧k≤8:=by omega
   rw [Vaza _ bs (at0:Int) at1 out d key b k m h1 hbs ho hk1.1 hk1.2 h2]
   unfold midI
   by_cases ha:adm k out.length d key=0
   ·obtain ⟨a1,a2,a3,a4,a5⟩:=Vbf ha
    simp only [ha,decide_true,Qc,cond_false]
    have ed:Qb .i64 ((d:Int)+1)=((d+1:Nat):Int):=by
     rw [Vac (n:=(d:Int)+1) (by omega) (by omega)]; rfl
    have fin:∀ (x:ApiItem) (at2:Nat) (u:List UInt8) (m:BitVec 64),at2≤bs.length→bs.drop at2=u→(isN x.kind=true→m=x.number∧m.toNat≤512)→RI bs out (WR f out.length d s (accB key b (0,x,u))) (endI (Zan_n f) bs (at2:Int) out (d:Int) key b x m):=by
     intro x at2 u m hat2 hu hm
     unfold endI accB
     simp only [decide_true,cond_true]
     by_cases hc:acc x key b=0
     ·have:=tailI bs (Zan_n f) f d (fun at0 out key b h1 h2=>ih at0 out key b h1 h2 (by omega) (by omega)) ed x m at2 out hat2 a1 hm
      rw [hu] at this
      simp only [hc,decide_true,Qc,cond_false]
      unfold WR
      exact this
     ·rw [Vrf (g:=(acc x key b,x,u)) hc,show decide (acc x key b=0)=false from decide_eq_false hc]
      exact Vi8 hc
    unfold bodB
    cases hN:isN k
    ·simp only [cond_false]
     cases hD:isD k
     ·simp only [cond_false]
      exact fin ⟨k,m,[]⟩ at1 t m h1 ht (fun h=>by dsimp only at h; rw [hN] at h; cases h)
     ·simp only [cond_true]
      have htl:=congrArg List.length ht
      rw [Q5] at htl
      by_cases q1:1024 < m.toNat
      ·simp only [decide_eq_true q1,cond_true]
       exact Vi8 (e:=8) (by decide)
      ·simp only [decide_eq_false q1,cond_false]
       by_cases q2:t.length < m.toNat
       ·rw [show decide (bs.length - at1 < m.toNat)=true from decide_eq_true (by omega),show decide (t.length < m.toNat)=true from decide_eq_true q2]
        exact Vi8 (e:=1) (by decide)
       ·rw [show decide (bs.length - at1 < m.toNat)=false from decide_eq_false (by omega),show decide (t.length < m.toNat)=false from decide_eq_false q2,ht]
        exact fin ⟨k,0#64,t.take m.toNat⟩ (at1+m.toNat) (t.drop m.toNat) m (by omega) (by rw [← ht,Qx]) (fun h=>by dsimp only at h; rw [hN] at h; cases h)
    ·simp only [cond_true]
     by_cases q1:512 < m.toNat
     ·simp only [decide_eq_true q1,cond_true]
      exact Vi8 (e:=8) (by decide)
     ·simp only [decide_eq_false q1,cond_false]
      exact fin ⟨k,m,[]⟩ at1 t m h1 ht (fun _=>⟨rfl,by omega⟩)
   ·simp only [decide_eq_false ha,Qi,cond_true,decide_true,Qc,cond_false]
    rw [Vrf (by exact ha)]
    exact Vi8 ha
  ·have e1:Zan_R (Zan_n f) (bs,(at0:Int),out,()) (d:Int) key b=some (((bs,(at1:Int),out,()),()),(e,())):=by
    unfold Zan_R
    dsimp only
    rw [h2]
    simp only [bindS]
    rw [show decide (e=0)=false from decide_eq_false he]
    rfl
   rw [e1,show decide (e=0)=false from decide_eq_false he]
   simp only [Qi,cond_true]
   rw [Vrf (by exact he)]
   exact Vi8 he
theorem Vpv (bs:List UInt8) (hbs:bs.length < 1000000):Zbs bs=some ((),(decO bs).1,(decO bs).2.1,(decO bs).2.2,()):=by
 have h:RI bs [] (W getB 12 bs 0 0 false []) (Zan (bs,0,[],()) 0 false []):=Voe bs hbs 12 0 0 [] false [] (by omega) (by simp) (by omega) (by omega)
 obtain ⟨m1,m2⟩:=Vob Vy4 12 (by omega) bs
 unfold Zbs decO
 obtain ⟨j1,j2⟩:=h
 by_cases hw:(W getB 12 bs 0 0 false []).1=0
 ·obtain ⟨at1,a1,a2,a3,a4⟩:=j1 hw
  rw [m2 hw]
  rw [a2]
  simp only [bindS,decide_true,Qc,cond_false,cond_true,hw,Qam]
  have hl:=congrArg List.length a3
  rw [Q5] at hl
  rw [show (bs.length - (W getB 12 bs 0 0 false []).2.2.length:Nat)=at1 by omega]
 ·obtain ⟨st,a1⟩:=j2 hw
  rw [a1]
  simp only [bindS]
  rw [show decide ((W getB 12 bs 0 0 false []).1=0)=false from decide_eq_false hw,m1 hw,show decide ((W getB 12 bs 0 0 false []).1=0)=false from decide_eq_false hw]
  rfl
def addI (x:ApiItem):Nat:=bif decide (x.kind=5) then x.number.toNat else bif decide (x.kind=6) then 2 * x.number.toNat else 0
def skp:List ApiItem→Nat→Option Nat
 | [],0=>some 0
 | [],_+1=>none
 | _::_,0=>some 0
 | x::r,n+1=>bif isN x.kind&&decide (512 < x.number.toNat) then none else (skp r (n+addI x)).map (·+1)
theorem Vg1:∀ l,skp l 0=some 0
 | []=>rfl
 | _::_=>rfl
def skZ (at0:Nat):Option Nat→(Int×Bool×Unit)⊕(Int×Unit)
 | none=>.inl (0,false,())
 | some k=>.inr (((at0+k:Nat):Int),())
theorem Vrg {x:ApiItem} (h:(isN x.kind&&decide (512 < x.number.toNat))=false):addI x≤1024:=by
 unfold addI
 simp only [isN,Qap,decide_eq_false_iff_not,Qq] at h
 by_cases h5:x.kind=5
 ·simp [h5] at h ⊢; omega
 ·by_cases h6:x.kind=6
  ·simp [h6] at h ⊢; omega
  ·simp [h5,h6]
theorem Vvv (l:List ApiItem) (hl:l.length < 1000000):∀ (r:List ApiItem) (at0 need f:Nat),l.drop at0=r→at0≤l.length→need≤1024 * (at0+1)→r.length < f →
  iter (fun (y:((List (ApiItem))×Int×Int×Unit))=>cbor_Skip_L0b y.1 y.2.1 y.2.2.1) f (l,(at0:Int),(need:Int),())=some (skZ at0 (skp r need)):=by
 intro r
 induction r with
 | nil=>
  intro at0 need f hr ha hn hf
  have hal:at0=l.length:=by
   have:=congrArg List.length hr
   simp at this
   omega
  obtain ⟨f,rfl⟩:∃ g,f=g+1:=⟨f - 1,by omega⟩
  rw [Vad]
  dsimp only
  unfold cbor_Skip_L0b
  cases need with
  | zero=>rfl
  | succ need=>
   rw [show decide ((0:Int) < ((need+1:Nat):Int))=true from decide_eq_true (by omega),show decide ((l.length:Int)≤(at0:Int))=true from decide_eq_true (by omega)]
   rfl
 | cons x r ih=>
  intro at0 need f hr ha hn hf
  have hlt:at0 < l.length:=by
   have:=congrArg List.length hr
   simp at this
   omega
  have hx:l[at0]? = some x:=by
   have:=congrArg (·[0]?) hr
   simpa using this
  have hr2:l.drop (at0+1)=r:=by
   have:=congrArg (Q6 1) hr
   simpa [Qx] using this
  have eg:getI l (at0:Int)=some x:=by unfold getI; simp [hx]
  simp only [Qj] at hf
  obtain ⟨f,rfl⟩:∃ g,f=g+1:=⟨f - 1,by omega⟩
  rw [Vad]
  dsimp only
  cases need with
  | zero=>rfl
  | succ need=>
   have e1 : cbor_Skip_L0b l (at0 : Int) ((need+1 : Nat) : Int) = some (bif isN x.kind&&decide (512 < x.number.toNat) then .inr (.inl (0, false, ())) else .inl (l, ((at0+1 : Nat) : Int), ((need+addI x : Nat) : Int), ())) := by
    unfold cbor_Skip_L0b
    rw [show decide ((0:Int) < ((need+1:Nat):Int))=true from decide_eq_true (by omega),show decide ((l.length:Int)≤(at0:Int))=false from decide_eq_false (by omega),eg,Vac (n:=(at0:Int)+1) (by omega) (by omega),Vac (n:=((need+1:Nat):Int) - 1) (by omega) (by omega),show ((need+1:Nat):Int) - 1=(need:Int) by omega,show (512#64).toNat=512 from rfl]
    simp only [cond_true,cond_false,bindS]
    unfold isN addI
    by_cases h5:x.kind=5
    ·by_cases hm:512 < x.number.toNat
     ·simp [h5,hm]
     ·rw [Vac (n:=(x.number.toNat:Int)) (by omega) (by omega),Vac (n:=(need:Int)+(x.number.toNat:Int)) (by omega) (by omega)]
      simp [h5,hm]
    ·by_cases h6:x.kind=6
     ·by_cases hm:512 < x.number.toNat
      ·simp [h6,hm]
      ·rw [Vac (n:=(x.number.toNat:Int)) (by omega) (by omega),Vac (n:=(need:Int)+(x.number.toNat:Int)) (by omega) (by omega),Vac (n:=(need:Int)+(x.number.toNat:Int)+(x.number.toNat:Int)) (by omega) (by omega)]
       simp [h6,hm]
       omega
     ·simp [h5,h6]
   rw [e1,bindS]
   simp only [skp]
   cases hb:(isN x.kind&&decide (512 < x.number.toNat))
   ·simp only [cond_false,Qp]
    have:=Vrg hb
    rw [ih (at0+1) (need+addI x) f hr2 (by omega) (by omega) (by omega)]
    cases skp r (need+addI x) with
    | none=>rfl
    | some k=>
     simp only [Option.map_some,skZ]
     rw [show at0+1+k=at0+(k+1) by omega]
   ·rfl
def skO (l:List ApiItem) (a:Int):Int×Bool:=bif decide (a < 0) then (0,false) else bif decide ((l.length:Int)≤a) then (0,false) else match skp (l.drop a.toNat) 1 with
 | none=>(0,false)
 | some k=>(((a.toNat+k:Nat):Int),true)
theorem Vof (a:Nat) (o:Option Nat):(Qai (fun (z6:(Int×Bool×Unit))=>(some ((),(z6.1,z6.2.1,())):Option (Unit×(Int×Bool×Unit)))) (fun (z7:(Int×Unit))=>(some ((),(z7.1,true,())))) (skZ a o))=some ((),(match o with | none=>((0:Int),false) | some k=>(((a+k:Nat):Int),true)).1,(match o with | none=>((0:Int),false) | some k=>(((a+k:Nat):Int),true)).2,()):=by
 cases o<;>rfl
theorem Vm7 (l:List ApiItem) (a:Int) (hl:l.length < 1000000):cbor_Skip l a=some ((),(skO l a).1,(skO l a).2,()):=by
 unfold cbor_Skip skO
 by_cases h1:a < 0
 ·simp [h1]
 ·rw [show decide (a < 0)=false from decide_eq_false h1]
  by_cases h2:(l.length:Int)≤a
  ·simp [h2]
  ·rw [show decide ((l.length:Int)≤a)=false from decide_eq_false h2]
   obtain ⟨n,rfl⟩:∃ n:Nat,a=(n:Int):=⟨a.toNat,by omega⟩
   have:=Vvv l hl (l.drop n) n 1 rounds rfl (by omega) (by omega) (by rw [Vae]; simp; omega)
   unfold cbor_Skip_L0
   simp only [cond_false]
   rw [show (1:Int)=((1:Nat):Int) from rfl,this,bindS,Ql,Vof]
theorem Vog (o:Option Nat) (a b:Nat):(o.map (·+a)).map (·+b)=o.map (·+(b+a)):=by
 cases o with
 | none=>rfl
 | some k=>simp; omega
theorem map0 (o:Option Nat):o=o.map (·+0):=by cases o<;>rfl
theorem W_skp : ∀ (f : Nat) (s : List ApiItem) (n d : Nat) (key : Bool) (b : List UInt8), (W getL f s n d key b).1 = 0→∀ m, skp s (m+1) = (skp (W getL f s n d key b).2.2 m).map (·+(W getL f s n d key b).2.1.length)
 | 0,s,n,d,key,b,h=>by simp [W] at h
 | f+1, s, n, d, key, b, h => by
  have ih:=W_skp f
  intro m
  unfold W at h ⊢
  dsimp only at h ⊢
  rcases hg:getL n d key b s with ⟨e,x,t⟩
  rw [hg] at h
  dsimp only at h ⊢
  by_cases he:e=0
  ·subst he
   simp only [decide_true,cond_true] at h ⊢
   have hs:s=x::t∧(isN x.kind&&decide (512 < x.number.toNat))=false:=by
    cases s with
    | nil=>simp [getL] at hg
    | cons y r=>
     simp only [getL,Qf] at hg
     obtain ⟨g1,rfl,rfl⟩:=hg
     refine ⟨rfl,?_⟩
     have:=(Vb7 (Vax g1).2.2.1).2
     cases hn:isN y.kind
     ·rfl
     ·rw [decide_eq_false (by have:=this hn; omega)]; rfl
   rw [hs.1]
   simp only [skp,hs.2,cond_false,Qj]
   have key2:∀ q:Res (List ApiItem),skp t (m+addI x)=(skp q.2.2 m).map (·+q.2.1.length)→(skp t (m+addI x)).map (·+1)=(skp q.2.2 m).map (·+(q.2.1.length+1)):=by
    intro q hq
    rw [hq,Vog,Qa1 1]
   refine key2 _ ?_
   by_cases h5:x.kind=5
   ·simp only [h5,decide_true,cond_true] at h ⊢
    have loop:∀ (k:Nat) (t:List ApiItem) (n:Nat),(LA (fun s n=>W getL f s n (d+1) false []) k t n).1=0→skp t (m+k)=(skp (LA (fun s n=>W getL f s n (d+1) false []) k t n).2.2 m).map (·+(LA (fun s n=>W getL f s n (d+1) false []) k t n).2.1.length):=by
     intro k
     induction k with
     | zero=>intro t n _; exact map0 _
     | succ k ihk=>
      intro t n h
      unfold LA at h ⊢
      have i1:=ih t n (d+1) false []
      generalize W getL f t n (d+1) false []=w at h i1 ⊢
      by_cases hw:w.1=0
      ·rw [show decide (w.1=0)=true by simpa using hw] at h ⊢
       simp only [cond_true] at h ⊢
       rw [← Qas,i1 hw (m+k),ihk _ _ h,Vog,Qa]
      ·rw [show decide (w.1=0)=false by simpa using hw] at h
       exact absurd h hw
    have:=loop _ _ _ h
    unfold addI
    simp only [h5,decide_true,cond_true]
    exact this
   ·by_cases h6:x.kind=6
    ·simp only [h6,decide_true,cond_true,Int.reduceEq,decide_false,cond_false] at h ⊢
     have loop:∀ (k:Nat) (t:List ApiItem) (n:Nat) (l:List UInt8),(LM (fun s n last=>W getL f s n (d+1) true last) (fun s n=>W getL f s n (d+1) false []) k t n l).1=0→skp t (m+2 * k)=(skp (LM (fun s n last=>W getL f s n (d+1) true last) (fun s n=>W getL f s n (d+1) false []) k t n l).2.2 m).map (·+(LM (fun s n last=>W getL f s n (d+1) true last) (fun s n=>W getL f s n (d+1) false []) k t n l).2.1.length):=by
      intro k
      induction k with
      | zero=>intro t n l _; exact map0 _
      | succ k ihk=>
       intro t n l h
       unfold LM at h ⊢
       dsimp only at h ⊢
       have i1:=ih t n (d+1) true l
       generalize W getL f t n (d+1) true l=w at h i1 ⊢
       by_cases hw:w.1=0
       ·rw [show decide (w.1=0)=true by simpa using hw] at h ⊢
        simp only [cond_true] at h ⊢
        have i2:=ih w.2.2 (n+w.2.1.length) (d+1) false []
        generalize W getL f w.2.2 (n+w.2.1.length) (d+1) false []=v at h i2 ⊢
        by_cases hv:v.1=0
        ·rw [show decide (v.1=0)=true by simpa using hv] at h ⊢
         simp only [cond_true] at h ⊢
         rw [show m+2 * (k+1)=m+2 * k+1+1 by omega,i1 hw (m+2 * k+1),i2 hv (m+2 * k),ihk _ _ _ h]
         simp only [Vog,Qa]
        ·rw [show decide (v.1=0)=false by simpa using hv] at h
         exact absurd h hv
       ·rw [show decide (w.1=0)=false by simpa using hw] at h
        exact absurd h hw
     have:=loop _ _ _ _ h
     unfold addI
     simp only [h6,decide_true,cond_true,Int.reduceEq,decide_false,cond_false]
     exact this
    ·simp only [h5,h6,decide_false,cond_false]
     unfold addI
     simp only [h5,h6,decide_false,cond_false]
     exact map0 _
  ·rw [show decide (e=0)=false by simpa using he] at h
   exact absurd h he
inductive PairsAt:Nat→List ApiItem→List ApiItem→List (ApiItem×List ApiItem)→Prop
 | nil (t:List ApiItem):PairsAt 0 t t []
 | cons {k:Nat} {x:ApiItem} {v r t:List ApiItem} {ps:List (ApiItem×List ApiItem)} (hx:isN x.kind=false) (hv:∀ m,skp (v++r) (m+1)=(skp r m).map (·+v.length)) (h0:v≠[]) (h:PairsAt k r t ps):PairsAt (k+1) (x::(v++r)) t ((x,v)::ps)
theorem W_one {f:Nat} {s:List ApiItem} {n d:Nat} {b:List UInt8} (h:(W getL f s n d true b).1=0):∃ x,(W getL f s n d true b).2.1=[x]∧isN x.kind=false∧chk x n d true b=0:=by
 cases f with
 | zero=>simp [W] at h
 | succ f=>
  unfold W at h ⊢
  dsimp only at h ⊢
  rcases hg:getL n d true b s with ⟨e,x,t⟩
  rw [hg] at h
  dsimp only at h ⊢
  by_cases he:e=0
  ·subst he
   obtain ⟨_,hc⟩:=Vhi hg
   have hk:=(Vbf (Vax hc).1).2.2.2.1 rfl
   have h5:¬ x.kind=5:=fun h=>by rw [h] at hk; cases hk
   have h6:¬ x.kind=6:=fun h=>by rw [h] at hk; cases hk
   refine ⟨x,?_,?_,hc⟩
   ·simp [h5,h6]
   ·simp [isN,h5,h6]
  ·rw [show decide (e=0)=false from decide_eq_false he] at h
   exact absurd h he
theorem Voh (f d:Nat):∀ (k:Nat) (s:List ApiItem) (n:Nat) (l:List UInt8),(LM (fun s n last=>W getL f s n (d+1) true last) (fun s n=>W getL f s n (d+1) false []) k s n l).1=0→∃ ps,PairsAt k s (LM (fun s n last=>W getL f s n (d+1) true last) (fun s n=>W getL f s n (d+1) false []) k s n l).2.2 ps
 | 0,s,n,l,h=>⟨_,PairsAt.nil _⟩
 | k+1,s,n,l,h=>by
  have ih:=Voh f d k
  unfold LM at h ⊢
  dsimp only at h ⊢
  have hw1:=W_one (f:=f) (s:=s) (n:=n) (d:=d+1) (b:=l)
  have hwl:=Vhe f s n (d+1) true l
  generalize W getL f s n (d+1) true l=w at h hw1 hwl ⊢
  by_cases hw:w.1=0
  ·rw [show decide (w.1=0)=true from decide_eq_true hw] at h ⊢
   simp only [cond_true] at h ⊢
   obtain ⟨x,hx,hN,_⟩:=hw1 hw
   have hs:=hwl hw
   have hvl:=Vhe f w.2.2 (n+w.2.1.length) (d+1) false []
   have hvs:=W_skp f w.2.2 (n+w.2.1.length) (d+1) false []
   have hvn:=W_ne (get:=getL) (f:=f) (s:=w.2.2) (n:=n+w.2.1.length) (d:=d+1) (key:=false) (b:=[])
   generalize W getL f w.2.2 (n+w.2.1.length) (d+1) false []=v at h hvl hvs hvn ⊢
   by_cases hv:v.1=0
   ·rw [show decide (v.1=0)=true from decide_eq_true hv] at h ⊢
    simp only [cond_true] at h ⊢
    obtain ⟨ps,hp⟩:=ih _ _ _ h
    have e1:=hvl hv
    have e2:=hvs hv
    obtain ⟨y,r,hy⟩:=hvn hv
    rw [e1] at e2
    refine ⟨(x,v.2.1)::ps,?_⟩
    have es:s=x::(v.2.1++v.2.2):=by rw [hs,hx,← e1]; rfl
    rw [es]
    exact PairsAt.cons hN e2 (by rw [hy]; simp) hp
   ·rw [show decide (v.1=0)=false from decide_eq_false hv] at h
    exact absurd h hv
  ·rw [show decide (w.1=0)=false from decide_eq_false hw] at h
   exact absurd h hw
theorem Vrh {l:List ApiItem} (h:valO l=0):W getL 12 l 0 0 false []=(0,l,[]):=by
 obtain ⟨m1,m2⟩:=Vob Vm2 12 (by omega) l
 have hm:=(Vdc h).1
 by_cases hw:(W getL 12 l 0 0 false []).1=0
 ·rw [← m2 hw,hm]
 ·have:=m1 hw
  rw [hm] at this
  exact absurd this.symm hw
theorem Vm8 {l:List ApiItem} (h:valO l=0):l≠[]:=by
 intro e
 have:=Vrh h
 subst e
 simp [W,getL] at this
theorem Vvw {x:ApiItem} {l:List ApiItem} (h:valO (x::l)=0) (h6:x.kind=6):x.number.toNat≤512∧∃ ps,PairsAt x.number.toNat l [] ps:=by
 have hw:=Vrh h
 unfold W at hw
 by_cases hc:chk x 0 0 false []=0
 ·have hn:=(Vb7 (Vax hc).2.2.1).2 (by simp [isN,h6])
  simp only [getL,hc,h6,decide_true,decide_false,cond_true,cond_false,Int.reduceEq,Qf] at hw
  obtain ⟨w1,_,w3⟩:=hw
  obtain ⟨ps,hp⟩:=Voh 11 0 x.number.toNat l 1 [] w1
  rw [w3] at hp
  exact ⟨hn,ps,hp⟩
 ·simp only [getL,hc,decide_false,cond_false,Qf] at hw
  exact hw.1.elim
def lkP (key:BitVec 64):List (ApiItem×List ApiItem)→List ApiItem×Bool
 | []=>([],false)
 | p::r=>bif decide (p.1.kind=1)&&decide (p.1.number=key) then (p.2,true) else lkP key r
theorem PairsAt.len {k:Nat} {s t:List ApiItem} {ps:List (ApiItem×List ApiItem)} (h:PairsAt k s t ps):ps.length=k:=by
 induction h with
 | nil=>rfl
 | cons _ _ _ _ ih=>simp [ih]
theorem Vri {l:List ApiItem} {a:Nat} {v r:List ApiItem} (h:l.drop a=v++r) (hv:∀ m,skp (v++r) (m+1)=(skp r m).map (·+v.length)) (h0:v≠[]):skO l (a:Int)=(((a+v.length:Nat):Int),true):=by
 have h1:0 < v.length:=List.length_pos_iff.2 h0
 have hl:=congrArg List.length h
 rw [Q5,Qa] at hl
 have h2:=hv 0
 rw [Vg1,Q8] at h2
 unfold skO
 rw [show decide ((a:Int) < 0)=false from decide_eq_false (by omega),show decide ((l.length:Int)≤(a:Int))=false from decide_eq_false (by omega),Ql,h,h2]
 simp
def LkR (key:BitVec 64) (ps:List (ApiItem×List ApiItem)) (z:(List ApiItem×Bool×Unit)⊕Unit):Prop:=(Qai (fun (z9:((List (ApiItem))×Bool×Unit))=>(some ((),(z9.1,z9.2.1,())):Option (Unit×(List ApiItem×Bool×Unit)))) (fun (z10:(Unit))=>(some ((),([],false,())))) z)=some ((),(lkP key ps).1,(lkP key ps).2,())
theorem Vj4 {l v r:List ApiItem} {a:Nat} (h:l.drop a=v++r):Q6 a (Qah (a+v.length) l)=v:=by
 rw [Qaa,h,show a+v.length - a=v.length by omega]
 simp
theorem Voi (l:List ApiItem) (hl:l.length < 1000000) (key:BitVec 64) (N:BitVec 64) (hN:N.toNat≤512):∀ (k i a f:Nat) (s:List ApiItem) (ps:List (ApiItem×List ApiItem)),PairsAt k s [] ps→i+k=N.toNat→l.drop a=s→a≤l.length→k < f →
  ∃ z,iter (fun (y:((List (ApiItem))×(BitVec 64)×Int×(BitVec 64)×(BitVec 64)×Unit))=>Zdt_L0b y.1 y.2.1 y.2.2.1 y.2.2.2.1 y.2.2.2.2.1) f (l,key,(a:Int),N,Qg 64 i,())=some z∧LkR key ps z:=by
 intro k
 induction k with
 | zero=>
  intro i a f s ps hp hi hs ha hf
  obtain ⟨f,rfl⟩:∃ g,f=g+1:=⟨f - 1,by omega⟩
  rw [Vad]
  have hps:ps=[]:=List.length_eq_zero_iff.1 hp.len
  subst hps
  refine ⟨.inr (),?_,rfl⟩
  dsimp only
  unfold Zdt_L0b
  rw [bvn i (by omega),show decide (i < N.toNat)=false from decide_eq_false (by omega)]
  rfl
 | succ k ih=>
  intro i a f s ps hp hi hs ha hf
  obtain ⟨f,rfl⟩:∃ g,f=g+1:=⟨f - 1,by omega⟩
  cases hp with
  | @cons _ x v r _ ps hx hv h0 hp=>
  have hd1:l[a]? = some x:=by
   have:=congrArg (·[0]?) hs
   simpa using this
  have hd2:l.drop (a+1)=v++r:=by
   have:=congrArg (Q6 1) hs
   simpa [Qx] using this
  have hlen:=congrArg List.length hd2
  rw [Q5,Qa] at hlen
  have hv1:0 < v.length:=List.length_pos_iff.2 h0
  have hd3:l.drop (a+1+v.length)=r:=by
   rw [← Qx,hd2]; simp
  have e1:Zdt_L0b l key (a:Int) N (Qg 64 i)=bif decide (x.kind=1)&&decide (x.number=key) then some (Qae (Q7 (v,true,()))) else some (Q7 (l,key,((a+1+v.length:Nat):Int),N,Qg 64 (i+1),())):=by
   unfold Zdt_L0b
   rw [bvn i (by omega),show decide (i < N.toNat)=true from decide_eq_true (by omega),Vac (n:=(a:Int)+1) (by omega) (by omega),show (a:Int)+1=((a+1:Nat):Int) from rfl,Vm7 l _ hl,Vri hd2 hv h0,bvs i (by omega),Vbj hd1]
   simp only [cond_true,bindS,Qc,cond_false]
   cases h1:decide (x.kind=1)
   ·simp only [Qo,cond_false]
   ·simp only [Qn,cond_true]
    cases h2:decide (x.number=key)
    ·simp only [cond_false]
    ·simp only [cond_true,Ql]
     rw [show (decide ((0:Int)≤((a+1+v.length:Nat):Int))&&decide (((a+1+v.length:Nat):Int)≤(l.length:Int)))=true by (rw [Qh,decide_eq_true_eq,decide_eq_true_eq]; exact ⟨by omega,by omega⟩),show (decide ((0:Int)≤((a+1:Nat):Int))&&decide (((a+1:Nat):Int)≤((a+1+v.length:Nat):Int)))=true by (rw [Qh,decide_eq_true_eq,decide_eq_true_eq]; exact ⟨by omega,by omega⟩),Vj4 hd2]
     simp only [cond_true]
     unfold Zdp
     rw [show decide (v.length≤1000000)=true from decide_eq_true (by omega)]
     rfl
  rw [Vad]
  dsimp only
  rw [e1]
  cases hm:(decide (x.kind=1)&&decide (x.number=key))
  ·simp only [cond_false,bindS,Qp]
   obtain ⟨z,z1,z2⟩:=ih (i+1) (a+1+v.length) f r ps hp (by omega) hd3 (by omega) (by omega)
   refine ⟨z,z1,?_⟩
   unfold LkR lkP
   rw [hm]
   exact z2
  ·refine ⟨_,rfl,?_⟩
   unfold LkR lkP
   rw [hm]
   rfl
theorem Vgp {a b:Int} (h0:0≤a) (h1:a < b):(decide ((0:Int)≤a)&&decide (a < b))=true:=by
 rw [Qh,decide_eq_true_eq,decide_eq_true_eq]; exact ⟨h0,h1⟩
def fau:List (List ApiItem)→Int
 | []=>0
 | l::r=>bif decide (valO l=0) then fau r else valO l
def light1 (v:List (List ApiItem)):Prop:=∀ l∈v,l.length≤600∧∀ x∈l,x.data.length < 100000
theorem Vll (v:List (List ApiItem)) (hv:light1 v) (hl:v.length≤1000):Zdu v=some ((),fau v,()):=by
 have key:∀ (r:List (List ApiItem)) (j f:Nat),v.drop j=r→r.length < f→iter (fun (y:((List (List ApiItem))×Int×Int×Unit))=>Zdu_L0b y.1 y.2.1 y.2.2.1) f (v,(v.length:Int),(j:Int),())=some (bif decide (fau r=0) then .inr () else .inl (fau r,())):=by
  intro r
  induction r with
  | nil=>
   intro j f hr hf
   obtain ⟨f,rfl⟩:∃ g,f=g+1:=⟨f - 1,by omega⟩
   have hjl:v.length≤j:=by
    have:=congrArg List.length hr
    simp at this
    omega
   rw [Vad]
   dsimp only
   unfold Zdu_L0b
   rw [show decide ((j:Int) < (v.length:Int))=false from decide_eq_false (by omega)]
   rfl
  | cons l r ih=>
   intro j f hr hf
   obtain ⟨f,rfl⟩:∃ g,f=g+1:=⟨f - 1,by omega⟩
   obtain ⟨d1,d2,d3,d4⟩:=Vbk hr
   have hm:=hv l (Q1 d1)
   have e1:Zdu_L0b v (v.length:Int) (j:Int)=bif decide (valO l=0) then some (Q7 (v,(v.length:Int),((j+1:Nat):Int),())) else some (Qae (Q7 (valO l,()))):=by
    unfold Zdu_L0b
    rw [show decide ((j:Int) < (v.length:Int))=true from decide_eq_true (by omega),Vbj d1,Vac (n:=(j:Int)+1) (by omega) (by omega)]
    simp only [cond_true,bindS]
    rw [Vcn l (by omega) hm.2]
    simp only [bindS]
    cases decide (valO l=0)<;>rfl
   rw [Vad]
   dsimp only
   rw [e1]
   unfold fau
   by_cases h0:valO l=0
   ·rw [show decide (valO l=0)=true from decide_eq_true h0]
    exact ih (j+1) f d2 (by simp at hf; omega)
   ·rw [show decide (valO l=0)=false from decide_eq_false h0]
    simp only [cond_false,bindS,Qak]
    rw [show decide (valO l=0)=false from decide_eq_false h0]
    rfl
 unfold Zdu Zdu_L0
 have e:=key v 0 rounds rfl (by rw [Vae]; omega)
 rw [show ((0:Nat):Int)=0 from rfl] at e
 rw [e]
 by_cases h0:fau v=0
 ·rw [h0]; rfl
 ·rw [show decide (fau v=0)=false from decide_eq_false h0]; rfl
theorem Vlm:∀ (f:Nat) (S:List CborFrame) (n:Nat) (p a b:List ApiItem),n≤512→p.length+n=513→valE (mach getL f S n (p++a))=valE (mach getL f S n (p++b))
 | 0,S,n,p,a,b,_,_=>rfl
 | f+1,S,n,p,a,b,hn,hp=>by
  cases p with
  | nil=>simp at hp; omega
  | cons x p=>
   simp only [Qj] at hp
   cases hS:(decide (0 < n)&&S.isEmpty)
   ·by_cases hc:chk x n S.length (atK S) (lst S)=0
    ·have hn2:=(Vbf (Vax hc).1).1
     have e:∀ q:List ApiItem,getL n S.length (atK S) (lst S) (x::q)=(0,x,q):=fun q=>by simp [getL,hc]
     rw [Qs,Qs,Vb6 hS (e _),Vb6 hS (e _)]
     exact Vlm f (nxt x S) (n+1) p a b (by omega) (by omega)
    ·have e:∀ q:List ApiItem,getL n S.length (atK S) (lst S) (x::q)=(chk x n S.length (atK S) (lst S),x,q):=fun q=>rfl
     rw [Qs,Qs,Vdh hS (e _) hc,Vdh hS (e _) hc]
     rfl
   ·have e:∀ q:List ApiItem,valE (mach getL (f+1) S n (x::q))=2:=by
     intro q
     unfold mach
     rw [hS]
     rfl
    rw [Qs,Qs,e,e]
theorem Vrj (p a b:List ApiItem) (hp:p.length=513):valO (p++a)=valO (p++b):=Vlm 600 [] 0 p a b (by omega) (by omega)
def gat:List ApiItem→List (List ApiItem)→List ApiItem
 | o,[]=>o
 | o,l::r=>bif decide (512 < o.length) then o else gat (o++l) r
theorem Vj5:∀ (v:List (List ApiItem)) (o:List ApiItem),valO (gat o v)=valO (o++v.flatten)∧(gat o v=o++v.flatten∨512 < (gat o v).length∧512 < (o++v.flatten).length)
 | [],o=>by simp [gat]
 | l::r,o=>by
  unfold gat
  by_cases h:512 < o.length
  ·rw [show decide (512 < o.length)=true from decide_eq_true h]
   simp only [cond_true]
   refine ⟨?_,.inr ⟨h,by rw [Qa]; omega⟩⟩
   have e:=Vrj (o.take 513) (o.drop 513) (o.drop 513++(l::r).flatten) (by rw [Qz]; omega)
   rw [← Qd,Qa7] at e
   exact e
  ·rw [show decide (512 < o.length)=false from decide_eq_false h]
   simp only [cond_false,Qad]
   have:=Vj5 r (o++l)
   rw [Qd] at this
   exact this
theorem Voj {l:List ApiItem} (h:512 < l.length):valO l≠0:=by
 intro hv
 have key:∀ (f:Nat) (S:List CborFrame) (n:Nat) (l o r:List ApiItem),n≤512→mach getL f S n l=(0,o,r)→n+o.length≤512:=by
  intro f
  induction f with
  | zero=>intro S n l o r hn h; simp [mach] at h
  | succ f ih=>
   intro S n l o r hn h
   rcases Vep getL f S n l with ⟨h1,h2⟩ | ⟨h1,h2,h3⟩ | ⟨h1,x,u,h2,h3⟩
   ·rw [h2] at h
    simp only [Qf,true_and] at h
    obtain ⟨rfl,rfl⟩:=h
    simpa using hn
   ·rw [h3] at h
    simp only [Qf] at h
    exact absurd h.1 h2
   ·rw [h3] at h
    simp only [Qf] at h
    obtain ⟨g1,g2,g3⟩:=h
    have hn2:=(Vbf (Vax (Vhi h2).2).1).1
    generalize hm:mach getL f (nxt x S) (n+1) u=m at g1 g2 g3
    obtain ⟨m1,m2,m3⟩:=m
    dsimp only at g1 g2 g3
    subst g1; subst g2; subst g3
    have:=ih (nxt x S) (n+1) u m2 m3 (by omega) hm
    rw [Qj]
    omega
 have:=key 600 [] 0 l l [] (by omega) (Vdc hv).1
 omega
theorem Vi9 (l:List ApiItem) (hl:l.length < 1000000) (hd:∀ x∈l,x.data.length < 100000):Zdm l=some ((),(bif decide (valO l=0) then l else []),valO l,()):=by
 unfold Zdm
 rw [Vcn l hl hd]
 simp only [bindS]
 by_cases h:valO l=0
 ·rw [h]; rfl
 ·rw [show decide (valO l=0)=false from decide_eq_false h]; rfl
theorem Vm9:∀ (v:List (List ApiItem)) (o:List ApiItem),(gat o v).length≤(o++v.flatten).length∧∀ x∈gat o v,x∈o++v.flatten
 | [],o=>by simp [gat]
 | l::r,o=>by
  unfold gat
  cases decide (512 < o.length)
  ·have:=Vm9 r (o++l)
   simp only [cond_false,Qad]
   rw [Qd] at this
   exact this
  ·simp only [cond_true]
   exact ⟨by rw [Qa]; omega,fun x hx=>List.mem_append_left _ hx⟩
theorem Vrk {v:List (List ApiItem)} (o:List ApiItem):(bif decide (valO (gat o v)=0) then gat o v else [])=(bif decide (valO (o++v.flatten)=0) then o++v.flatten else []):=by
 obtain ⟨h1,h2⟩:=Vj5 v o
 rw [h1]
 rcases h2 with h2 | ⟨h2,h3⟩
 ·rw [h2]
 ·rw [show decide (valO (o++v.flatten)=0)=false from decide_eq_false (Voj h3)]
  rfl
def kk (keys:List (BitVec 64)) (i:Nat):Nat:=(keys.getD i 0#64).toNat
def cmpI (a b:Nat):Int:=bif decide (a < b) then -1 else bif decide (b < a) then 1 else 0
theorem Vln {keys:List (BitVec 64)} {i:Nat} (h:i < keys.length):getI keys (i:Int)=some (keys.getD i 0#64):=by
 refine Vbj ?_
 rw [Q2,Qaf h]
 rfl
theorem Vza (keys:List (BitVec 64)) (i j:Nat) (hi:i < keys.length) (hj:j < keys.length):Zdy (i:Int) (j:Int) keys=some ((),cmpI (kk keys i) (kk keys j),()):=by
 unfold Zdy
 rw [Vln hi,Vln hj]
 simp only [bindS]
 unfold Zbl Zck cmpI kk
 simp only [bindS,decide_true,Qc,cond_false]
 cases decide ((keys.getD i 0#64).toNat < (keys.getD j 0#64).toNat)
 ·cases decide ((keys.getD j 0#64).toNat < (keys.getD i 0#64).toNat)<;>rfl
 ·rfl
abbrev ci (l:List Nat):List Int:=l.map fun n:Nat=>(n:Int)
theorem Vok (l:List Nat):(ci l).length=l.length:=List.length_map _
theorem Vol {l:List Nat} {i n:Nat} (h:l[i]? = some n):(ci l)[i]? = some (n:Int):=by
 rw [List.getElem?_map,h]; rfl
theorem Vzb (n:Nat) (h:n≤12):∃ k,Zdi (Qk 64 (n:Int))=some ((),k,()):=by
 have:n=0∨n=1∨n=2∨n=3∨n=4∨n=5∨n=6∨n=7∨n=8∨n=9∨n=10∨n=11∨n=12:=by omega
 rcases this with rfl | rfl | rfl | rfl | rfl | rfl | rfl | rfl | rfl | rfl | rfl | rfl | rfl
 ·exact ⟨0,by kernel_rfl⟩
 ·exact ⟨1,by kernel_rfl⟩
 ·exact ⟨2,by kernel_rfl⟩
 ·exact ⟨2,by kernel_rfl⟩
 ·exact ⟨3,by kernel_rfl⟩
 ·exact ⟨3,by kernel_rfl⟩
 ·exact ⟨3,by kernel_rfl⟩
 ·exact ⟨3,by kernel_rfl⟩
 ·exact ⟨4,by kernel_rfl⟩
 ·exact ⟨4,by kernel_rfl⟩
 ·exact ⟨4,by kernel_rfl⟩
 ·exact ⟨4,by kernel_rfl⟩
 ·exact ⟨4,by kernel_rfl⟩
def prO (keys:List (BitVec 64)) (v:List (List ApiItem)) (o:List Nat):List (List ApiItem):=o.map fun i=>⟨1,keys.getD i 0#64,[]⟩::v.getD i []
def adj (keys:List (BitVec 64)):List Nat→Bool
 | a::b::r=>decide (kk keys a=kk keys b)||adj keys (b::r)
 | _=>false
theorem Va0a (keys:List (BitVec 64)) (i j:Nat):decide (keys.getD i 0#64=keys.getD j 0#64)=decide (kk keys i=kk keys j):=by
 rw [decide_eq_decide]
 exact ⟨fun h=>by unfold kk; rw [h],fun h=>Qw h⟩
def mapO (keys:List (BitVec 64)) (v:List (List ApiItem)) (o:List Nat):List ApiItem×Int:=
 bif adj keys o then ([],10) else bif !decide (fau v=0) then ([],fau v) else
 bif decide (valO (⟨6,Qk 64 (keys.length:Int),[]⟩::(prO keys v o).flatten)=0) then (⟨6,Qk 64 (keys.length:Int),[]⟩::(prO keys v o).flatten,0) else ([],valO (⟨6,Qk 64 (keys.length:Int),[]⟩::(prO keys v o).flatten))
theorem Vja {v:List (List ApiItem)} (h:light1 v) (i:Nat):(v.getD i []).length≤600∧∀ x∈v.getD i [],x.data.length < 100000:=by
 rw [Q2]
 cases hi:v[i]? with
 | none=>simp
 | some l=>exact h l (Q1 hi)
theorem Vlo {keys:List (BitVec 64)} {v:List (List ApiItem)} (h:light1 v):∀ o:List Nat,(prO keys v o).flatten.length≤o.length * 601∧∀ x∈(prO keys v o).flatten,x.data.length < 100000
 | []=>by simp [prO]
 | i::r=>by
  obtain ⟨i1,i2⟩:=Vlo (keys:=keys) h r
  obtain ⟨l1,l2⟩:=Vja h i
  unfold prO at *
  refine ⟨?_,?_⟩
  ·simp only [Qbf,Qad,Qa,Qj,Nat.add_mul]
   omega
  ·intro x hx
   simp only [Qbf,Qad,Qs,List.mem_cons,List.mem_append] at hx
   rcases hx with rfl | hx | hx
   ·simp
   ·exact l2 x hx
   ·exact i2 x hx
theorem Vvx {v:List (List ApiItem)} {i:Nat} (h:i < v.length):getI v (i:Int)=some (v.getD i []):=by
 refine Vbj ?_
 rw [Q2,Qaf h]
 rfl
theorem Vrl:∀ (l r:List ApiItem) (need m:Nat),skp l need=some l.length→skp (l++r) (need+m)=(skp r m).map (·+l.length)
 | [],r,need,m,h=>by
  cases need with
  | zero=>simp only [Qam,Q8,Qan]; exact map0 _
  | succ k=>simp [skp] at h
 | x::t,r,need,m,h=>by
  cases need with
  | zero=>rw [Vg1] at h; simp at h
  | succ k=>
   simp only [skp,Qs,Nat.succ_add] at h ⊢
   cases hb:(isN x.kind&&decide (512 < x.number.toNat))
   ·rw [hb] at h
    simp only [cond_false] at h ⊢
    have h2:skp t (k+addI x)=some t.length:=by
     cases hq:skp t (k+addI x) with
     | none=>rw [hq] at h; simp at h
     | some n=>rw [hq] at h; simp at h; rw [h]
    have ih:=Vrl t r (k+addI x) m h2
    rw [show k+m+addI x=k+addI x+m by omega,ih,Vog,Qj,Qa1 1]
   ·rw [hb] at h
    simp at h
theorem Vrm {l:List ApiItem} (h:valO l=0) (r:List ApiItem) (m:Nat):skp (l++r) (m+1)=(skp r m).map (·+l.length):=by
 have hw:=Vrh h
 have h1:=W_skp 12 l 0 0 false [] (by rw [hw]) 0
 rw [hw,Vg1] at h1
 have h2:skp l 1=some l.length:=by rw [h1]; simp
 rw [Qa1 m 1]
 exact Vrl l r 1 m h2
end Go.Proofs.YthoblablopmhfaaGreatDoor

/- Out of the texts about items of the chapter on items (cbor): what this chapter needs. Written by a program. -/
import Derived.Test.YthoblablopmhfaaGreatDoorFns
import Derived.Test.YthoblablopmhfaaGreatDoorLib8
namespace Go.Proofs.YthoblablopmhfaaGreatDoor
set_option linter.unusedVariables false
set_option linter.unusedSimpArgs false
set_option maxRecDepth 100000
open Go Go.Abs
theorem Vco {n:Nat} (h:n < 1000000000):small n 1=true:=by
 unfold small; simp; omega
theorem Vq8 {n:Nat} (h:n < 1000000):small n 40=true:=by
 unfold small; simp; omega
theorem Ved {n:Nat} (h:n < 1000000):small n 32=true:=by
 unfold small; simp; omega
theorem Vzi {a b:Nat} (h:a≤b):Nat.ble a b=true:=Eq.mpr Nat.ble_eq h
def byt (n:BitVec 64):UInt8:=UInt8.ofBitVec (BitVec.setWidth 8 n)
def beb (n:BitVec 64):Nat→List UInt8
 | 0=>[]
 | k+1=>byt (n >>> (8 * k))::beb n k
def hdr (m:UInt8) (n:BitVec 64):List UInt8:=
 bif decide (n.toNat < 24) then [m+byt n] else bif decide (n.toNat < 256) then (m+24)::beb n 1 else bif decide (n.toNat < 65536) then (m+25)::beb n 2 else bif decide (n.toNat < 4294967296) then (m+26)::beb n 4 else (m+27)::beb n 8
def mj (k:Int):UInt8:=bif decide (k=2) then 32 else bif decide (k=3) then 64 else bif decide (k=4) then 96 else bif decide (k=5) then 128 else bif decide (k=6) then 160 else 0
def isD (k:Int):Bool:=decide (k=3)||decide (k=4)
def isN (k:Int):Bool:=decide (k=5)||decide (k=6)
def num (x:ApiItem):BitVec 64:=bif isD x.kind then BitVec.ofInt 64 (x.data.length:Int) else x.number
def hdI (x:ApiItem):List UInt8:=bif decide (x.kind=7) then [244+byt x.number] else bif decide (x.kind=8) then [246] else hdr (mj x.kind) (num x)
def enc (x:ApiItem):List UInt8:=hdI x++x.data
theorem Vc6 (n:BitVec 64):∀ k,(beb n k).length=k
 | 0=>rfl
 | k+1=>by simp [beb,Vc6 n k]
theorem Vq9 (m:UInt8) (n:BitVec 64):1≤(hdr m n).length∧(hdr m n).length≤9:=by
 unfold hdr
 cases decide (n.toNat < 24)<;>cases decide (n.toNat < 256)<;>cases decide (n.toNat < 65536)<;>cases decide (n.toNat < 4294967296)<;>simp [Vc6]
theorem Vka (x:ApiItem):1≤(hdI x).length∧(hdI x).length≤9:=by
 unfold hdI
 have:=Vq9 (mj x.kind) (num x)
 cases decide (x.kind=7)<;>cases decide (x.kind=8)<;>simp<;>omega
theorem Vesa (x:ApiItem):enc x≠[]:=by
 have h1:=(Vka x).1
 intro h
 have h2:=congrArg List.length h
 unfold enc at h2
 rw [List.length_append,List.length_nil] at h2
 omega
theorem Vha (out:List UInt8) (n:BitVec 64) (k:Nat) (hk:k≤8) (ho:out.length < 100000000):Zcl_L1 (out,n,(k:Int) - 1,())=some (out++beb n k,()):=by
 unfold Zcl_L1
 rw [Vlk (fun q=>q.2.1=n∧-1≤q.2.2.1∧q.2.2.1≤7∧(q.1.length:Int)+q.2.2.1≤200000000) (fun q=>(q.2.2.1+1).toNat) (fun q=>(q.1++beb q.2.1 (q.2.2.1+1).toNat,()))]
 ·rw [show ((k:Int) - 1+1).toNat=k by omega]
 ·rintro ⟨o,m,i,u⟩ ⟨h1,h2,h3,h4⟩
  dsimp only at *
  subst h1
  simp only [Zcl_L1b]
  by_cases hi:0≤i
  ·left
   obtain ⟨j,rfl⟩:∃ j:Nat,i=(j:Int):=⟨i.toNat,by omega⟩
   rw [Vad (n:=8 * (j:Int)) (by omega) (by omega),Vad (n:=(j:Int) - 1) (by omega) (by omega),show decide ((0:Int)≤(j:Int))=true by simp,show decide ((0:Int)≤8 * (j:Int))=true by simp; omega,Vco (by simp; omega)]
   refine ⟨_,rfl,⟨rfl,by dsimp only; omega,by dsimp only; omega,by dsimp only; simp; omega⟩,by dsimp only; omega,?_⟩
   dsimp only
   rw [show ((j:Int)+1).toNat=j+1 by omega,show ((j:Int) - 1+1).toNat=j by omega,show (8 * (j:Int)).toNat=8 * j by omega]
   simp [beb,byt]
  ·right
   rw [show decide ((0:Int)≤i)=false by simpa using hi,show (i+1).toNat=0 by omega]
   simp [beb]
 ·exact ⟨rfl,by dsimp only; omega,by dsimp only; omega,by dsimp only; omega⟩
 ·rw [Vam]; dsimp only; omega
theorem Vbe (out:List UInt8) (m:UInt8) (n:BitVec 64) (ho:out.length < 10000000):Zcl out m n=some ((),out++hdr (UInt8.ofBitVec (m.toBitVec <<< 5)) n,()):=by
 unfold Zcl hdr
 have e24:(24#64).toNat=24:=rfl
 have e256:(256#64).toNat=256:=rfl
 have e16:(65536#64).toNat=65536:=rfl
 have e32:(4294967296#64).toNat=4294967296:=rfl
 rw [e24,e256,e16,e32]
 generalize UInt8.ofBitVec (m.toBitVec <<< 5)=f
 by_cases h1:n.toNat < 24
 ·simp only [h1,decide_true,cond_true]
  rw [Vco (by simp; omega)]
  rfl
 ·by_cases h2:n.toNat < 256
  ·simp only [h1,h2,decide_true,decide_false,cond_true,cond_false,bindS,Sum.elim_inl]
   rw [Vco (by simp; omega),Vad (n:=(1:Int) - 1) (by omega) (by omega),show (1:Int) - 1=((1:Nat):Int) - 1 from rfl,Vha _ _ 1 (by omega) (by simp; omega)]
   simp only [cond_true,bindS,List.append_assoc]
   rfl
  ·by_cases h3:n.toNat < 65536
   ·simp only [h1,h2,h3,decide_true,decide_false,cond_true,cond_false,bindS,Sum.elim_inl]
    rw [Vco (by simp; omega),Vad (n:=(2:Int) - 1) (by omega) (by omega),show (2:Int) - 1=((2:Nat):Int) - 1 from rfl,Vha _ _ 2 (by omega) (by simp; omega)]
    simp only [cond_true,bindS,List.append_assoc]
    rfl
   ·by_cases h4:n.toNat < 4294967296
    ·simp only [h1,h2,h3,h4,decide_true,decide_false,cond_true,cond_false,bindS,Sum.elim_inl]
     rw [Vco (by simp; omega),Vad (n:=(4:Int) - 1) (by omega) (by omega),show (4:Int) - 1=((4:Nat):Int) - 1 from rfl,Vha _ _ 4 (by omega) (by simp; omega)]
     simp only [cond_true,bindS,List.append_assoc]
     rfl
    ·simp only [h1,h2,h3,h4,decide_true,decide_false,cond_true,cond_false,bindS,Sum.elim_inl]
     rw [Vco (by simp; omega),Vad (n:=(8:Int) - 1) (by omega) (by omega),show (8:Int) - 1=((8:Nat):Int) - 1 from rfl,Vha _ _ 8 (by omega) (by simp; omega)]
     simp only [cond_true,bindS,List.append_assoc]
     rfl
def kin (x:ApiItem):Prop:=1≤x.kind∧x.kind≤8∧(isD x.kind=false→x.data=[])
theorem Vfp (out:List UInt8) (x:ApiItem) (hk:kin x) (ho:out.length < 1000000) (hx:x.data.length < 1000000):Zcm out x=some ((),out++enc x,()):=by
 obtain ⟨k,n,d⟩:=x
 obtain ⟨h1,h2,h3⟩:=hk
 dsimp only at h1 h2 h3 hx
 unfold Zcm enc hdI num
 dsimp only
 have hl:=fun m n=>(Vq9 m n).2
 have hk:k=1∨k=2∨k=3∨k=4∨k=5∨k=6∨k=7∨k=8:=by omega
 rcases hk with rfl | rfl | rfl | rfl | rfl | rfl | rfl | rfl
 ·rw [h3 rfl,List.append_nil]
  exact (congrArg (fun q=>Option.bind q fun r9=>some ((),(r9.2.1,()))) (Vbe out 0 n (by omega))).trans rfl
 ·rw [h3 rfl,List.append_nil]
  exact (congrArg (fun q=>Option.bind q fun r9=>some ((),(r9.2.1,()))) (Vbe out 1 n (by omega))).trans rfl
 ·have:=Vbe out 2 (BitVec.ofInt 64 (d.length:Int)) (by omega)
  have hs:=Vco (n:=(out++hdr 64 (BitVec.ofInt 64 (d.length:Int))).length+d.length) (by have:=hl 64 (BitVec.ofInt 64 (d.length:Int)); rw [List.length_append]; omega)
  have e:(UInt8.ofBitVec ((2:UInt8).toBitVec <<< 5))=64:=by decide
  rw [e] at this
  show ((Zcl out 2 (BitVec.ofInt 64 (d.length:Int))).bind fun r3=>(bif small ((r3.2.1).length+(d:List (UInt8)).length) 1 then (some ((),((r3.2.1++d),()))) else none))=_
  rw [this]
  simp only [bindS]
  rw [hs]
  simp only [cond_true,List.append_assoc]
  rfl
 ·have:=Vbe out 3 (BitVec.ofInt 64 (d.length:Int)) (by omega)
  have hs:=Vco (n:=(out++hdr 96 (BitVec.ofInt 64 (d.length:Int))).length+d.length) (by have:=hl 96 (BitVec.ofInt 64 (d.length:Int)); rw [List.length_append]; omega)
  have e:(UInt8.ofBitVec ((3:UInt8).toBitVec <<< 5))=96:=by decide
  rw [e] at this
  show ((Zcl out 3 (BitVec.ofInt 64 (d.length:Int))).bind fun r3=>(bif small ((r3.2.1).length+(d:List (UInt8)).length) 1 then (some ((),((r3.2.1++d),()))) else none))=_
  rw [this]
  simp only [bindS]
  rw [hs]
  simp only [cond_true,List.append_assoc]
  rfl
 ·rw [h3 rfl,List.append_nil]
  exact (congrArg (fun q=>Option.bind q fun r9=>some ((),(r9.2.1,()))) (Vbe out 4 n (by omega))).trans rfl
 ·rw [h3 rfl,List.append_nil]
  exact (congrArg (fun q=>Option.bind q fun r9=>some ((),(r9.2.1,()))) (Vbe out 5 n (by omega))).trans rfl
 ·rw [h3 rfl,List.append_nil]
  show (bif small (out.length+1) 1 then _ else none)=_
  rw [Vco (by omega)]
  rfl
 ·rw [h3 rfl,List.append_nil]
  show (bif small (out.length+1) 1 then _ else none)=_
  rw [Vco (by omega)]
  rfl
theorem Vxo (n:BitVec 64):passkeyref1_Words [n]=some ((),beb n 8,()):=by
 have hL : ∀ out : List UInt8, out.length≤100→passkeyref1_Words_L2 ([n], out, 0, 7, ()) = some ([n], out++beb n 8, 0, ()) := by
  intro out ho
  unfold passkeyref1_Words_L2
  rw [Vlk (fun q=>q.1=[n]∧q.2.2.1=0∧-1≤q.2.2.2.1∧q.2.2.2.1≤7∧(q.2.1.length:Int)+q.2.2.2.1≤200) (fun q=>(q.2.2.2.1+1).toNat) (fun q=>(q.1,q.2.1++beb n (q.2.2.2.1+1).toNat,q.2.2.1,()))]
  ·rfl
  ·rintro ⟨l,o,z,i,u⟩ ⟨h0,h1,h2,h3,h4⟩
   dsimp only at *
   subst h0; subst h1
   simp only [passkeyref1_Words_L2b]
   by_cases hi:0≤i
   ·left
    obtain ⟨j,rfl⟩:∃ j:Nat,i=(j:Int):=⟨i.toNat,by omega⟩
    have eg:getI [n] 0=some n:=rfl
    have es:(BitVec.ofInt 64 (8 * (j:Int))).toNat=8 * j:=by
     rw [show (8 * (j:Int))=((8 * j:Nat):Int) by omega,BitVec.ofInt_natCast,BitVec.toNat_ofNat,Nat.mod_eq_of_lt (by omega)]
    rw [Vad (n:=8 * (j:Int)) (by omega) (by omega),Vad (n:=(j:Int) - 1) (by omega) (by omega),show decide ((0:Int)≤(j:Int))=true by simp,eg,es]
    simp only [cond_true,bindS]
    rw [Vco (by simp; omega)]
    refine ⟨_,rfl,⟨rfl,rfl,by dsimp only; omega,by dsimp only; omega,by dsimp only; simp; omega⟩,by dsimp only; omega,?_⟩
    dsimp only
    rw [show ((j:Int)+1).toNat=j+1 by omega,show ((j:Int) - 1+1).toNat=j by omega]
    simp [beb,byt]
   ·right
    rw [show decide ((0:Int)≤i)=false by simpa using hi,show (i+1).toNat=0 by omega]
    simp [beb]
  ·exact ⟨rfl,rfl,by dsimp only; omega,by dsimp only; omega,by dsimp only; omega⟩
  ·rw [Vam]; dsimp only; omega
 unfold passkeyref1_Words passkeyref1_Words_L0
 rw [Vam,show (1180591620717411303424:Nat)=1180591620717411303422+1+1 from rfl,Vae]
 have e1:passkeyref1_Words_L0b [n] [] 0=some (.inl ([n],beb n 8,1,())):=by
  unfold passkeyref1_Words_L0b
  rw [hL [] (by simp)]
  rfl
 have e2:passkeyref1_Words_L0b [n] (beb n 8) 1=some (.inr (beb n 8,())):=rfl
 dsimp only
 rw [e1,bindS,Sum.elim_inl,Vae]
 dsimp only
 rw [e2,bindS,Sum.elim_inr,bindS]
def tailH (j2:(BitVec 64) × UInt8 × Unit):Option (Unit × (List UInt8 × Unit)):=(bif (decide (j2.1.toNat < (24#64).toNat)) then (let v3:UInt8:=(UInt8.ofBitVec (j2.2.1.toBitVec + (UInt8.ofBitVec (BitVec.setWidth 8 j2.1)).toBitVec))
 (some ((),(([v3]:List (UInt8)),()))))
 else (bif (decide (j2.1.toNat < (256#64).toNat)) then (let v4:List (UInt8):=([(UInt8.ofBitVec (j2.2.1.toBitVec + (24:UInt8).toBitVec)),(UInt8.ofBitVec (BitVec.setWidth 8 j2.1))]:List (UInt8))
 (some ((),(v4,()))))
 else (bif (decide (j2.1.toNat < (65536#64).toNat)) then (let v5:List (UInt8):=([(UInt8.ofBitVec (j2.2.1.toBitVec + (25:UInt8).toBitVec)),(UInt8.ofBitVec (BitVec.setWidth 8 (j2.1 >>> 8))),(UInt8.ofBitVec (BitVec.setWidth 8 j2.1))]:List (UInt8))
 (some ((),(v5,()))))
 else (bif (decide (j2.1.toNat < (4294967296#64).toNat)) then (let v6:List (UInt8):=([(UInt8.ofBitVec (j2.2.1.toBitVec + (26:UInt8).toBitVec)),(UInt8.ofBitVec (BitVec.setWidth 8 (j2.1 >>> 24))),(UInt8.ofBitVec (BitVec.setWidth 8 (j2.1 >>> 16))),(UInt8.ofBitVec (BitVec.setWidth 8 (j2.1 >>> 8))),(UInt8.ofBitVec (BitVec.setWidth 8 j2.1))]:List (UInt8))
 (some ((),(v6,()))))
 else (let v7:List (UInt8):=([(UInt8.ofBitVec (j2.2.1.toBitVec + (27:UInt8).toBitVec))]:List (UInt8))
 ((passkeyref1_Words ([j2.1]:List (BitVec 64))).bind fun r8=>(bif small ((v7).length + (r8.2.1:List (UInt8)).length) 1 then (some ((),((v7 ++ r8.2.1),())))
 else none)))))))
theorem Va5a (x:ApiItem):Zch x=some ((),hdI x,()):=by
 have key:∀ (m:UInt8) (n:BitVec 64),tailH (n,m,())=some ((),hdr m n,()):=by
  intro m n
  unfold tailH
  dsimp only
  have e24:(24#64).toNat=24:=rfl
  have e256:(256#64).toNat=256:=rfl
  have e16:(65536#64).toNat=65536:=rfl
  have e32:(4294967296#64).toNat=4294967296:=rfl
  have es:n >>> (8 * 0)=n:=by simp
  rw [e24,e256,e16,e32]
  unfold hdr
  simp only [beb,byt,es]
  by_cases h1:n.toNat < 24
  ·simp only [h1,decide_true,cond_true]; rfl
  ·by_cases h2:n.toNat < 256
   ·simp only [h1,h2,decide_true,decide_false,cond_true,cond_false]; rfl
   ·by_cases h3:n.toNat < 65536
    ·simp only [h1,h2,h3,decide_true,decide_false,cond_true,cond_false]; rfl
    ·by_cases h4:n.toNat < 4294967296
     ·simp only [h1,h2,h3,h4,decide_true,decide_false,cond_true,cond_false]; rfl
     ·simp only [h1,h2,h3,h4,decide_true,decide_false,cond_true,cond_false]
      rw [Vxo]
      simp only [bindS]
      rw [Vco (by simp [Vc6])]
      simp only [cond_true,beb,byt,es]
      rfl
 unfold Zch hdI num isD mj
 by_cases h7:x.kind=7
 ·simp only [h7,decide_true,cond_true]; rfl
 ·by_cases h8:x.kind=8
  ·simp only [h8,decide_true,cond_true]; rfl
  ·by_cases h2:x.kind=2
   ·simp only [h2]; exact key _ _
   ·by_cases h3:x.kind=3
    ·simp only [h3]; exact key _ _
    ·by_cases h4:x.kind=4
     ·simp only [h4]; exact key _ _
     ·by_cases h5:x.kind=5
      ·simp only [h5]; exact key _ _
      ·by_cases h6:x.kind=6
       ·simp only [h6]; exact key _ _
       ·simp only [h2,h3,h4,h5,h6,h7,h8,decide_false,cond_false,Bool.or_self]; exact key _ _
theorem Vkb (x:ApiItem) (hx:x.data.length < 1000000):Zbu x=some ((),enc x,()):=by
 unfold Zbu enc
 rw [Va5a]
 simp only [bindS]
 rw [Vzi (by have:=(Vka x).2; omega)]
 rfl
def lss (a b:List UInt8):Bool:=bif decide (a.length=b.length) then Op.bytesLess a b else decide (a.length < b.length)
theorem Vra (a b:List UInt8):Zci a b=some ((),lss a b,()):=by
 unfold Zci lss
 by_cases h:a.length=b.length
 ·simp [h]
 ·rw [show decide ((a.length:Int)=(b.length:Int))=false by simp; omega,show decide (a.length=b.length)=false by simpa using h]
  simp
theorem Vom:∀ a b:List UInt8,decide (Lib.compareBytes a b < 0)=Op.bytesLess a b
 | [],[]=>rfl
 | [],_::_=>rfl
 | _::_,[]=>rfl
 | a::x,b::y=>by
  unfold Lib.compareBytes Op.bytesLess
  by_cases h1:a < b
  ·simp [h1]
  ·by_cases h2:b < a
   ·have:a≠b:=fun e=>by subst e; exact absurd h2 h1
    simp [h1,h2,this]
   ·have:a=b:=by
     apply UInt8.toNat_inj.1
     have h1':¬ a.toNat < b.toNat:=h1
     have h2':¬ b.toNat < a.toNat:=h2
     omega
    subst this
    simp [h1,Vom x y]
theorem Vp6 (a b:List UInt8):Zde a b=some ((),lss a b,()):=by
 unfold Zde lss Zcx
 by_cases h:a.length=b.length
 ·rw [show decide ((a.length:Int)=(b.length:Int))=true by simp [h],show decide (a.length=b.length)=true by simpa using h]
  simp only [Bool.not_true,cond_false,cond_true,bindS]
  rw [Vom]
 ·rw [show decide ((a.length:Int)=(b.length:Int))=false by simp; omega,show decide (a.length=b.length)=false by simpa using h]
  simp
def isK (k:Int):Bool:=decide (k=1)||(decide (k=2)||decide (k=4))
def bad (x:ApiItem):Bool:=((isD x.kind||decide (x.kind=8))&&!decide (x.number=0#64))||((decide (x.kind=7)&&decide (1 < x.number.toNat))||(!isD x.kind&&!decide (x.data=[])))
def big (x:ApiItem):Bool:=decide (1024 < x.data.length)||(isN x.kind&&decide (512 < x.number.toNat))
def adm (k:Int) (n d:Nat) (key:Bool):Int:=
 bif decide (512≤n) then 8 else bif !(decide (1≤k)&&decide (k≤8))||(key&&!isK k) then 3 else bif decide (8 < d) then 5 else 0
def acc (x:ApiItem) (key:Bool) (before:List UInt8):Int:=
 bif decide (x.kind=4)&&!Lib.validD x.data then 6 else bif key&&(!before.isEmpty&&!lss before (enc x)) then 7 else 0
def chk (x:ApiItem) (n d:Nat) (key:Bool) (before:List UInt8):Int:=
 bif !decide (adm x.kind n d key=0) then adm x.kind n d key else bif bad x then 4 else bif big x then 8 else acc x key before
theorem Vfb {l:List UInt8} (h:l.length < 1000000):Zck l=some ((),Lib.validD l,()):=by
 unfold Zck
 rw [show decide (l.length≤9223372036854775807)=true by simp; omega]
 rfl
theorem Von (k:Int):Zbw k=some ((),isK k,()):=by
 unfold Zbw isK
 cases decide (k=1)<;>cases decide (k=2)<;>rfl
theorem Vlo (k:Int):Zbn k 1 8=some ((),decide (1≤k)&&decide (k≤8),()):=by
 unfold Zbn
 cases decide (1≤k)<;>rfl
theorem kinds (k:Int):k=3∨k=4∨k=5∨k=6∨k=7∨k=8∨(¬ k=3∧¬ k=4∧¬ k=5∧¬ k=6∧¬ k=7∧¬ k=8):=by omega
theorem bindC {α β:Type} (c:Bool) (a b:Option α) (f:α→Option β):(bif c then a else b).bind f=bif c then a.bind f else b.bind f:=by cases c<;>rfl
theorem Vxp (x:ApiItem) (n d:Nat) (key:Bool) (before:List UInt8) (hx:x.data.length < 1000000):Zbv x n d key before=some ((),chk x n d key before,()):=by
  obtain ⟨k,m,l⟩:=x
  have qB:=Vkb ⟨k,m,l⟩ hx
  dsimp only at hx
  have qV:=Vfb hx
  have q1:decide ((512:Int) ≤ (n:Int))=decide (512 ≤ n):=by rw [decide_eq_decide]; omega
  have q2:decide ((8:Int) < (d:Int))=decide (8 < d):=by rw [decide_eq_decide]; omega
  have q3:decide ((1024:Int) < (l.length:Int))=decide (1024 < l.length):=by rw [decide_eq_decide]; omega
  have q4:(512#64).toNat=512:=rfl
  have q5:(1#64).toNat=1:=rfl
  have eb:decide (before=[])=before.isEmpty:=by cases before <;> rfl
  unfold Zbv chk adm acc bad big
  rcases kinds k with rfl | rfl | rfl | rfl | rfl | rfl | ⟨g1,g2,g3,g4,g5,g6⟩
  rotate_right
  · simp only [g1,g2,g3,g4,g5,g6,isD,isN,bindC,bindS,Vlo,Von,qV,qB,Vra,q1,q2,q3,q4,q5,eb,Int.reduceEq,Int.reduceLE,decide_true,decide_false,cond_true,cond_false,Bool.or_true,Bool.or_false,Bool.true_or,Bool.false_or,Bool.true_and,Bool.false_and,Bool.and_true,Bool.and_false,Bool.not_true,Bool.not_false,Bool.and_self,Bool.or_self]
    generalize isK k=ik
    generalize decide (1 ≤ k)=w1
    generalize decide (k ≤ 8)=w2
    generalize lss before (enc _)=ls
    generalize before.isEmpty=be
    generalize Lib.validD l=va
    generalize decide (512 ≤ n)=c1
    generalize decide (8 < d)=c2
    generalize decide (1024 < l.length)=c3
    generalize decide (512 < m.toNat)=c4
    generalize decide (1 < m.toNat)=c5
    generalize decide (m=0#64)=c6
    generalize decide (l=[])=c7
    cases c1 <;> first | rfl | (cases w1 <;> first | rfl | (cases w2 <;> first | rfl | (cases key <;> cases ik <;> first | rfl | (cases c2 <;> first | rfl | (cases c7 <;> first | rfl | (cases c3 <;> first | rfl | (cases be <;> cases ls <;> rfl)))))))
  all_goals
    (simp only [isK,isD,isN,bindC,bindS,Vlo,Von,qV,qB,Vra,q1,q2,q3,q4,q5,eb,Int.reduceEq,Int.reduceLE,decide_true,decide_false,cond_true,cond_false,Bool.or_true,Bool.or_false,Bool.true_or,Bool.false_or,Bool.true_and,Bool.false_and,Bool.and_true,Bool.and_false,Bool.not_true,Bool.not_false,Bool.and_self,Bool.or_self]
     generalize lss before (enc _)=ls
     generalize before.isEmpty=be
     generalize Lib.validD l=va
     generalize decide (512 ≤ n)=c1
     generalize decide (8 < d)=c2
     generalize decide (1024 < l.length)=c3
     generalize decide (512 < m.toNat)=c4
     generalize decide (1 < m.toNat)=c5
     generalize decide (m=0#64)=c6
     generalize decide (l=[])=c7
     cases c1 <;> first | rfl | (cases key <;> first | rfl | (cases c2 <;> first | rfl | (cases c6 <;> first | rfl | (cases c5 <;> first | rfl | (cases c7 <;> first | rfl | (cases c3 <;> first | rfl | (cases c4 <;> first | rfl | (cases va <;> first | rfl | (cases be <;> cases ls <;> rfl))))))))))
def atK:List CborFrame→Bool
 | []=>false
 | f::_=>f.pairs&&decide (Int.tmod f.left 2=0)
def lst:List CborFrame→List UInt8
 | []=>[]
 | f::_=>f.last_
def dcr:List CborFrame→List CborFrame
 | []=>[]
 | f::r=>⟨f.pairs,f.left - 1,f.last_⟩::r
def setl (b:List UInt8):List CborFrame→List CborFrame
 | []=>[]
 | f::r=>⟨f.pairs,f.left,b⟩::r
def psh (x:ApiItem) (S:List CborFrame):List CborFrame:=
 bif decide (0 < x.number.toNat) then (bif decide (x.kind=5) then ⟨false,(x.number.toNat:Int),[]⟩::S else bif decide (x.kind=6) then ⟨true,2 * (x.number.toNat:Int),[]⟩::S else S) else S
def pop:List CborFrame→List CborFrame
 | []=>[]
 | f::r=>bif decide (f.left=0) then pop r else f::r
def mrk (x:ApiItem) (S:List CborFrame):List CborFrame:=bif atK S then setl (enc x) S else S
def nxt (x:ApiItem) (S:List CborFrame):List CborFrame:=pop (psh x (dcr (mrk x S)))
theorem Vkc (r:List CborFrame) (f:CborFrame):(r.reverse++[f])[r.length]? = some f:=by simp
theorem Vrb (r:List CborFrame) (f g:CborFrame):(r.reverse++[f]).set r.length g=r.reverse++[g]:=by
 rw [List.set_append_right _ _ (by simp)]; simp
theorem Vxq (r:List CborFrame) (f:CborFrame):(r.reverse++[f]).take r.length=r.reverse:=by
 rw [List.take_append_of_le_length (by simp)]; simp [List.take_of_length_le]
theorem Vnc (r:List CborFrame) (f:CborFrame) (h:r.length < 1000000):IntKind.wrap .i64 (((r.reverse++[f]).length:Int) - 1)=(r.length:Int):=by
 rw [Vad (by simp<;>omega) (by simp<;>omega)]; simp
theorem Voo (S:List CborFrame) (n:Int) (hl:S.length < 1000000):Zco ⟨S.reverse,n⟩=some ((),atK S,()):=by
 unfold Zco
 cases S with
 | nil=>rfl
 | cons f r=>
  simp only [List.reverse_cons]
  rw [Vnc r f (by simp at hl; omega)]
  have eg:getI (r.reverse++[f]) (r.length:Int)=some f:=by unfold getI; simp [Vkc]
  rw [eg,show decide ((0:Int) < ((r.reverse++[f]).length:Int))=true by simp<;>omega]
  simp only [cond_true,bindS,atK]
  cases f.pairs<;>rfl
theorem Vnd (S:List CborFrame) (n:Nat):Zct ⟨S.reverse,(n:Int)⟩=some ((),decide (0 < n)&&S.isEmpty,()):=by
 unfold Zct
 cases n with
 | zero=>rfl
 | succ n=>
  rw [show decide ((0:Int) < ((n+1:Nat):Int))=true by simp<;>omega]
  cases S with
  | nil=>rfl
  | cons f r=>
   simp only [cond_true]
   rw [show decide ((((f::r).reverse).length:Int)=0)=false by simp; omega]
   rfl
theorem Vop (S:List CborFrame) (n:Nat) (k:Int) (hl:S.length < 1000000):Zcn ⟨S.reverse,(n:Int)⟩ k=some ((),adm k n S.length (atK S),()):=by
 unfold Zcn adm isK
 simp only [Voo S n hl,bindS]
 rw [show decide ((512:Int)≤(n:Int))=decide (512≤n) by rw [decide_eq_decide]; omega,show decide ((8:Int) < ((S.reverse).length:Int))=decide (8 < S.length) by rw [decide_eq_decide]; simp; omega,show decide (k < 1) = !decide (1≤k) by rw [← decide_not,decide_eq_decide]; omega,show decide ((8:Int) < k) = !decide (k≤8) by rw [← decide_not,decide_eq_decide]; omega]
 generalize decide (512≤n)=c1
 generalize decide (8 < S.length)=c2
 generalize decide (1≤k)=c3
 generalize decide (k≤8)=c4
 generalize decide (k=1)=c5
 generalize decide (k=2)=c6
 generalize decide (k=4)=c7
 cases c1<;>cases c3<;>cases c4<;>cases atK S<;>cases c2<;>first | rfl | (cases c5<;>cases c6<;>cases c7<;>rfl)
theorem Vrc (x:ApiItem):Zdm x=some ((),!bad x,()):=by
 obtain ⟨k,m,l⟩:=x
 unfold Zdm bad isD
 rw [show (1#64).toNat=1 from rfl]
 dsimp only
 rw [show decide (m.toNat≤1) = !decide (1 < m.toNat) by rw [← decide_not,decide_eq_decide]; omega]
 generalize decide (1 < m.toNat)=c5
 generalize decide (m=0#64)=c6
 generalize decide (l=[])=c7
 rcases kinds k with rfl | rfl | rfl | rfl | rfl | rfl | ⟨g1,g2,g3,g4,g5,g6⟩
 all_goals first | (cases c5<;>cases c6<;>cases c7<;>rfl) | skip
 simp only [g1,g2,g3,g4,g5,g6,decide_false,cond_false,Bool.or_false,Bool.false_and,Bool.false_or,Bool.not_false,Bool.true_and]
 cases c7<;>rfl
theorem Veta (S:List CborFrame) (n:Int) (hl:S.length < 1000000):Zcu_L0 ((S.reverse,n,()),(S.length:Int),())=some (((pop S).reverse,n,()),()):=by
 unfold Zcu_L0
 rw [Vlk (fun q=>∃ R:List CborFrame,q.1.1=R.reverse∧q.2.1=(R.length:Int)∧R.length < 1000000) (fun q=>q.1.1.length) (fun q=>(((pop q.1.1.reverse).reverse,q.1.2.1,()),()))]
 ·simp
 ·rintro ⟨⟨L,m,u⟩,i,u2⟩ ⟨R,h1,h2,h3⟩
  dsimp only at *
  subst h1; subst h2
  simp only [Zcu_L0b,List.reverse_reverse]
  cases R with
  | nil=>right; rfl
  | cons f r=>
   simp only [List.length_cons] at h3
   simp only [List.reverse_cons]
   have ei:IntKind.wrap .i64 (((f::r).length:Int) - 1)=(r.length:Int):=by
    rw [Vad (by simp<;>omega) (by simp<;>omega)]; simp
   rw [ei,show decide ((0:Int) < ((f::r).length:Int))=true by simp<;>omega,show decide ((0:Int)≤(r.length:Int))=true by simp,show decide ((r.length:Int) < ((r.reverse++[f]).length:Int))=true by simp<;>omega,show decide ((r.length:Int)≤((r.reverse++[f]).length:Int))=true by simp<;>omega,Int.toNat_natCast,show decide (r.length≤(r.reverse++[f]).length)=true by simp,Vkc,Vxq]
   simp only [Bool.and_self,cond_true,bindS,pop]
   cases hf:decide (f.left=0)
   ·right
    simp
   ·left
    simp only [cond_true]
    refine ⟨_,rfl,⟨r,rfl,rfl,by omega⟩,by simp,by simp⟩
 ·exact ⟨S,rfl,rfl,hl⟩
 ·rw [Vam]; dsimp only; simp; omega
theorem Vne (S:List CborFrame) (n:Nat) (x:ApiItem) (hl:S.length < 100000) (hn:n < 1000000) (hw:∀ f ∈ S,-10 ≤ f.left ∧ f.left ≤ 2000) (hx:isN x.kind=true → x.number.toNat ≤ 512):Zcu (S.reverse,(n:Int),()) x=some ((((pop (psh x (dcr S))).reverse,((n + 1:Nat):Int),()),()),()):=by
  have e1:∀ (L:List CborFrame) (c:Int),L=(dcr S).reverse → c=((n + 1:Nat):Int) → ((some ((L,c,()),(x,()),()):Option (((List (CborFrame)) × Int × Unit) × (ApiItem × Unit) × Unit)).bind (fun (j4:(((List (CborFrame)) × Int × Unit) × (ApiItem × Unit) × Unit))=>((bif (decide (j4.2.1.1.kind=(5:Int))) then (bif (decide ((0#64).toNat < j4.2.1.1.number.toNat)) then (let v5:List (CborFrame):=([(⟨false,(IntKind.wrap .i64 (j4.2.1.1.number.toNat:Int)),[]⟩:CborFrame)]:List (CborFrame))
 (bif small ((j4.1.1).length + (v5:List (CborFrame)).length) 40 then (some (((j4.1.1 ++ v5),j4.1.2.1,()),(j4.2.1.1,()),()))
 else none))
 else (some ((j4.1.1,j4.1.2.1,()),(j4.2.1.1,()),())))
 else (some ((j4.1.1,j4.1.2.1,()),(j4.2.1.1,()),()))).bind (fun (j6:(((List (CborFrame)) × Int × Unit) × (ApiItem × Unit) × Unit))=>((bif (decide (j6.2.1.1.kind=(6:Int))) then (bif (decide ((0#64).toNat < j6.2.1.1.number.toNat)) then (let v7:Int:=(IntKind.wrap .i64 ((2:Int) * (IntKind.wrap .i64 (j6.2.1.1.number.toNat:Int))))
 (bif small ((j6.1.1).length + (([(⟨true,v7,[]⟩:CborFrame)]:List (CborFrame)):List (CborFrame)).length) 40 then (let v8:List (CborFrame):=(j6.1.1 ++ ([(⟨true,v7,[]⟩:CborFrame)]:List (CborFrame)))
 (some ((v8,j6.1.2.1,()),())))
 else none))
 else (some ((j6.1.1,j6.1.2.1,()),())))
 else (some ((j6.1.1,j6.1.2.1,()),()))).bind (fun (j9:(((List (CborFrame)) × Int × Unit) × Unit))=>((Zcu_L0 ((j9.1.1,j9.1.2.1,()),((j9.1.1).length:Int),())).bind (fun (z11:(((List (CborFrame)) × Int × Unit) × Unit))=>(some (((z11.1.1,z11.1.2.1,()),()),()))))))))))=some ((((pop (psh x (dcr S))).reverse,((n + 1:Nat):Int),()),()),()):=by
    intro L c hL hc
    subst hL; subst hc
    simp only [bindS]
    have hdl:(dcr S).length=S.length:=by cases S <;> rfl
    have fin:∀ R:List CborFrame,R.length < 1000000 → ((Zcu_L0 ((R.reverse,((n + 1:Nat):Int),()),((R.reverse).length:Int),())).bind (fun (z11:(((List (CborFrame)) × Int × Unit) × Unit))=>(some (((z11.1.1,z11.1.2.1,()),()),()))))=some ((((pop R).reverse,((n + 1:Nat):Int),()),()),()):=by
      intro R hR
      rw [List.length_reverse,Veta R _ hR]
      simp only [bindS]
    rw [show (0#64).toNat=0 from rfl]
    unfold psh
    by_cases h0:0 < x.number.toNat
    · by_cases h5:x.kind=5
      · have hm:=hx (by simp [isN,h5])
        simp only [h0,h5,decide_true,cond_true,Int.reduceEq,decide_false,cond_false]
        rw [Vq8 (by simp [hdl]; omega),Vad (n:=(x.number.toNat:Int)) (by omega) (by omega)]
        simp only [cond_true,bindS,h5,Int.reduceEq,decide_false,cond_false]
        have:=fin (⟨false,(x.number.toNat:Int),[]⟩ :: dcr S) (by simp [hdl]; omega)
        rw [List.reverse_cons] at this
        exact this
      · by_cases h6:x.kind=6
        · have hm:=hx (by simp [isN,h6])
          simp only [h0,h6,decide_true,cond_true,Int.reduceEq,decide_false,cond_false,bindS]
          rw [Vq8 (by simp [hdl]; omega),Vad (n:=(x.number.toNat:Int)) (by omega) (by omega),Vad (n:=2 * (x.number.toNat:Int)) (by omega) (by omega)]
          simp only [cond_true,bindS]
          have:=fin (⟨true,2 * (x.number.toNat:Int),[]⟩ :: dcr S) (by simp [hdl]; omega)
          rw [List.reverse_cons] at this
          exact this
        · simp only [h0,h5,h6,decide_true,decide_false,cond_true,cond_false,bindS]
          exact fin _ (by rw [hdl]; omega)
    · simp only [h0,decide_false,cond_false]
      by_cases h5:x.kind=5
      · simp only [h0,h5,decide_true,decide_false,cond_true,cond_false,bindS,Int.reduceEq]
        exact fin _ (by rw [hdl]; omega)
      · by_cases h6:x.kind=6
        · simp only [h0,h6,decide_true,decide_false,cond_true,cond_false,bindS,Int.reduceEq]
          exact fin _ (by rw [hdl]; omega)
        · simp only [h0,h5,h6,decide_true,decide_false,cond_true,cond_false,bindS]
          exact fin _ (by rw [hdl]; omega)
  unfold Zcu
  dsimp only
  rw [Vad (n:=(n:Int) + 1) (by omega) (by omega)]
  cases S with
  | nil=>exact e1 [] _ rfl (by omega)
  | cons f r=>
    simp only [List.length_cons] at hl
    have hf:=hw f (by simp)
    simp only [List.reverse_cons]
    rw [Vnc r f (by omega),show decide ((0:Int) < ((r.reverse ++ [f]).length:Int))=true by simp <;> omega,show decide ((0:Int) ≤ (r.length:Int))=true by simp,show decide ((r.length:Int) < ((r.reverse ++ [f]).length:Int))=true by simp <;> omega,Int.toNat_natCast,Vkc]
    simp only [Bool.and_self,cond_true,bindS]
    rw [Vrb,Vad (n:=f.left - 1) (by omega) (by omega)]
    have:=e1 (r.reverse ++ [⟨f.pairs,f.left - 1,f.last_⟩]) ((n:Int) + 1) (by simp [dcr]) (by omega)
    simp only [bindS] at this
    exact this
def accK (a0:((List (CborFrame)) × Int × Unit)) (a1:ApiItem):Option ((((List (CborFrame)) × Int × Unit) × Unit) × (Int × Unit)):=((Zco (⟨a0.1,a0.2.1⟩:CborWalk)).bind fun r14=>(bif r14.2.1 then (bif (decide ((0:Int) ≤ (IntKind.wrap .i64 (((a0.1).length:Int) - (1:Int)))) && decide ((IntKind.wrap .i64 (((a0.1).length:Int) - (1:Int))) < ((a0.1).length:Int))) then ((Zcm [] a1).bind fun r15=>(((a0.1)[((IntKind.wrap .i64 (((a0.1).length:Int) - (1:Int)))).toNat]?).bind fun x16=>(bif (!(x16.last_).isEmpty) then (((a0.1)[((IntKind.wrap .i64 (((a0.1).length:Int) - (1:Int)))).toNat]?).bind fun x17=>((Zde x17.last_ r15.2.1).bind fun r18=>(bif (!r18.2.1) then (some (((a0.1,a0.2.1,()),()),((7:Int),())))
 else (((a0.1)[((IntKind.wrap .i64 (((a0.1).length:Int) - (1:Int)))).toNat]?).bind fun x19=>(bif (r15.2.1).isEmpty then none
 else (let v20:List (CborFrame):=(List.set a0.1 ((IntKind.wrap .i64 (((a0.1).length:Int) - (1:Int)))).toNat (⟨x19.pairs,x19.left,r15.2.1⟩:CborFrame))
 ((Zcu (v20,a0.2.1,()) a1).bind fun r21=>(some (((r21.1.1.1,r21.1.1.2.1,()),()),((0:Int),()))))))))))
 else (((a0.1)[((IntKind.wrap .i64 (((a0.1).length:Int) - (1:Int)))).toNat]?).bind fun x22=>(bif (r15.2.1).isEmpty then none
 else (let v23:List (CborFrame):=(List.set a0.1 ((IntKind.wrap .i64 (((a0.1).length:Int) - (1:Int)))).toNat (⟨x22.pairs,x22.left,r15.2.1⟩:CborFrame))
 ((Zcu (v23,a0.2.1,()) a1).bind fun r24=>(some (((r24.1.1.1,r24.1.1.2.1,()),()),((0:Int),()))))))))))
 else none)
 else ((Zcu (a0.1,a0.2.1,()) a1).bind fun r25=>(some (((r25.1.1.1,r25.1.1.2.1,()),()),((0:Int),()))))))
theorem Vrd (a0:((List (CborFrame))×Int×Unit)) (a1:ApiItem):Zca a0 a1=bif decide (a1.kind=4) then ((Zck a1.data).bind fun r1=>bif !r1.2.1 then some (((a0.1,a0.2.1,()),()),((6:Int),())) else accK a0 a1) else accK a0 a1:=rfl
def res (S S':List CborFrame) (n:Nat) (e:Int):(((List (CborFrame))×Int×Unit)×Unit)×(Int×Unit):=bif decide (e=0) then (((S'.reverse,((n+1:Nat):Int),()),()),(e,())) else (((S.reverse,(n:Int),()),()),(e,()))
theorem Va6a (S:List CborFrame) (n:Nat) (x:ApiItem) (hk:kin x) (hd:x.data.length < 100000) (hl:S.length < 100000) (hn:n < 1000000) (hw:∀ f∈S,-10≤f.left∧f.left≤2000) (hx:isN x.kind=true→x.number.toNat≤512) :
  accK (S.reverse,(n:Int),()) x=some (res S (nxt x S) n (bif atK S&&(!(lst S).isEmpty&&!lss (lst S) (enc x)) then 7 else 0)):=by
 unfold accK
 dsimp only
 rw [Voo S n (by omega)]
 simp only [bindS]
 cases S with
 | nil=>
  have e:atK ([]:List CborFrame)=false:=rfl
  rw [e]
  have:=Vne [] n x (by simp) hn (by simp) hx
  simp only [cond_false,Bool.false_and]
  rw [this]
  rfl
 | cons f r=>
  simp only [List.length_cons] at hl
  cases ha:atK (f::r)
  ·simp only [cond_false,Bool.false_and]
   rw [Vne (f::r) n x (by simp; omega) hn hw hx]
   simp [res,nxt,mrk,ha]
  ·simp only [cond_true,Bool.true_and,List.reverse_cons]
   rw [Vnc r f (by omega),show decide ((0:Int)≤(r.length:Int))=true by simp,show decide ((r.length:Int) < ((r.reverse++[f]).length:Int))=true by simp<;>omega,Int.toNat_natCast,Vkc,Vfp [] x hk (by simp) (by omega)]
   simp only [Bool.and_self,cond_true,bindS,List.nil_append,lst,Vrb]
   have he:(enc x).isEmpty=false:=by
    cases h:enc x with
    | nil=>exact absurd h (Vesa x)
    | cons _ _=>rfl
   have hst:=Vne (⟨f.pairs,f.left,enc x⟩::r) n x (by simp; omega) hn (by
    intro g hg
    rcases List.mem_cons.1 hg with rfl | hg
    ·exact hw f (by simp)
    ·exact hw g (by simp [hg])) hx
   simp only [List.reverse_cons] at hst
   rw [he,Vp6]
   simp only [bindS,cond_false]
   rw [hst]
   have hnx:nxt x (f::r)=pop (psh x (dcr (⟨f.pairs,f.left,enc x⟩::r))):=by
    unfold nxt mrk
    rw [ha]; rfl
   rw [hnx]
   cases f.last_.isEmpty
   ·simp only [Bool.not_false,cond_true,Bool.true_and]
    cases lss f.last_ (enc x)
    ·simp [res]
    ·simp [res]
   ·simp [res]
theorem Vfq (S:List CborFrame) (n:Nat) (x:ApiItem) (hk:kin x) (hd:x.data.length < 100000) (hl:S.length < 100000) (hn:n < 1000000) (hw:∀ f∈S,-10≤f.left∧f.left≤2000) (hx:isN x.kind=true→x.number.toNat≤512) :
  Zca (S.reverse,(n:Int),()) x=some (res S (nxt x S) n (acc x (atK S) (lst S))):=by
 rw [Vrd,Va6a S n x hk hd hl hn hw hx,Vfb (by omega)]
 unfold acc
 simp only [bindS]
 cases decide (x.kind=4)
 ·simp
 ·cases Lib.validD x.data
  ·simp [res]
  ·simp
theorem Voq {x:ApiItem} {n d:Nat} {key:Bool} (h1:adm x.kind n d key=0) (h2:bad x=false):kin x:=by
 unfold adm at h1
 cases hc:decide (512≤n)
 ·rw [hc] at h1
  cases hk:(!(decide (1≤x.kind)&&decide (x.kind≤8))||(key&&!isK x.kind))
  ·simp only [Bool.or_eq_false_iff,Bool.not_eq_false',Bool.and_eq_true,decide_eq_true_eq] at hk
   refine ⟨hk.1.1,hk.1.2,fun h=>?_⟩
   unfold bad at h2
   simp only [h,Bool.or_eq_false_iff,Bool.not_false,Bool.true_and,Bool.not_eq_false',decide_eq_true_eq] at h2
   exact h2.2.2
  ·rw [hk] at h1; simp at h1
 ·rw [hc] at h1; simp at h1
theorem Va7a (S:List CborFrame) (n:Nat) (x:ApiItem) (hd:x.data.length < 100000) (hl:S.length < 100000) (hn:n < 1000000) (hw:∀ f∈S,-10≤f.left∧f.left≤2000) :
  Zbp (S.reverse,(n:Int),()) x=some (res S (nxt x S) n (bif decide (0 < n)&&S.isEmpty then 2 else chk x n S.length (atK S) (lst S))):=by
 unfold Zbp
 dsimp only
 rw [Vnd,Vop S n x.kind (by omega),Vrc]
 simp only [bindS]
 cases decide (0 < n)&&S.isEmpty
 ·simp only [cond_false]
  unfold chk
  by_cases h1:adm x.kind n S.length (atK S)=0
  ·rw [show decide (adm x.kind n S.length (atK S)=0)=true by simpa using h1]
   simp only [Bool.not_true,cond_false,Bool.not_not]
   cases hb:bad x
   ·have hk := Voq h1 hb
    simp only [cond_false]
    unfold big isN
    rw [show decide ((1024:Int) < (x.data.length:Int))=decide (1024 < x.data.length) by rw [decide_eq_decide]; omega,show (512#64).toNat=512 from rfl]
    cases decide (1024 < x.data.length)
    ·simp only [cond_false,Bool.false_or]
     by_cases h5:x.kind=5
     ·by_cases hm:512 < x.number.toNat
      ·simp [h5,hm,res]
      ·rw [Vfq S n x hk hd hl hn hw (fun _=>by omega)]
       simp only [h5,hm,decide_true,decide_false,cond_true,cond_false,bindS,Bool.true_or,Bool.and_false]
     ·by_cases h6:x.kind=6
      ·by_cases hm:512 < x.number.toNat
       ·simp [h6,hm,res]
       ·rw [Vfq S n x hk hd hl hn hw (fun _=>by omega)]
        simp only [h6,hm,decide_true,decide_false,cond_true,cond_false,bindS,Bool.or_true,Bool.and_false,Int.reduceEq]
      ·rw [Vfq S n x hk hd hl hn hw (fun h=>by simp [isN,h5,h6] at h)]
       simp only [h5,h6,decide_true,decide_false,cond_true,cond_false,bindS,Bool.or_self,Bool.false_and]
    ·simp [res]
   ·simp [res]
  ·rw [show decide (adm x.kind n S.length (atK S)=0)=false by simpa using h1]
   simp [res,h1]
 ·simp [res]
def mach {σ:Type} (get:Nat→Nat→Bool→List UInt8→σ→Int×ApiItem×σ):Nat→List CborFrame→Nat→σ→Int×List ApiItem×σ
 | 0,_,_,s=>(99,[],s)
 | f+1,S,n,s=>bif decide (0 < n)&&S.isEmpty then (0,[],s) else bif decide ((get n S.length (atK S) (lst S) s).1=0) then ((mach get f (nxt (get n S.length (atK S) (lst S) s).2.1 S) (n+1) (get n S.length (atK S) (lst S) s).2.2).1,(get n S.length (atK S) (lst S) s).2.1::(mach get f (nxt (get n S.length (atK S) (lst S) s).2.1 S) (n+1) (get n S.length (atK S) (lst S) s).2.2).2.1,(mach get f (nxt (get n S.length (atK S) (lst S) s).2.1 S) (n+1) (get n S.length (atK S) (lst S) s).2.2).2.2) else ((get n S.length (atK S) (lst S) s).1,[],s)
theorem Vfr {σ:Type} {get:Nat→Nat→Bool→List UInt8→σ→Int×ApiItem×σ} {f n:Nat} {s:σ} (hn:0 < n):mach get (f+1) [] n s=(0,[],s):=by
 unfold mach
 simp [hn]
theorem Vdm {σ:Type} {get:Nat→Nat→Bool→List UInt8→σ→Int×ApiItem×σ} {f n:Nat} {s:σ} {S:List CborFrame} {e:Int} {x:ApiItem} {t:σ} (hS:(decide (0 < n)&&S.isEmpty)=false) (hg:get n S.length (atK S) (lst S) s=(e,x,t)) (he:e≠0):mach get (f+1) S n s=(e,[],s):=by
 unfold mach
 rw [hS,hg]
 simp [he]
theorem Vcp {σ:Type} {get:Nat→Nat→Bool→List UInt8→σ→Int×ApiItem×σ} {f n:Nat} {s:σ} {S:List CborFrame} {x:ApiItem} {t:σ} (hS:(decide (0 < n)&&S.isEmpty)=false) (hg:get n S.length (atK S) (lst S) s=(0,x,t)):mach get (f+1) S n s=((mach get f (nxt x S) (n+1) t).1,x::(mach get f (nxt x S) (n+1) t).2.1,(mach get f (nxt x S) (n+1) t).2.2):=by
 conv=>lhs; unfold mach
 rw [hS,hg]
 simp
def getL (n d:Nat) (key:Bool) (before:List UInt8):List ApiItem→Int×ApiItem×List ApiItem
 | []=>(1,default,[])
 | x::r=>(chk x n d key before,x,r)
def top:List CborFrame→Prop
 | []=>True
 | f::_=>0 < f.left
def WS (S:List CborFrame):Prop:=(∀ f∈S,0≤f.left∧f.left≤1024)∧top S∧S.length≤9
theorem Vre:∀ {S:List CborFrame} {f:CborFrame},f∈pop S→f∈S
 | g::r,f,h=>by
  unfold pop at h
  cases hg:decide (g.left=0)
  ·rw [hg] at h; exact h
  ·rw [hg] at h; exact List.mem_cons_of_mem _ (Vre h)
theorem Vrf:∀ S:List CborFrame,(pop S).length≤S.length
 | []=>Nat.le_refl _
 | g::r=>by
  unfold pop
  cases decide (g.left=0)
  ·exact Nat.le_refl _
  ·exact Nat.le_trans (Vrf r) (Nat.le_succ _)
theorem Vrg:∀ {S:List CborFrame},(∀ f∈S,0≤f.left)→top (pop S)
 | [],_=>trivial
 | g::r,h=>by
  unfold pop
  by_cases hg:g.left=0
  ·simp only [hg,decide_true,cond_true]
   exact Vrg fun f hf=>h f (by simp [hf])
  ·simp only [hg,decide_false,cond_false]
   have:=h g (by simp)
   show 0 < g.left
   omega
theorem Vbf {x:ApiItem} {n d:Nat} {key:Bool} {before:List UInt8} (h:chk x n d key before=0):adm x.kind n d key=0∧bad x=false∧big x=false∧acc x key before=0:=by
 unfold chk at h
 by_cases h1:adm x.kind n d key=0
 ·rw [show decide (adm x.kind n d key=0)=true by simpa using h1] at h
  cases h2:bad x
  ·rw [h2] at h
   cases h3:big x
   ·rw [h3] at h
    exact ⟨h1,rfl,rfl,h⟩
   ·rw [h3] at h; simp at h
  ·rw [h2] at h; simp at h
 ·rw [show decide (adm x.kind n d key=0)=false by simpa using h1] at h
  exact absurd h h1
theorem Vcj {k:Int} {n d:Nat} {key:Bool} (h:adm k n d key=0):n < 512∧1≤k∧k≤8∧(key=true→isK k=true)∧d≤8:=by
 unfold adm at h
 by_cases h1:512≤n
 ·rw [show decide (512≤n)=true by simpa using h1] at h; simp at h
 ·rw [show decide (512≤n)=false by simpa using h1] at h
  cases h2:(!(decide (1≤k)&&decide (k≤8))||(key&&!isK k))
  ·rw [h2] at h
   simp only [Bool.or_eq_false_iff,Bool.not_eq_false',Bool.and_eq_true,decide_eq_true_eq,Bool.and_eq_false_iff] at h2
   by_cases h3:8 < d
   ·rw [show decide (8 < d)=true by simpa using h3] at h; simp at h
   ·refine ⟨by omega,h2.1.1,h2.1.2,fun hk=>?_,by omega⟩
    rcases h2.2 with q | q
    ·rw [hk] at q; cases q
    ·exact q
  ·rw [h2] at h; simp at h
theorem Veua {S:List CborFrame} {x:ApiItem} (h:WS S) (hd:S.length≤8) (hx:isN x.kind=true→x.number.toNat≤512):WS (nxt x S):=by
 obtain ⟨h1,h2,h3⟩:=h
 have hm:(∀ f∈mrk x S,0≤f.left∧f.left≤1024)∧top (mrk x S)∧(mrk x S).length=S.length:=by
  unfold mrk
  cases atK S
  ·exact ⟨h1,h2,rfl⟩
  ·cases S with
   | nil=>exact ⟨h1,h2,rfl⟩
   | cons f r=>
    refine ⟨?_,h2,rfl⟩
    intro g hg
    rcases List.mem_cons.1 hg with rfl | hg
    ·exact h1 f (by simp)
    ·exact h1 g (by simp [hg])
 unfold nxt
 generalize mrk x S=M at hm ⊢
 obtain ⟨m1,m2,m3⟩:=hm
 have hdc:(∀ f∈dcr M,0≤f.left∧f.left≤1024)∧(dcr M).length=S.length:=by
  cases M with
  | nil=>exact ⟨m1,m3⟩
  | cons f r=>
   refine ⟨?_,m3⟩
   intro g hg
   rcases List.mem_cons.1 hg with rfl | hg
   ·have:=m1 f (by simp)
    have h0:0 < f.left:=m2
    dsimp only
    omega
   ·exact m1 g (by simp [hg])
 have hp : (∀ f∈psh x (dcr M), 0≤f.left∧f.left≤1024)∧(psh x (dcr M)).length≤9 := by
  unfold psh
  by_cases h0:0 < x.number.toNat
  ·rw [show decide (0 < x.number.toNat)=true by simpa using h0]
   by_cases h5:x.kind=5
   ·have:=hx (by simp [isN,h5])
    rw [show decide (x.kind=5)=true by simpa using h5]
    refine ⟨?_,by simp [hdc.2]; omega⟩
    intro g hg
    rcases List.mem_cons.1 hg with rfl | hg
    ·dsimp only; omega
    ·exact hdc.1 g hg
   ·rw [show decide (x.kind=5)=false by simpa using h5]
    by_cases h6:x.kind=6
    ·have:=hx (by simp [isN,h6])
     rw [show decide (x.kind=6)=true by simpa using h6]
     refine ⟨?_,by simp [hdc.2]; omega⟩
     intro g hg
     rcases List.mem_cons.1 hg with rfl | hg
     ·dsimp only; omega
     ·exact hdc.1 g hg
    ·rw [show decide (x.kind=6)=false by simpa using h6]
     exact ⟨hdc.1,by simp [hdc.2]; omega⟩
  ·rw [show decide (0 < x.number.toNat)=false by simpa using h0]
   exact ⟨hdc.1,by simp [hdc.2]; omega⟩
 exact ⟨fun f hf=>hp.1 f (Vre hf),Vrg fun f hf=>(hp.1 f hf).1,Nat.le_trans (Vrf _) hp.2⟩
theorem Vdf {x:ApiItem} (h:big x=false):x.data.length≤1024∧(isN x.kind=true→x.number.toNat≤512):=by
 unfold big at h
 simp only [Bool.or_eq_false_iff,decide_eq_false_iff_not,Bool.and_eq_false_iff] at h
 refine ⟨by omega,fun hk=>?_⟩
 rcases h.2 with q | q
 ·rw [hk] at q; cases q
 ·omega
theorem Vzj {S:List CborFrame} {x:ApiItem} {n:Nat} (h:WS S) (hc:chk x n S.length (atK S) (lst S)=0):WS (nxt x S):=by
 obtain ⟨c1,c2,c3,c4⟩:=Vbf hc
 exact Veua h (Vcj c1).2.2.2.2 (Vdf c3).2
def valE (m:Int×List ApiItem×List ApiItem):Int:=bif !decide (m.1=0) then m.1 else bif m.2.2.isEmpty then 0 else 2
def valO (l:List ApiItem):Int:=valE (mach getL 600 [] 0 l)
theorem Vdn (l:List ApiItem) (hl:l.length < 1000000) (hd:∀ x ∈ l,x.data.length < 100000):Zcy l=some ((),valO l,()):=by
  have key:∀ (r:List ApiItem) (S:List CborFrame) (n f fuel:Nat),l.drop n=r → n ≤ l.length → WS S → r.length < f → 600 ≤ fuel + n → 0 < fuel →
      (iter (fun (y:(((List (CborFrame)) × Int × Unit) × (List (ApiItem)) × Int × Int × Unit))=>Zcy_L0b y.1 y.2.1 y.2.2.1 y.2.2.2.1) f ((S.reverse,(n:Int),()),l,(l.length:Int),(n:Int),())).bind (Sum.elim (fun (z3:(Int × Unit))=>(some ((),(z3.1,())))) (fun (z4:(((List (CborFrame)) × Int × Unit) × Unit))=>((Zct (⟨z4.1.1,z4.1.2.1⟩:CborWalk)).bind fun r5=>(bif (!r5.2.1) then (some ((),((1:Int),()))) else (some ((),((0:Int),())))))))=some ((),valE (mach getL fuel S n r),()):=by
    intro r
    induction r with
    | nil=>
      intro S n f fuel hr hn hS hf hfu hfu0
      have hnl:n=l.length:=by
        have:=congrArg List.length hr
        simp at this
        omega
      obtain ⟨f,rfl⟩:∃ g,f=g + 1:=⟨f - 1,by omega⟩
      obtain ⟨fuel,rfl⟩:∃ g,fuel=g + 1:=⟨fuel - 1,by omega⟩
      rw [Vae]
      have e1:Zcy_L0b (S.reverse,(n:Int),()) l (l.length:Int) (n:Int)=some (.inr (.inr ((S.reverse,(n:Int),()),()))):=by
        unfold Zcy_L0b
        rw [show decide ((n:Int) < (l.length:Int))=false by simp; omega]
        rfl
      dsimp only
      rw [e1,bindS,Sum.elim_inr,bindS,Sum.elim_inr]
      dsimp only
      rw [Vnd,bindS]
      dsimp only
      cases hS2:(decide (0 < n) && S.isEmpty)
      · rw [Vdm hS2 (show getL n S.length (atK S) (lst S) []=(1,default,[]) from rfl) (by decide)]
        rfl
      · simp only [Bool.and_eq_true,decide_eq_true_eq,List.isEmpty_iff] at hS2
        obtain ⟨q1,rfl⟩:=hS2
        rw [Vfr q1]
        rfl
    | cons x r ih=>
      intro S n f fuel hr hn hS hf hfu hfu0
      have hnl:n < l.length:=by
        have:=congrArg List.length hr
        simp at this
        omega
      have hx:l[n]? = some x:=by
        have:=congrArg (·[0]?) hr
        simpa using this
      have hr2:l.drop (n + 1)=r:=by
        have:=congrArg (List.drop 1) hr
        simpa [List.drop_drop] using this
      obtain ⟨f,rfl⟩:∃ g,f=g + 1:=⟨f - 1,by omega⟩
      obtain ⟨fuel,rfl⟩:∃ g,fuel=g + 1:=⟨fuel - 1,by omega⟩
      rw [Vae]
      have hit:=Va7a S n x (hd x (List.mem_of_getElem? hx)) (by have:=hS.2.2; omega) (by omega) (fun g hg=>by have:=hS.1 g hg; omega)
      have eg:getI l (n:Int)=some x:=by unfold getI; simp [hx]
      have e1:Zcy_L0b (S.reverse,(n:Int),()) l (l.length:Int) (n:Int)=(bif (!decide ((res S (nxt x S) n (bif decide (0 < n) && S.isEmpty then 2 else chk x n S.length (atK S) (lst S))).2.1=(0:Int))) then (some (Sum.inr (Sum.inl ((res S (nxt x S) n (bif decide (0 < n) && S.isEmpty then 2 else chk x n S.length (atK S) (lst S))).2.1,()))))
 else (some (Sum.inl (((res S (nxt x S) n (bif decide (0 < n) && S.isEmpty then 2 else chk x n S.length (atK S) (lst S))).1.1.1,(res S (nxt x S) n (bif decide (0 < n) && S.isEmpty then 2 else chk x n S.length (atK S) (lst S))).1.1.2.1,()),l,(l.length:Int),(n:Int) + 1,())))):=by
        unfold Zcy_L0b
        rw [show decide ((n:Int) < (l.length:Int))=true by simp; omega,eg,Vad (n:=(n:Int) + 1) (by omega) (by omega)]
        simp only [cond_true,bindS]
        rw [hit]
        simp only [bindS]
      dsimp only
      rw [e1]
      cases hS2:(decide (0 < n) && S.isEmpty)
      · simp only [cond_false]
        by_cases hc:chk x n S.length (atK S) (lst S)=0
        · have em:mach getL (fuel + 1) S n (x :: r)=_:=Vcp hS2 (show getL n S.length (atK S) (lst S) (x :: r)=(0,x,r) by simp [getL,hc])
          rw [em]
          have hn512:=(Vcj (Vbf hc).1).1
          have:=ih (nxt x S) (n + 1) f fuel hr2 (by omega) (Vzj hS hc) (by simp at hf; omega) (by omega) (by omega)
          unfold res
          rw [hc]
          simp only [decide_true,cond_true,Bool.not_true,cond_false,bindS,Sum.elim_inl]
          rw [show ((n:Int) + 1)=((n + 1:Nat):Int) by omega]
          exact this
        · rw [Vdm hS2 (show getL n S.length (atK S) (lst S) (x :: r)=(chk x n S.length (atK S) (lst S),x,r) from rfl) hc]
          unfold res valE
          simp [hc]
      · simp only [cond_true]
        have hS3:=hS2
        simp only [Bool.and_eq_true,decide_eq_true_eq,List.isEmpty_iff] at hS3
        obtain ⟨q1,rfl⟩:=hS3
        rw [Vfr q1]
        rfl
  unfold Zcy Zcy_L0 valO
  exact key l [] 0 rounds 600 (by simp) (by simp) ⟨by simp,trivial,by simp⟩ (by rw [Vam]; omega) (by omega) (by omega)
end Go.Proofs.YthoblablopmhfaaGreatDoor

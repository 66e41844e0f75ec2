/- Out of the texts of other seats: what the laws of requests need. Written by a program. -/
import Derived.Test.YtnfhkhlbdgbkjaaGreatDoorFns
import Derived.Test.YtnfhkhlbdgbkjaaGreatDoorLib8
set_option linter.unusedVariables false
set_option linter.unusedSimpArgs false
set_option maxRecDepth 100000
namespace Go.Proofs.YtnfhkhlbdgbkjaaGreatDoor
open Go Go.Abs
open _root_.List renaming length_append → Qa, append_assoc → Qc, length_cons → Qk, append_nil → Qp, reverse_cons → Qq, mem_of_getElem? → Qu, cons_append → Qw, flatMap_cons → Q5, isEmpty_iff → Qaf, take_append_of_le_length → Qag, take_of_length_le → Qal, zip_cons_cons → Qao, length_take → Qaq, length_nil → Qat, headD_cons → Qau, drop_drop → Qay
open _root_.UInt8 renaming ofBitVec → Qb, ofNat → Qm
open _root_.BitVec renaming ofInt → Qd, setWidth → Qg, ofNat → Ql, toNat_ofNat → Qo, eq_of_toNat_eq → Qt, ofInt_natCast → Qz, toNat_setWidth → Qak
open _root_.Prod.mk renaming injEq → Qe
open _root_.Bool renaming not_true → Qf, or_eq_false_iff → Qj, not_false → Qn, true_and → Qs, false_and → Qv, not_eq_false' → Qx, and_eq_true → Qy, and_self → Q1, and_false → Q2, false_or → Q4, true_or → Q6, or_true → Q7, or_self → Q8, or_false → Qah, and_eq_false_iff → Qan, or_eq_true → Qaw, and_true → Qa0
open _root_.Nat renaming mod_eq_of_lt → Qh, zero_add → Q0, pow_le_pow_right → Q3, zero_mul → Qaa, pow_succ → Qab, mul_comm → Qac, le_trans → Qad, pow_le_pow_iff_right → Qai, add_assoc → Qaj, shiftLeft_eq → Qar, div_eq_of_lt → Qas, mul_add_div → Qax
open Go.IntKind renaming wrap → Qi, bits → Qav
open _root_.Sum renaming elim_inl → Qr, elim_inr → Qam, inl → Qap
open _root_.Option renaming bind → Q9
open _root_.Int renaming toNat_natCast → Qae, tmod → Qaz
theorem Vcu{n:Nat}(h:n<1000000000):small n 1=true:=by
 unfold small;simp;omega
theorem Vwi{n:Nat}(h:n<1000000):small n 40=true:=by
 unfold small;simp;omega
theorem Veh{n:Nat}(h:n<1000000):small n 32=true:=by
 unfold small;simp;omega
theorem Vcma{a b:Nat}(h:a<=b):Nat.ble a b=true:=Eq.mpr Nat.ble_eq h
def byt(n:Ub):UInt8:=Qb (Qg 8 n)
def beb(n:Ub):Nat->Ua
 |0=>[]
 |k+1=>byt (n>>>(8*k))::beb n k
def hdr(m:UInt8)(n:Ub):Ua:=
 bif decide (n.toNat<24) then [m+byt n] else bif decide (n.toNat<256) then (m+24)::beb n 1 else bif decide (n.toNat<65536) then (m+25)::beb n 2 else bif decide (n.toNat<4294967296) then (m+26)::beb n 4 else (m+27)::beb n 8
def mj(k:Int):UInt8:=bif decide (k=2) then 32 else bif decide (k=3) then 64 else bif decide (k=4) then 96 else bif decide (k=5) then 128 else bif decide (k=6) then 160 else 0
def isD(k:Int):Bool:=decide (k=3)||decide (k=4)
def isN(k:Int):Bool:=decide (k=5)||decide (k=6)
def num(x:Ja):Ub:=bif isD x.kind then Qd 64 (x.data.length:Int) else x.number
def hdI(x:Ja):Ua:=bif decide (x.kind=7) then [244+byt x.number] else bif decide (x.kind=8) then [246] else hdr (mj x.kind) (num x)
def enc(x:Ja):Ua:=hdI x++x.data
theorem Vcv(n:Ub):∀k,(beb n k).length=k
 |0=>rfl
 |k+1=>by simp[beb,Vcv n k]
theorem Vwj(m:UInt8)(n:Ub):1<=(hdr m n).length/\(hdr m n).length<=9:=by
 unfold hdr;cases decide (n.toNat<24)<;>cases decide (n.toNat<256)<;>cases decide (n.toNat<65536)<;>cases decide (n.toNat<4294967296)<;>simp[Vcv]
theorem Vif(x:Ja):1<=(hdI x).length/\(hdI x).length<=9:=by
 unfold hdI;have:=Vwj (mj x.kind) (num x);cases decide (x.kind=7)<;>cases decide (x.kind=8)<;>simp<;>omega
theorem Vgza(x:Ja):enc x≠[]:=by
 have h1:=(Vif x).1;intro h;have h2:=congrArg List.length h;unfold enc at h2;rw[Qa,Qat]at h2;omega
theorem Vha(out:Ua)(n:Ub)(k:Nat)(hk:k<=8)(ho:out.length<100000000):Zhl_L1 (out,n,(k:Int)-1,())=some (out++beb n k,()):=by
 unfold Zhl_L1 Yi3;rw[Vlc (λq=>q.2.1=n/\-1<=q.2.2.1/\q.2.2.1<=7/\(q.1.length:Int)+q.2.2.1<=200000000) (λq=>(q.2.2.1+1).toNat) (λq=>(q.1++beb q.2.1 (q.2.2.1+1).toNat,()))]
 ·rw[show ((k:Int)-1+1).toNat=k by omega]
 ·rintro⟨o,m,i,u⟩ ⟨h1,h2,h3,h4⟩;dsimp only at *;subst h1;simp only[Zhl_L1b];by_cases hi:0<=i
  ·left;obtain⟨j,rfl⟩:∃j:Nat,i=(j:Int):=⟨i.toNat,by omega⟩;rw[wI (8*(j:Int)) (by omega),wI ((j:Int)-1) (by omega),show decide ((0:Int)<=(j:Int))=true by simp,show decide ((0:Int)<=8*(j:Int))=true by simp;omega,Vcu (by simp;omega)];refine⟨_,rfl,⟨rfl,by dsimp only;omega,by dsimp only;omega,by dsimp only;simp;omega⟩,by dsimp only;omega,?_⟩;dsimp only;rw[show ((j:Int)+1).toNat=j+1 by omega,show ((j:Int)-1+1).toNat=j by omega,show (8*(j:Int)).toNat=8*j by omega];simp[beb,byt]
  ·right;rw[show decide ((0:Int)<=i)=false by simpa using hi,show (i+1).toNat=0 by omega];simp[beb]
 ·exact⟨rfl,by dsimp only;omega,by dsimp only;omega,by dsimp only;omega⟩
 ·rw[Vaa];dsimp only;omega
theorem Vbi(out:Ua)(m:UInt8)(n:Ub)(ho:out.length<10000000):Zhl out m n=some ((),out++hdr (Qb (m.toBitVec<<<5)) n,()):=by
 unfold Zhl hdr;have e24:(24#64).toNat=24:=rfl;have e256:(256#64).toNat=256:=rfl;have e16:(65536#64).toNat=65536:=rfl;have e32:(4294967296#64).toNat=4294967296:=rfl;rw[e24,e256,e16,e32];generalize Qb (m.toBitVec<<<5)=f;by_cases h1:n.toNat<24
 ·simp only[h1,Uk,Ui];rw[Vcu (by simp;omega)];rfl
 ·by_cases h2:n.toNat<256
  ·simp only[h1,h2,Uk,Ul,Ui,Uj,bindS,Qr];rw[Vcu (by simp;omega),wI ((1:Int)-1) (by omega),show (1:Int)-1=((1:Nat):Int)-1 from rfl,Vha _ _ 1 (by omega) (by simp;omega)];simp only[Ui,bindS,Qc];rfl
  ·by_cases h3:n.toNat<65536
   ·simp only[h1,h2,h3,Uk,Ul,Ui,Uj,bindS,Qr];rw[Vcu (by simp;omega),wI ((2:Int)-1) (by omega),show (2:Int)-1=((2:Nat):Int)-1 from rfl,Vha _ _ 2 (by omega) (by simp;omega)];simp only[Ui,bindS,Qc];rfl
   ·by_cases h4:n.toNat<4294967296
    ·simp only[h1,h2,h3,h4,Uk,Ul,Ui,Uj,bindS,Qr];rw[Vcu (by simp;omega),wI ((4:Int)-1) (by omega),show (4:Int)-1=((4:Nat):Int)-1 from rfl,Vha _ _ 4 (by omega) (by simp;omega)];simp only[Ui,bindS,Qc];rfl
    ·simp only[h1,h2,h3,h4,Uk,Ul,Ui,Uj,bindS,Qr];rw[Vcu (by simp;omega),wI ((8:Int)-1) (by omega),show (8:Int)-1=((8:Nat):Int)-1 from rfl,Vha _ _ 8 (by omega) (by simp;omega)];simp only[Ui,bindS,Qc];rfl
def kin(x:Ja):Prop:=1<=x.kind/\x.kind<=8/\(isD x.kind=false->x.data=[])
theorem Vfx(out:Ua)(x:Ja)(hk:kin x)(ho:out.length<1000000)(hx:x.data.length<1000000):Zhm out x=some ((),out++enc x,()):=by
 obtain⟨k,n,d⟩:=x;obtain⟨h1,h2,h3⟩:=hk;dsimp only at h1 h2 h3 hx;unfold Zhm enc hdI num;dsimp only;have hl:=λm n=>(Vwj m n).2;have hk:k=1\/k=2\/k=3\/k=4\/k=5\/k=6\/k=7\/k=8:=by omega
 rcases hk with rfl|rfl|rfl|rfl|rfl|rfl|rfl|rfl
 ·rw[h3 rfl,Qp];exact (congrArg (λq=>Q9 q λr9=>some ((),(r9.2.1,()))) (Vbi out 0 n (by omega))).trans rfl
 ·rw[h3 rfl,Qp];exact (congrArg (λq=>Q9 q λr9=>some ((),(r9.2.1,()))) (Vbi out 1 n (by omega))).trans rfl
 ·have:=Vbi out 2 (Qd 64 (d.length:Int)) (by omega);have hs:=Vcu (n:=(out++hdr 64 (Qd 64 (d.length:Int))).length+d.length) (by have:=hl 64 (Qd 64 (d.length:Int));rw[Qa];omega);have e:(Qb ((2:UInt8).toBitVec<<<5))=64:=by decide
  rw[e]at this;show ((Zhl out 2 (Qd 64 (d.length:Int))).bind λr3=>(bif small ((r3.2.1).length+(d:Ua).length) 1 then (some ((),((r3.2.1++d),()))) else none))=_;rw[this];simp only[bindS];rw[hs];simp only[Ui,Qc];rfl
 ·have:=Vbi out 3 (Qd 64 (d.length:Int)) (by omega);have hs:=Vcu (n:=(out++hdr 96 (Qd 64 (d.length:Int))).length+d.length) (by have:=hl 96 (Qd 64 (d.length:Int));rw[Qa];omega);have e:(Qb ((3:UInt8).toBitVec<<<5))=96:=by decide
  rw[e]at this;show ((Zhl out 3 (Qd 64 (d.length:Int))).bind λr3=>(bif small ((r3.2.1).length+(d:Ua).length) 1 then (some ((),((r3.2.1++d),()))) else none))=_;rw[this];simp only[bindS];rw[hs];simp only[Ui,Qc];rfl
 ·rw[h3 rfl,Qp];exact (congrArg (λq=>Q9 q λr9=>some ((),(r9.2.1,()))) (Vbi out 4 n (by omega))).trans rfl
 ·rw[h3 rfl,Qp];exact (congrArg (λq=>Q9 q λr9=>some ((),(r9.2.1,()))) (Vbi out 5 n (by omega))).trans rfl
 ·rw[h3 rfl,Qp];show (bif small (out.length+1) 1 then _ else none)=_;rw[Vcu (by omega)];rfl
 ·rw[h3 rfl,Qp];show (bif small (out.length+1) 1 then _ else none)=_;rw[Vcu (by omega)];rfl
theorem Vz3(n:Ub):passkeyref1_Words [n]=some ((),beb n 8,()):=by
 have hL : ∀out : Ua, out.length<=100->passkeyref1_Words_L2 ([n], out, 0, 7, ())=some ([n], out++beb n 8, 0, ()) := by
  intro out ho;unfold passkeyref1_Words_L2 Yi4;rw[Vlc (λq=>q.1=[n]/\q.2.2.1=0/\-1<=q.2.2.2.1/\q.2.2.2.1<=7/\(q.2.1.length:Int)+q.2.2.2.1<=200) (λq=>(q.2.2.2.1+1).toNat) (λq=>(q.1,q.2.1++beb n (q.2.2.2.1+1).toNat,q.2.2.1,()))]
  ·rfl
  ·rintro⟨l,o,z,i,u⟩ ⟨h0,h1,h2,h3,h4⟩;dsimp only at *;subst h0;subst h1;simp only[passkeyref1_Words_L2b];by_cases hi:0<=i
   ·left;obtain⟨j,rfl⟩:∃j:Nat,i=(j:Int):=⟨i.toNat,by omega⟩;have eg:getI [n] 0=some n:=rfl;have es:(Qd 64 (8*(j:Int))).toNat=8*j:=by
     rw[show (8*(j:Int))=((8*j:Nat):Int) by omega,Qz,Qo,Qh (by omega)]
    rw[wI (8*(j:Int)) (by omega),wI ((j:Int)-1) (by omega),show decide ((0:Int)<=(j:Int))=true by simp,eg,es];simp only[Ui,bindS];rw[Vcu (by simp;omega)];refine⟨_,rfl,⟨rfl,rfl,by dsimp only;omega,by dsimp only;omega,by dsimp only;simp;omega⟩,by dsimp only;omega,?_⟩;dsimp only;rw[show ((j:Int)+1).toNat=j+1 by omega,show ((j:Int)-1+1).toNat=j by omega];simp[beb,byt]
   ·right;rw[show decide ((0:Int)<=i)=false by simpa using hi,show (i+1).toNat=0 by omega];simp[beb]
  ·exact⟨rfl,rfl,by dsimp only;omega,by dsimp only;omega,by dsimp only;omega⟩
  ·rw[Vaa];dsimp only;omega
 unfold passkeyref1_Words passkeyref1_Words_L0 Yi3;rw[Vaa,show (1180591620717411303424:Nat)=1180591620717411303422+1+1 from rfl,Vac];have e1:passkeyref1_Words_L0b [n] [] 0=some (.inl ([n],beb n 8,1,())):=by
  unfold passkeyref1_Words_L0b;rw[hL [] (by simp)];rfl
 have e2:passkeyref1_Words_L0b [n] (beb n 8) 1=some (.inr (beb n 8,())):=rfl;dsimp only;rw[e1,bindS,Qr,Vac];dsimp only;rw[e2,bindS,Qam,bindS]
def tailH(j2:Ub×UInt8×Unit):Option (Unit×(Ua×Unit)):=(bif (decide (j2.1.toNat<(24#64).toNat)) then (let v3:UInt8:=(Qb (j2.2.1.toBitVec+(Qb (Qg 8 j2.1)).toBitVec))
 (some ((),(([v3]:Ua),()))))
 else (bif (decide (j2.1.toNat<(256#64).toNat)) then (let v4:Ua:=([(Qb (j2.2.1.toBitVec+(24:UInt8).toBitVec)),(Qb (Qg 8 j2.1))]:Ua)
 (some ((),(v4,()))))
 else (bif (decide (j2.1.toNat<(65536#64).toNat)) then (let v5:Ua:=([(Qb (j2.2.1.toBitVec+(25:UInt8).toBitVec)),(Qb (Qg 8 (j2.1>>>8))),(Qb (Qg 8 j2.1))]:Ua)
 (some ((),(v5,()))))
 else (bif (decide (j2.1.toNat<(4294967296#64).toNat)) then (let v6:Ua:=([(Qb (j2.2.1.toBitVec+(26:UInt8).toBitVec)),(Qb (Qg 8 (j2.1>>>24))),(Qb (Qg 8 (j2.1>>>16))),(Qb (Qg 8 (j2.1>>>8))),(Qb (Qg 8 j2.1))]:Ua)
 (some ((),(v6,()))))
 else (let v7:Ua:=([(Qb (j2.2.1.toBitVec+(27:UInt8).toBitVec))]:Ua)
 ((passkeyref1_Words ([j2.1]:List Ub)).bind λr8=>(bif small ((v7).length+(r8.2.1:Ua).length) 1 then (some ((),((v7++r8.2.1),())))
 else none)))))))
theorem Veha(x:Ja):Zgu x=some ((),hdI x,()):=by
 have key:∀(m:UInt8) (n:Ub),tailH (n,m,())=some ((),hdr m n,()):=by
  intro m n;unfold tailH;dsimp only;have e24:(24#64).toNat=24:=rfl;have e256:(256#64).toNat=256:=rfl;have e16:(65536#64).toNat=65536:=rfl;have e32:(4294967296#64).toNat=4294967296:=rfl;have es:n>>>(8*0)=n:=by simp
  rw[e24,e256,e16,e32];unfold hdr;simp only[beb,byt,es];by_cases h1:n.toNat<24
  ·simp only[h1,Uk,Ui];rfl
  ·by_cases h2:n.toNat<256
   ·simp only[h1,h2,Uk,Ul,Ui,Uj];rfl
   ·by_cases h3:n.toNat<65536
    ·simp only[h1,h2,h3,Uk,Ul,Ui,Uj];rfl
    ·by_cases h4:n.toNat<4294967296
     ·simp only[h1,h2,h3,h4,Uk,Ul,Ui,Uj];rfl
     ·simp only[h1,h2,h3,h4,Uk,Ul,Ui,Uj];rw[Vz3];simp only[bindS];rw[Vcu (by simp[Vcv])];simp only[Ui,beb,byt,es];rfl
 unfold Zgu hdI num isD mj;by_cases h7:x.kind=7
 ·simp only[h7,Uk,Ui];rfl
 ·by_cases h8:x.kind=8
  ·simp only[h8,Uk,Ui];rfl
  ·by_cases h2:x.kind=2
   ·simp only[h2];exact key _ _
   ·by_cases h3:x.kind=3
    ·simp only[h3];exact key _ _
    ·by_cases h4:x.kind=4
     ·simp only[h4];exact key _ _
     ·by_cases h5:x.kind=5
      ·simp only[h5];exact key _ _
      ·by_cases h6:x.kind=6
       ·simp only[h6];exact key _ _
       ·simp only[h2,h3,h4,h5,h6,h7,h8,Ul,Uj,Q8];exact key _ _
theorem Veu(x:Ja)(hx:x.data.length<1000000):Zfq x=some ((),enc x,()):=by
 unfold Zfq enc;rw[Veha];simp only[bindS];rw[Vcma (by have:=(Vif x).2;omega)];rfl
def lss(a b:Ua):Bool:=bif decide (a.length=b.length) then Op.bytesLess a b else decide (a.length<b.length)
theorem Vlf(a b:Ua):Zgw a b=some ((),lss a b,()):=by
 unfold Zgw lss;by_cases h:a.length=b.length
 ·simp[h]
 ·rw[show decide ((a.length:Int)=(b.length:Int))=false by simp;omega,show decide (a.length=b.length)=false by simpa using h];simp
theorem Vqc:∀a b:Ua,decide (Lib.compareBytes a b<0)=Op.bytesLess a b
 |[],[]=>rfl
 |[],_::_=>rfl
 |_::_,[]=>rfl
 |a::x,b::y=>by
  unfold Lib.compareBytes Op.bytesLess;by_cases h1:a<b
  ·simp[h1]
  ·by_cases h2:b<a
   ·have:a≠b:=λe=>by subst e;exact absurd h2 h1
    simp[h1,h2,this]
   ·have:a=b:=by
     apply UInt8.toNat_inj.1;have h1':¬ a.toNat<b.toNat:=h1;have h2':¬ b.toNat<a.toNat:=h2;omega
    subst this;simp[h1,Vqc x y]
theorem Vrr(a b:Ua):Zip a b=some ((),lss a b,()):=by
 unfold Zip lss Zij;by_cases h:a.length=b.length
 ·rw[show decide ((a.length:Int)=(b.length:Int))=true by simp[h],show decide (a.length=b.length)=true by simpa using h];simp only[Qf,Uj,Ui,bindS];rw[Vqc]
 ·rw[show decide ((a.length:Int)=(b.length:Int))=false by simp;omega,show decide (a.length=b.length)=false by simpa using h];simp
def isK(k:Int):Bool:=decide (k=1)||(decide (k=2)||decide (k=4))
def bad(x:Ja):Bool:=((isD x.kind||decide (x.kind=8))&&!decide (x.number=0#64))||((decide (x.kind=7)&&decide (1<x.number.toNat))||(!isD x.kind&&!decide (x.data=[])))
def big(x:Ja):Bool:=decide (1024<x.data.length)||(isN x.kind&&decide (512<x.number.toNat))
def adm(k:Int)(n d:Nat)(key:Bool):Int:=
 bif decide (512<=n) then 8 else bif !(decide (1<=k)&&decide (k<=8))||(key&&!isK k) then 3 else bif decide (8<d) then 5 else 0
def acc(x:Ja)(key:Bool)(before:Ua):Int:=
 bif decide (x.kind=4)&&!Lib.validD x.data then 6 else bif key&&(!before.isEmpty&&!lss before (enc x)) then 7 else 0
def chk(x:Ja)(n d:Nat)(key:Bool)(before:Ua):Int:=
 bif !decide (adm x.kind n d key=0) then adm x.kind n d key else bif bad x then 4 else bif big x then 8 else acc x key before
theorem Vbc{l:Ua}(h:l.length<1000000):Zhk l=some ((),Lib.validD l,()):=by
 unfold Zhk;rw[show decide (l.length<=9223372036854775807)=true by simp;omega];rfl
theorem Vlg(k:Int):Zfs k=some ((),isK k,()):=by
 unfold Zfs isK;cases decide (k=1)<;>cases decide (k=2)<;>rfl
theorem Vm6(k:Int):Zem k 1 8=some ((),decide (1<=k)&&decide (k<=8),()):=by
 unfold Zem;cases decide (1<=k)<;>rfl
theorem kinds(k:Int):k=3\/k=4\/k=5\/k=6\/k=7\/k=8\/(¬ k=3/\¬ k=4/\¬ k=5/\¬ k=6/\¬ k=7/\¬ k=8):=by omega
theorem bindC{α β:Type}(c:Bool)(a b:Option α)(f:α->Option β):(bif c then a else b).bind f=bif c then a.bind f else b.bind f:=by cases c<;>rfl
theorem Vz4(x:Ja)(n d:Nat)(key:Bool)(before:Ua)(hx:x.data.length<1000000):Zfr x n d key before=some ((),chk x n d key before,()):=by
  obtain⟨k,m,l⟩:=x;have qB:=Veu ⟨k,m,l⟩ hx;dsimp only at hx;have qV:=Vbc hx;have q1:decide ((512:Int)<=(n:Int))=decide (512<=n):=by rw[decide_eq_decide];omega
  have q2:decide ((8:Int)<(d:Int))=decide (8<d):=by rw[decide_eq_decide];omega
  have q3:decide ((1024:Int)<(l.length:Int))=decide (1024<l.length):=by rw[decide_eq_decide];omega
  have q4:(512#64).toNat=512:=rfl;have q5:(1#64).toNat=1:=rfl;have eb:decide (before=[])=before.isEmpty:=by cases before <;> rfl
  unfold Zfr chk adm acc bad big;rcases kinds k with rfl|rfl|rfl|rfl|rfl|rfl|⟨g1,g2,g3,g4,g5,g6⟩
  rotate_right
  · simp only[g1,g2,g3,g4,g5,g6,isD,isN,bindC,bindS,Vm6,Vlg,qV,qB,Vlf,q1,q2,q3,q4,q5,eb,Int.reduceEq,Int.reduceLE,Uk,Ul,Ui,Uj,Q7,Qah,Q6,Q4,Qs,Qv,Qa0,Q2,Qf,Qn,Q1,Q8]
    generalize isK k=ik;generalize decide (1<=k)=w1;generalize decide (k<=8)=w2;generalize lss before (enc _)=ls;generalize before.isEmpty=be;generalize Lib.validD l=va;generalize decide (512<=n)=c1;generalize decide (8<d)=c2;generalize decide (1024<l.length)=c3;generalize decide (512<m.toNat)=c4;generalize decide (1<m.toNat)=c5;generalize decide (m=0#64)=c6;generalize decide (l=[])=c7;cases c1 <;> first|rfl|(cases w1 <;> first|rfl|(cases w2 <;> first|rfl|(cases key <;> cases ik <;> first|rfl|(cases c2 <;> first|rfl|(cases c7 <;> first|rfl|(cases c3 <;> first|rfl|(cases be <;> cases ls <;> rfl)))))))
  all_goals
    (simp only[isK,isD,isN,bindC,bindS,Vm6,Vlg,qV,qB,Vlf,q1,q2,q3,q4,q5,eb,Int.reduceEq,Int.reduceLE,Uk,Ul,Ui,Uj,Q7,Qah,Q6,Q4,Qs,Qv,Qa0,Q2,Qf,Qn,Q1,Q8]
     generalize lss before (enc _)=ls;generalize before.isEmpty=be;generalize Lib.validD l=va;generalize decide (512<=n)=c1;generalize decide (8<d)=c2;generalize decide (1024<l.length)=c3;generalize decide (512<m.toNat)=c4;generalize decide (1<m.toNat)=c5;generalize decide (m=0#64)=c6;generalize decide (l=[])=c7;cases c1 <;> first|rfl|(cases key <;> first|rfl|(cases c2 <;> first|rfl|(cases c6 <;> first|rfl|(cases c5 <;> first|rfl|(cases c7 <;> first|rfl|(cases c3 <;> first|rfl|(cases c4 <;> first|rfl|(cases va <;> first|rfl|(cases be <;> cases ls <;> rfl))))))))))
def atK:List Jc->Bool
 |[]=>false
 |f::_=>f.jw&&decide (Qaz f.left 2=0)
def lst:List Jc->Ua
 |[]=>[]
 |f::_=>f.jab
def dcr:List Jc->List Jc
 |[]=>[]
 |f::r=>⟨f.jw,f.left-1,f.jab⟩::r
def setl(b:Ua):List Jc->List Jc
 |[]=>[]
 |f::r=>⟨f.jw,f.left,b⟩::r
def psh(x:Ja)(S:List Jc):List Jc:=
 bif decide (0<x.number.toNat) then (bif decide (x.kind=5) then ⟨false,(x.number.toNat:Int),[]⟩::S else bif decide (x.kind=6) then ⟨true,2*(x.number.toNat:Int),[]⟩::S else S) else S
def pop:List Jc->List Jc
 |[]=>[]
 |f::r=>bif decide (f.left=0) then pop r else f::r
def mrk(x:Ja)(S:List Jc):List Jc:=bif atK S then setl (enc x) S else S
def nxt(x:Ja)(S:List Jc):List Jc:=pop (psh x (dcr (mrk x S)))
theorem Vlh(r:List Jc)(f:Jc):(r.reverse++[f])[r.length]? = some f:=by simp
theorem Vwk(r:List Jc)(f g:Jc):(r.reverse++[f]).set r.length g=r.reverse++[g]:=by
 rw[List.set_append_right _ _ (by simp)];simp
theorem Vz5(r:List Jc)(f:Jc):(r.reverse++[f]).take r.length=r.reverse:=by
 rw[Qag (by simp)];simp[Qal]
theorem Vom(r:List Jc)(f:Jc)(h:r.length<1000000):Qi .i64 (((r.reverse++[f]).length:Int)-1)=(r.length:Int):=by
 rw[Vaw (by simp<;>omega) (by simp<;>omega)];simp
theorem Vqd(S:List Jc)(n:Int)(hl:S.length<1000000):Zho ⟨S.reverse,n⟩=some ((),atK S,()):=by
 unfold Zho;cases S with
 |nil=>rfl
 |cons f r=>
  simp only[Qq];rw[Vom r f (by simp at hl;omega)];have eg:getI (r.reverse++[f]) (r.length:Int)=some f:=by unfold getI;simp[Vlh]
  rw[eg,show decide ((0:Int)<((r.reverse++[f]).length:Int))=true by simp<;>omega];simp only[Ui,bindS,atK];cases f.jw<;>rfl
theorem Von(S:List Jc)(n:Nat):Zie ⟨S.reverse,(n:Int)⟩=some ((),decide (0<n)&&S.isEmpty,()):=by
 unfold Zie;cases n with
 |zero=>rfl
 |succ n=>
  rw[show decide ((0:Int)<((n+1:Nat):Int))=true by simp<;>omega];cases S with
  |nil=>rfl
  |cons f r=>
   simp only[Ui];rw[show decide ((((f::r).reverse).length:Int)=0)=false by simp;omega];rfl
theorem Vqe(S:List Jc)(n:Nat)(k:Int)(hl:S.length<1000000):Zhn ⟨S.reverse,(n:Int)⟩ k=some ((),adm k n S.length (atK S),()):=by
 unfold Zhn adm isK;simp only[Vqd S n hl,bindS];rw[show decide ((512:Int)<=(n:Int))=decide (512<=n) by rw[decide_eq_decide];omega,show decide ((8:Int)<((S.reverse).length:Int))=decide (8<S.length) by rw[decide_eq_decide];simp;omega,show decide (k<1) = !decide (1<=k) by rw[<-decide_not,decide_eq_decide];omega,show decide ((8:Int)<k) = !decide (k<=8) by rw[<-decide_not,decide_eq_decide];omega];generalize decide (512<=n)=c1;generalize decide (8<S.length)=c2;generalize decide (1<=k)=c3;generalize decide (k<=8)=c4;generalize decide (k=1)=c5;generalize decide (k=2)=c6;generalize decide (k=4)=c7;cases c1<;>cases c3<;>cases c4<;>cases atK S<;>cases c2<;>first|rfl|(cases c5<;>cases c6<;>cases c7<;>rfl)
theorem Vwl(x:Ja):Zix x=some ((),!bad x,()):=by
 obtain⟨k,m,l⟩:=x;unfold Zix bad isD;rw[show (1#64).toNat=1 from rfl];dsimp only;rw[show decide (m.toNat<=1) = !decide (1<m.toNat) by rw[<-decide_not,decide_eq_decide];omega];generalize decide (1<m.toNat)=c5;generalize decide (m=0#64)=c6;generalize decide (l=[])=c7;rcases kinds k with rfl|rfl|rfl|rfl|rfl|rfl|⟨g1,g2,g3,g4,g5,g6⟩;all_goals first|(cases c5<;>cases c6<;>cases c7<;>rfl)|skip
 simp only[g1,g2,g3,g4,g5,g6,Ul,Uj,Qah,Qv,Q4,Qn,Qs];cases c7<;>rfl
theorem Vg0a(S:List Jc)(n:Int)(hl:S.length<1000000):Zif_L0 ((S.reverse,n,()),(S.length:Int),())=some (((pop S).reverse,n,()),()):=by
 unfold Zif_L0 Yi2;rw[Vlc (λq=>∃R:List Jc,q.1.1=R.reverse/\q.2.1=(R.length:Int)/\R.length<1000000) (λq=>q.1.1.length) (λq=>(((pop q.1.1.reverse).reverse,q.1.2.1,()),()))]
 ·simp
 ·rintro⟨⟨L,m,u⟩,i,u2⟩ ⟨R,h1,h2,h3⟩;dsimp only at *;subst h1;subst h2;simp only[Zif_L0b,List.reverse_reverse];cases R with
  |nil=>right;rfl
  |cons f r=>
   simp only[Qk]at h3;simp only[Qq];have ei:Qi .i64 (((f::r).length:Int)-1)=(r.length:Int):=by
    rw[Vaw (by simp<;>omega) (by simp<;>omega)];simp
   rw[ei,show decide ((0:Int)<((f::r).length:Int))=true by simp<;>omega,show decide ((0:Int)<=(r.length:Int))=true by simp,show decide ((r.length:Int)<((r.reverse++[f]).length:Int))=true by simp<;>omega,show decide ((r.length:Int)<=((r.reverse++[f]).length:Int))=true by simp<;>omega,Qae,show decide (r.length<=(r.reverse++[f]).length)=true by simp,Vlh,Vz5];simp only[Q1,Ui,bindS,pop];cases hf:decide (f.left=0)
   ·right;simp
   ·left;simp only[Ui];refine⟨_,rfl,⟨r,rfl,rfl,by omega⟩,by simp,by simp⟩
 ·exact⟨S,rfl,rfl,hl⟩
 ·rw[Vaa];dsimp only;simp;omega
theorem Voo(S:List Jc)(n:Nat)(x:Ja)(hl:S.length<100000)(hn:n<1000000)(hw:∀f∈S,-10<=f.left/\f.left<=2000)(hx:isN x.kind=true->x.number.toNat<=512):Zif (S.reverse,(n:Int),()) x=some ((((pop (psh x (dcr S))).reverse,((n+1:Nat):Int),()),()),()):=by
  have e1:∀(L:List Jc) (c:Int),L=(dcr S).reverse->c=((n+1:Nat):Int)->((some ((L,c,()),(x,()),()):Option (((List (Jc))×Int×Unit)×(Ja×Unit)×Unit)).bind (λ(j4:(((List (Jc))×Int×Unit)×(Ja×Unit)×Unit))=>((bif (decide (j4.2.1.1.kind=(5:Int))) then (bif (decide ((0#64).toNat<j4.2.1.1.number.toNat)) then (let v5:List (Jc):=([(⟨false,(Qi .i64 (j4.2.1.1.number.toNat:Int)),[]⟩:Jc)]:List (Jc))
 (bif small ((j4.1.1).length+(v5:List (Jc)).length) 40 then (some (((j4.1.1++v5),j4.1.2.1,()),(j4.2.1.1,()),()))
 else none))
 else (some ((j4.1.1,j4.1.2.1,()),(j4.2.1.1,()),())))
 else (some ((j4.1.1,j4.1.2.1,()),(j4.2.1.1,()),()))).bind (λ(j6:(((List (Jc))×Int×Unit)×(Ja×Unit)×Unit))=>((bif (decide (j6.2.1.1.kind=(6:Int))) then (bif (decide ((0#64).toNat<j6.2.1.1.number.toNat)) then (let v7:Int:=(Qi .i64 ((2:Int)*(Qi .i64 (j6.2.1.1.number.toNat:Int))))
 (bif small ((j6.1.1).length+(([(⟨true,v7,[]⟩:Jc)]:List (Jc)):List (Jc)).length) 40 then (let v8:List (Jc):=(j6.1.1++([(⟨true,v7,[]⟩:Jc)]:List (Jc)))
 (some ((v8,j6.1.2.1,()),())))
 else none))
 else (some ((j6.1.1,j6.1.2.1,()),())))
 else (some ((j6.1.1,j6.1.2.1,()),()))).bind (λ(j9:(((List (Jc))×Int×Unit)×Unit))=>((Zif_L0 ((j9.1.1,j9.1.2.1,()),((j9.1.1).length:Int),())).bind (λ(z11:(((List (Jc))×Int×Unit)×Unit))=>(some (((z11.1.1,z11.1.2.1,()),()),()))))))))))=some ((((pop (psh x (dcr S))).reverse,((n+1:Nat):Int),()),()),()):=by
    intro L c hL hc;subst hL;subst hc;simp only[bindS];have hdl:(dcr S).length=S.length:=by cases S <;> rfl
    have fin:∀R:List Jc,R.length<1000000->((Zif_L0 ((R.reverse,((n+1:Nat):Int),()),((R.reverse).length:Int),())).bind (λ(z11:(((List (Jc))×Int×Unit)×Unit))=>(some (((z11.1.1,z11.1.2.1,()),()),()))))=some ((((pop R).reverse,((n+1:Nat):Int),()),()),()):=by
      intro R hR;rw[List.length_reverse,Vg0a R _ hR];simp only[bindS]
    rw[show (0#64).toNat=0 from rfl];unfold psh;by_cases h0:0<x.number.toNat
    · by_cases h5:x.kind=5
      · have hm:=hx (by simp[isN,h5])
        simp only[h0,h5,Uk,Ui,Int.reduceEq,Ul,Uj];rw[Vwi (by simp[hdl];omega),wI ((x.number.toNat:Int)) (by omega)];simp only[Ui,bindS,h5,Int.reduceEq,Ul,Uj];have:=fin (⟨false,(x.number.toNat:Int),[]⟩ :: dcr S) (by simp[hdl];omega);rw[Qq]at this;exact this
      · by_cases h6:x.kind=6
        · have hm:=hx (by simp[isN,h6])
          simp only[h0,h6,Uk,Ui,Int.reduceEq,Ul,Uj,bindS];rw[Vwi (by simp[hdl];omega),wI ((x.number.toNat:Int)) (by omega),wI (2*(x.number.toNat:Int)) (by omega)];simp only[Ui,bindS];have:=fin (⟨true,2*(x.number.toNat:Int),[]⟩ :: dcr S) (by simp[hdl];omega);rw[Qq]at this;exact this
        · simp only[h0,h5,h6,Uk,Ul,Ui,Uj,bindS]
          exact fin _ (by rw[hdl];omega)
    · simp only[h0,Ul,Uj]
      by_cases h5:x.kind=5
      · simp only[h0,h5,Uk,Ul,Ui,Uj,bindS,Int.reduceEq]
        exact fin _ (by rw[hdl];omega)
      · by_cases h6:x.kind=6
        · simp only[h0,h6,Uk,Ul,Ui,Uj,bindS,Int.reduceEq]
          exact fin _ (by rw[hdl];omega)
        · simp only[h0,h5,h6,Uk,Ul,Ui,Uj,bindS]
          exact fin _ (by rw[hdl];omega)
  unfold Zif;dsimp only;rw[wI ((n:Int)+1) (by omega)];cases S with
  |nil=>exact e1 [] _ rfl (by omega)
  | cons f r=>
    simp only[Qk]at hl;have hf:=hw f (by simp);simp only[Qq];rw[Vom r f (by omega),show decide ((0:Int)<((r.reverse++[f]).length:Int))=true by simp <;> omega,show decide ((0:Int)<=(r.length:Int))=true by simp,show decide ((r.length:Int)<((r.reverse++[f]).length:Int))=true by simp <;> omega,Qae,Vlh];simp only[Q1,Ui,bindS];rw[Vwk,wI (f.left-1) (by omega)];have:=e1 (r.reverse++[⟨f.jw,f.left-1,f.jab⟩]) ((n:Int)+1) (by simp[dcr]) (by omega);simp only[bindS]at this;exact this
def accK(a0:((List (Jc))×Int×Unit))(a1:Ja):Option ((((List (Jc))×Int×Unit)×Unit)×(Int×Unit)):=((Zho (⟨a0.1,a0.2.1⟩:Jx)).bind λr14=>(bif r14.2.1 then (bif (decide ((0:Int)<=(Qi .i64 (((a0.1).length:Int)-(1:Int))))&&decide ((Qi .i64 (((a0.1).length:Int)-(1:Int)))<((a0.1).length:Int))) then ((Zhm [] a1).bind λr15=>(((a0.1)[((Qi .i64 (((a0.1).length:Int)-(1:Int)))).toNat]?).bind λx16=>(bif (!(x16.jab).isEmpty) then (((a0.1)[((Qi .i64 (((a0.1).length:Int)-(1:Int)))).toNat]?).bind λx17=>((Zip x17.jab r15.2.1).bind λr18=>(bif (!r18.2.1) then (some (((a0.1,a0.2.1,()),()),((7:Int),())))
 else (((a0.1)[((Qi .i64 (((a0.1).length:Int)-(1:Int)))).toNat]?).bind λx19=>(bif (r15.2.1).isEmpty then none
 else (let v20:List (Jc):=(List.set a0.1 ((Qi .i64 (((a0.1).length:Int)-(1:Int)))).toNat (⟨x19.jw,x19.left,r15.2.1⟩:Jc))
 ((Zif (v20,a0.2.1,()) a1).bind λr21=>(some (((r21.1.1.1,r21.1.1.2.1,()),()),((0:Int),()))))))))))
 else (((a0.1)[((Qi .i64 (((a0.1).length:Int)-(1:Int)))).toNat]?).bind λx22=>(bif (r15.2.1).isEmpty then none
 else (let v23:List (Jc):=(List.set a0.1 ((Qi .i64 (((a0.1).length:Int)-(1:Int)))).toNat (⟨x22.jw,x22.left,r15.2.1⟩:Jc))
 ((Zif (v23,a0.2.1,()) a1).bind λr24=>(some (((r24.1.1.1,r24.1.1.2.1,()),()),((0:Int),()))))))))))
 else none)
 else ((Zif (a0.1,a0.2.1,()) a1).bind λr25=>(some (((r25.1.1.1,r25.1.1.2.1,()),()),((0:Int),()))))))
theorem Vwm(a0:((List (Jc))×Int×Unit))(a1:Ja):Zgb a0 a1=bif decide (a1.kind=4) then ((Zhk a1.data).bind λr1=>bif !r1.2.1 then some (((a0.1,a0.2.1,()),()),((6:Int),())) else accK a0 a1) else accK a0 a1:=rfl
def res(S S':List Jc)(n:Nat)(e:Int):(((List (Jc))×Int×Unit)×Unit)×(Int×Unit):=bif decide (e=0) then (((S'.reverse,((n+1:Nat):Int),()),()),(e,())) else (((S.reverse,(n:Int),()),()),(e,()))
theorem Veia(S:List Jc)(n:Nat)(x:Ja)(hk:kin x)(hd:x.data.length<100000)(hl:S.length<100000)(hn:n<1000000)(hw:∀f∈S,-10<=f.left/\f.left<=2000)(hx:isN x.kind=true->x.number.toNat<=512) :
  accK (S.reverse,(n:Int),()) x=some (res S (nxt x S) n (bif atK S&&(!(lst S).isEmpty&&!lss (lst S) (enc x)) then 7 else 0)):=by
 unfold accK;dsimp only;rw[Vqd S n (by omega)];simp only[bindS];cases S with
 |nil=>
  have e:atK ([]:List Jc)=false:=rfl;rw[e];have:=Voo [] n x (by simp) hn (by simp) hx;simp only[Uj,Qv];rw[this];rfl
 |cons f r=>
  simp only[Qk]at hl;cases ha:atK (f::r)
  ·simp only[Uj,Qv];rw[Voo (f::r) n x (by simp;omega) hn hw hx];simp[res,nxt,mrk,ha]
  ·simp only[Ui,Qs,Qq];rw[Vom r f (by omega),show decide ((0:Int)<=(r.length:Int))=true by simp,show decide ((r.length:Int)<((r.reverse++[f]).length:Int))=true by simp<;>omega,Qae,Vlh,Vfx [] x hk (by simp) (by omega)];simp only[Q1,Ui,bindS,List.nil_append,lst,Vwk];have he:(enc x).isEmpty=false:=by
    cases h:enc x with
    |nil=>exact absurd h (Vgza x)
    |cons _ _=>rfl
   have hst:=Voo (⟨f.jw,f.left,enc x⟩::r) n x (by simp;omega) hn (by
    intro g hg;rcases List.mem_cons.1 hg with rfl|hg
    ·exact hw f (by simp)
    ·exact hw g (by simp[hg])) hx
   simp only[Qq]at hst;rw[he,Vrr];simp only[bindS,Uj];rw[hst];have hnx:nxt x (f::r)=pop (psh x (dcr (⟨f.jw,f.left,enc x⟩::r))):=by
    unfold nxt mrk;rw[ha];rfl
   rw[hnx];cases f.jab.isEmpty
   ·simp only[Qn,Ui,Qs];cases lss f.jab (enc x)
    ·simp[res]
    ·simp[res]
   ·simp[res]
theorem Vfy(S:List Jc)(n:Nat)(x:Ja)(hk:kin x)(hd:x.data.length<100000)(hl:S.length<100000)(hn:n<1000000)(hw:∀f∈S,-10<=f.left/\f.left<=2000)(hx:isN x.kind=true->x.number.toNat<=512) :
  Zgb (S.reverse,(n:Int),()) x=some (res S (nxt x S) n (acc x (atK S) (lst S))):=by
 rw[Vwm,Veia S n x hk hd hl hn hw hx,Vbc (by omega)];unfold acc;simp only[bindS];cases decide (x.kind=4)
 ·simp
 ·cases Lib.validD x.data
  ·simp[res]
  ·simp
theorem Vqf{x:Ja}{n d:Nat}{key:Bool}(h1:adm x.kind n d key=0)(h2:bad x=false):kin x:=by
 unfold adm at h1;cases hc:decide (512<=n)
 ·rw[hc]at h1;cases hk:(!(decide (1<=x.kind)&&decide (x.kind<=8))||(key&&!isK x.kind))
  ·simp only[Qj,Qx,Qy,Uq]at hk;refine⟨hk.1.1,hk.1.2,λh=>?_⟩;unfold bad at h2;simp only[h,Qj,Qn,Qs,Qx,Uq]at h2;exact h2.2.2
  ·rw[hk]at h1;simp at h1
 ·rw[hc]at h1;simp at h1
theorem Veja(S:List Jc)(n:Nat)(x:Ja)(hd:x.data.length<100000)(hl:S.length<100000)(hn:n<1000000)(hw:∀f∈S,-10<=f.left/\f.left<=2000) :
  Zfa (S.reverse,(n:Int),()) x=some (res S (nxt x S) n (bif decide (0<n)&&S.isEmpty then 2 else chk x n S.length (atK S) (lst S))):=by
 unfold Zfa;dsimp only;rw[Von,Vqe S n x.kind (by omega),Vwl];simp only[bindS];cases decide (0<n)&&S.isEmpty
 ·simp only[Uj];unfold chk;by_cases h1:adm x.kind n S.length (atK S)=0
  ·rw[show decide (adm x.kind n S.length (atK S)=0)=true by simpa using h1];simp only[Qf,Uj,Bool.not_not];cases hb:bad x
   ·have hk := Vqf h1 hb;simp only[Uj];unfold big isN;rw[show decide ((1024:Int)<(x.data.length:Int))=decide (1024<x.data.length) by rw[decide_eq_decide];omega,show (512#64).toNat=512 from rfl];cases decide (1024<x.data.length)
    ·simp only[Uj,Q4];by_cases h5:x.kind=5
     ·by_cases hm:512<x.number.toNat
      ·simp[h5,hm,res]
      ·rw[Vfy S n x hk hd hl hn hw (λ_=>by omega)];simp only[h5,hm,Uk,Ul,Ui,Uj,bindS,Q6,Q2]
     ·by_cases h6:x.kind=6
      ·by_cases hm:512<x.number.toNat
       ·simp[h6,hm,res]
       ·rw[Vfy S n x hk hd hl hn hw (λ_=>by omega)];simp only[h6,hm,Uk,Ul,Ui,Uj,bindS,Q7,Q2,Int.reduceEq]
      ·rw[Vfy S n x hk hd hl hn hw (λh=>by simp[isN,h5,h6]at h)];simp only[h5,h6,Uk,Ul,Ui,Uj,bindS,Q8,Qv]
    ·simp[res]
   ·simp[res]
  ·rw[show decide (adm x.kind n S.length (atK S)=0)=false by simpa using h1];simp[res,h1]
 ·simp[res]
def mach{σ:Type}(get:Nat->Nat->Bool->Ua->σ->Int×Ja×σ):Nat->List Jc->Nat->σ->Int×List Ja×σ
 |0,_,_,s=>(99,[],s)
 |f+1,S,n,s=>bif decide (0<n)&&S.isEmpty then (0,[],s) else bif decide ((get n S.length (atK S) (lst S) s).1=0) then ((mach get f (nxt (get n S.length (atK S) (lst S) s).2.1 S) (n+1) (get n S.length (atK S) (lst S) s).2.2).1,(get n S.length (atK S) (lst S) s).2.1::(mach get f (nxt (get n S.length (atK S) (lst S) s).2.1 S) (n+1) (get n S.length (atK S) (lst S) s).2.2).2.1,(mach get f (nxt (get n S.length (atK S) (lst S) s).2.1 S) (n+1) (get n S.length (atK S) (lst S) s).2.2).2.2) else ((get n S.length (atK S) (lst S) s).1,[],s)
theorem Vfz{σ:Type}{get:Nat->Nat->Bool->Ua->σ->Int×Ja×σ}{f n:Nat}{s:σ}(hn:0<n):mach get (f+1) [] n s=(0,[],s):=by
 unfold mach;simp[hn]
theorem Vds{σ:Type}{get:Nat->Nat->Bool->Ua->σ->Int×Ja×σ}{f n:Nat}{s:σ}{S:List Jc}{e:Int}{x:Ja}{t:σ}(hS:(decide (0<n)&&S.isEmpty)=false)(hg:get n S.length (atK S) (lst S) s=(e,x,t))(he:e≠0):mach get (f+1) S n s=(e,[],s):=by
 unfold mach;rw[hS,hg];simp[he]
theorem Vb8{σ:Type}{get:Nat->Nat->Bool->Ua->σ->Int×Ja×σ}{f n:Nat}{s:σ}{S:List Jc}{x:Ja}{t:σ}(hS:(decide (0<n)&&S.isEmpty)=false)(hg:get n S.length (atK S) (lst S) s=(0,x,t)):mach get (f+1) S n s=((mach get f (nxt x S) (n+1) t).1,x::(mach get f (nxt x S) (n+1) t).2.1,(mach get f (nxt x S) (n+1) t).2.2):=by
 conv=>lhs;unfold mach
 rw[hS,hg];simp
def getL(n d:Nat)(key:Bool)(before:Ua):List Ja->Int×Ja×List Ja
 |[]=>(1,default,[])
 |x::r=>(chk x n d key before,x,r)
def top:List Jc->Prop
 |[]=>True
 |f::_=>0<f.left
def WS(S:List Jc):Prop:=(∀f∈S,0<=f.left/\f.left<=1024)/\top S/\S.length<=9
theorem Vwn:∀ {S:List Jc} {f:Jc},f∈pop S->f∈S
 |g::r,f,h=>by
  unfold pop at h;cases hg:decide (g.left=0)
  ·rw[hg]at h;exact h
  ·rw[hg]at h;exact List.mem_cons_of_mem _ (Vwn h)
theorem Vwo:∀S:List Jc,(pop S).length<=S.length
 |[]=>Nat.le_refl _
 |g::r=>by
  unfold pop;cases decide (g.left=0)
  ·exact Nat.le_refl _
  ·exact Qad (Vwo r) (Nat.le_succ _)
theorem Vwp:∀ {S:List Jc},(∀f∈S,0<=f.left)->top (pop S)
 |[],_=>trivial
 |g::r,h=>by
  unfold pop;by_cases hg:g.left=0
  ·simp only[hg,Uk,Ui];exact Vwp λf hf=>h f (by simp[hf])
  ·simp only[hg,Ul,Uj];have:=h g (by simp);show 0<g.left;omega
theorem Vay{x:Ja}{n d:Nat}{key:Bool}{before:Ua}(h:chk x n d key before=0):adm x.kind n d key=0/\bad x=false/\big x=false/\acc x key before=0:=by
 unfold chk at h;by_cases h1:adm x.kind n d key=0
 ·rw[show decide (adm x.kind n d key=0)=true by simpa using h1]at h;cases h2:bad x
  ·rw[h2]at h;cases h3:big x
   ·rw[h3]at h;exact⟨h1,rfl,rfl,h⟩
   ·rw[h3]at h;simp at h
  ·rw[h2]at h;simp at h
 ·rw[show decide (adm x.kind n d key=0)=false by simpa using h1]at h;exact absurd h h1
theorem Vbo{k:Int}{n d:Nat}{key:Bool}(h:adm k n d key=0):n<512/\1<=k/\k<=8/\(key=true->isK k=true)/\d<=8:=by
 unfold adm at h;by_cases h1:512<=n
 ·rw[show decide (512<=n)=true by simpa using h1]at h;simp at h
 ·rw[show decide (512<=n)=false by simpa using h1]at h;cases h2:(!(decide (1<=k)&&decide (k<=8))||(key&&!isK k))
  ·rw[h2]at h;simp only[Qj,Qx,Qy,Uq,Qan]at h2;by_cases h3:8<d
   ·rw[show decide (8<d)=true by simpa using h3]at h;simp at h
   ·refine⟨by omega,h2.1.1,h2.1.2,λhk=>?_,by omega⟩;rcases h2.2 with q|q
    ·rw[hk]at q;cases q
    ·exact q
  ·rw[h2]at h;simp at h
theorem Vg1a{S:List Jc}{x:Ja}(h:WS S)(hd:S.length<=8)(hx:isN x.kind=true->x.number.toNat<=512):WS (nxt x S):=by
 obtain⟨h1,h2,h3⟩:=h;have hm:(∀f∈mrk x S,0<=f.left/\f.left<=1024)/\top (mrk x S)/\(mrk x S).length=S.length:=by
  unfold mrk;cases atK S
  ·exact⟨h1,h2,rfl⟩
  ·cases S with
   |nil=>exact⟨h1,h2,rfl⟩
   |cons f r=>
    refine⟨?_,h2,rfl⟩;intro g hg;rcases List.mem_cons.1 hg with rfl|hg
    ·exact h1 f (by simp)
    ·exact h1 g (by simp[hg])
 unfold nxt;generalize mrk x S=M at hm |-;obtain⟨m1,m2,m3⟩:=hm;have hdc:(∀f∈dcr M,0<=f.left/\f.left<=1024)/\(dcr M).length=S.length:=by
  cases M with
  |nil=>exact⟨m1,m3⟩
  |cons f r=>
   refine⟨?_,m3⟩;intro g hg;rcases List.mem_cons.1 hg with rfl|hg
   ·have:=m1 f (by simp);have h0:0<f.left:=m2;dsimp only;omega
   ·exact m1 g (by simp[hg])
 have hp : (∀f∈psh x (dcr M), 0<=f.left/\f.left<=1024)/\(psh x (dcr M)).length<=9 := by
  unfold psh;by_cases h0:0<x.number.toNat
  ·rw[show decide (0<x.number.toNat)=true by simpa using h0];by_cases h5:x.kind=5
   ·have:=hx (by simp[isN,h5]);rw[show decide (x.kind=5)=true by simpa using h5];refine⟨?_,by simp[hdc.2];omega⟩;intro g hg;rcases List.mem_cons.1 hg with rfl|hg
    ·dsimp only;omega
    ·exact hdc.1 g hg
   ·rw[show decide (x.kind=5)=false by simpa using h5];by_cases h6:x.kind=6
    ·have:=hx (by simp[isN,h6]);rw[show decide (x.kind=6)=true by simpa using h6];refine⟨?_,by simp[hdc.2];omega⟩;intro g hg;rcases List.mem_cons.1 hg with rfl|hg
     ·dsimp only;omega
     ·exact hdc.1 g hg
    ·rw[show decide (x.kind=6)=false by simpa using h6];exact⟨hdc.1,by simp[hdc.2];omega⟩
  ·rw[show decide (0<x.number.toNat)=false by simpa using h0];exact⟨hdc.1,by simp[hdc.2];omega⟩
 exact⟨λf hf=>hp.1 f (Vwn hf),Vwp λf hf=>(hp.1 f hf).1,Qad (Vwo _) hp.2⟩
theorem Vb9{x:Ja}(h:big x=false):x.data.length<=1024/\(isN x.kind=true->x.number.toNat<=512):=by
 unfold big at h;simp only[Qj,decide_eq_false_iff_not,Qan]at h;refine⟨by omega,λhk=>?_⟩;rcases h.2 with q|q
 ·rw[hk]at q;cases q
 ·omega
theorem Vcna{S:List Jc}{x:Ja}{n:Nat}(h:WS S)(hc:chk x n S.length (atK S) (lst S)=0):WS (nxt x S):=by
 obtain⟨c1,c2,c3,c4⟩:=Vay hc;exact Vg1a h (Vbo c1).2.2.2.2 (Vb9 c3).2
def valE(m:Int×List Ja×List Ja):Int:=bif !decide (m.1=0) then m.1 else bif m.2.2.isEmpty then 0 else 2
def valO(l:List Ja):Int:=valE (mach getL 600 [] 0 l)
theorem Vcw(l:List Ja)(hl:l.length<1000000)(hd:∀x∈l,x.data.length<100000):Zik l=some ((),valO l,()):=by
  have key:∀(r:List Ja) (S:List Jc) (n f fuel:Nat),l.drop n=r->n<=l.length->WS S->r.length<f->600<=fuel+n->0<fuel ->
      (iter (λ(y:(((List (Jc))×Int×Unit)×(List (Ja))×Int×Int×Unit))=>Zik_L0b y.1 y.2.1 y.2.2.1 y.2.2.2.1) f ((S.reverse,(n:Int),()),l,(l.length:Int),(n:Int),())).bind (Sum.elim (λ(z3:(Int×Unit))=>(some ((),(z3.1,())))) (λ(z4:(((List (Jc))×Int×Unit)×Unit))=>((Zie (⟨z4.1.1,z4.1.2.1⟩:Jx)).bind λr5=>(bif (!r5.2.1) then (some ((),((1:Int),()))) else (some ((),((0:Int),())))))))=some ((),valE (mach getL fuel S n r),()):=by
    intro r;induction r with
    | nil=>
      intro S n f fuel hr hn hS hf hfu hfu0;have hnl:n=l.length:=by
        have:=congrArg List.length hr;simp at this;omega
      obtain⟨f,rfl⟩:∃g,f=g+1:=⟨f-1,by omega⟩;obtain⟨fuel,rfl⟩:∃g,fuel=g+1:=⟨fuel-1,by omega⟩;rw[Vac];have e1:Zik_L0b (S.reverse,(n:Int),()) l (l.length:Int) (n:Int)=some (.inr (.inr ((S.reverse,(n:Int),()),()))):=by
        unfold Zik_L0b;rw[show decide ((n:Int)<(l.length:Int))=false by simp;omega];rfl
      dsimp only;rw[e1,bindS,Qam,bindS,Qam];dsimp only;rw[Von,bindS];dsimp only;cases hS2:(decide (0<n)&&S.isEmpty)
      · rw[Vds hS2 (show getL n S.length (atK S) (lst S) []=(1,default,[]) from rfl) (by decide)]
        rfl
      · simp only[Qy,Uq,Qaf]at hS2
        obtain⟨q1,rfl⟩:=hS2;rw[Vfz q1];rfl
    | cons x r ih=>
      intro S n f fuel hr hn hS hf hfu hfu0;have hnl:n<l.length:=by
        have:=congrArg List.length hr;simp at this;omega
      have hx:l[n]? = some x:=by
        have:=congrArg (·[0]?) hr;simpa using this
      have hr2:l.drop (n+1)=r:=by
        have:=congrArg (List.drop 1) hr;simpa[Qay]using this
      obtain⟨f,rfl⟩:∃g,f=g+1:=⟨f-1,by omega⟩;obtain⟨fuel,rfl⟩:∃g,fuel=g+1:=⟨fuel-1,by omega⟩;rw[Vac];have hit:=Veja S n x (hd x (Qu hx)) (by have:=hS.2.2;omega) (by omega) (λg hg=>by have:=hS.1 g hg;omega);have eg:getI l (n:Int)=some x:=by unfold getI;simp[hx]
      have e1:Zik_L0b (S.reverse,(n:Int),()) l (l.length:Int) (n:Int)=(bif (!decide ((res S (nxt x S) n (bif decide (0<n)&&S.isEmpty then 2 else chk x n S.length (atK S) (lst S))).2.1=(0:Int))) then (some (Sum.inr (Qap ((res S (nxt x S) n (bif decide (0<n)&&S.isEmpty then 2 else chk x n S.length (atK S) (lst S))).2.1,()))))
 else (some (Qap (((res S (nxt x S) n (bif decide (0<n)&&S.isEmpty then 2 else chk x n S.length (atK S) (lst S))).1.1.1,(res S (nxt x S) n (bif decide (0<n)&&S.isEmpty then 2 else chk x n S.length (atK S) (lst S))).1.1.2.1,()),l,(l.length:Int),(n:Int)+1,())))):=by
        unfold Zik_L0b;rw[show decide ((n:Int)<(l.length:Int))=true by simp;omega,eg,wI ((n:Int)+1) (by omega)];simp only[Ui,bindS];rw[hit];simp only[bindS]
      dsimp only;rw[e1];cases hS2:(decide (0<n)&&S.isEmpty)
      · simp only[Uj]
        by_cases hc:chk x n S.length (atK S) (lst S)=0
        · have em:mach getL (fuel+1) S n (x :: r)=_:=Vb8 hS2 (show getL n S.length (atK S) (lst S) (x :: r)=(0,x,r) by simp[getL,hc])
          rw[em];have hn512:=(Vbo (Vay hc).1).1;have:=ih (nxt x S) (n+1) f fuel hr2 (by omega) (Vcna hS hc) (by simp at hf;omega) (by omega) (by omega);unfold res;rw[hc];simp only[Uk,Ui,Qf,Uj,bindS,Qr];rw[show ((n:Int)+1)=((n+1:Nat):Int) by omega];exact this
        · rw[Vds hS2 (show getL n S.length (atK S) (lst S) (x :: r)=(chk x n S.length (atK S) (lst S),x,r) from rfl) hc]
          unfold res valE;simp[hc]
      · simp only[Ui]
        have hS3:=hS2;simp only[Qy,Uq,Qaf]at hS3;obtain⟨q1,rfl⟩:=hS3;rw[Vfz q1];rfl
  unfold Zik Zik_L0 valO Yi4;exact key l [] 0 rounds 600 (by simp) (by simp) ⟨by simp,trivial,by simp⟩ (by rw[Vaa];omega) (by omega) (by omega)
abbrev Res(σ:Type):=Int×List Ja×σ
def LA{σ:Type}(rec:σ->Nat->Res σ):Nat->σ->Nat->Res σ
 |0,s,_=>(0,[],s)
 |k+1,s,n=>bif decide ((rec s n).1=0) then ((LA rec k (rec s n).2.2 (n+(rec s n).2.1.length)).1,(rec s n).2.1++(LA rec k (rec s n).2.2 (n+(rec s n).2.1.length)).2.1,(LA rec k (rec s n).2.2 (n+(rec s n).2.1.length)).2.2) else ((rec s n).1,[],s)
def LM{σ:Type}(recK:σ->Nat->Ua->Res σ)(recV:σ->Nat->Res σ):Nat->σ->Nat->Ua->Res σ
 |0,s,_,_=>(0,[],s)
 |k+1,s,n,last=>
  let a:=recK s n last
  bif decide (a.1=0) then
   let b:=recV a.2.2 (n+a.2.1.length)
   bif decide (b.1=0) then
    let q:=LM recK recV k b.2.2 (n+a.2.1.length+b.2.1.length) (enc (a.2.1.headD default))
    (q.1,a.2.1++(b.2.1++q.2.1),q.2.2)
   else (b.1,[],s)
  else (a.1,[],s)
def W{σ:Type}(get:Nat->Nat->Bool->Ua->σ->Int×Ja×σ):Nat->σ->Nat->Nat->Bool->Ua->Res σ
 |0,s,_,_,_,_=>(99,[],s)
 |f+1,s,n,d,key,before=>
  let g:=get n d key before s
  bif decide (g.1=0) then
   let q:=bif decide (g.2.1.kind=5) then LA (λs n=>W get f s n (d+1) false []) g.2.1.number.toNat g.2.2 (n+1)
    else bif decide (g.2.1.kind=6) then LM (λs n last=>W get f s n (d+1) true last) (λs n=>W get f s n (d+1) false []) g.2.1.number.toNat g.2.2 (n+1) []
    else (0,[],g.2.2)
   (q.1,g.2.1::q.2.1,q.2.2)
  else (g.1,[],s)
structure GetOk{σ:Type}(get:Nat->Nat->Bool->Ua->σ->Int×Ja×σ):Prop where
 small:∀ {n d:Nat} {k:Bool} {b:Ua} {s:σ} {x:Ja} {t:σ},get n d k b s=(0,x,t)->n<512/\d<=8/\(isN x.kind=true->x.number.toNat<=512)
 free:∀(n d:Nat) (b b':Ua) (s:σ),get n d false b s=get n d false b' s
def Goes{σ:Type}(get:Nat->Nat->Bool->Ua->σ->Int×Ja×σ)(m:Nat)(S:List Jc)(n:Nat)(s:σ)(w:Res σ)(T:List Jc):Prop:=
 (w.1≠0->(mach get m S n s).1=w.1) /\
 (w.1=0->n+w.2.1.length<=512/\mach get m S n s=((mach get (m-w.2.1.length) T (n+w.2.1.length) w.2.2).1,w.2.1++(mach get (m-w.2.1.length) T (n+w.2.1.length) w.2.2).2.1,(mach get (m-w.2.1.length) T (n+w.2.1.length) w.2.2).2.2))
theorem Goes.trans{σ:Type}{get:Nat->Nat->Bool->Ua->σ->Int×Ja×σ}{m n:Nat}{S T U:List Jc}{s:σ}{a b:Res σ}(h1:Goes get m S n s a T)(ha:a.1=0)(h2:Goes get (m-a.2.1.length) T (n+a.2.1.length) a.2.2 b U):Goes get m S n s (b.1,a.2.1++b.2.1,b.2.2) U:=by
 obtain⟨_,h1⟩:=h1;obtain⟨i1,i2⟩:=h1 ha;refine⟨λhb=>?_,λhb=>?_⟩
 ·rw[i2];exact h2.1 hb
 ·obtain⟨j1,j2⟩:=h2.2 hb;dsimp only at *;refine⟨by rw[Qa];omega,?_⟩;rw[i2,j2,Qa,Nat.sub_sub,Qaj,Qc]
theorem Goes.fail{σ:Type}{get:Nat->Nat->Bool->Ua->σ->Int×Ja×σ}{m n:Nat}{S T U:List Jc}{s:σ}{a:Res σ}{e:Int}{o:List Ja}{t:σ}(h1:Goes get m S n s a T)(ha:a.1≠0)(he:e=a.1):Goes get m S n s (e,o,t) U:=by
 subst he;exact⟨λ_=>h1.1 ha,λh=>absurd h ha⟩
theorem Goes.fail2{σ:Type}{get:Nat->Nat->Bool->Ua->σ->Int×Ja×σ}{m n:Nat}{S T U V:List Jc}{s:σ}{a b:Res σ}{o:List Ja}{t:σ}(h1:Goes get m S n s a T)(ha:a.1=0)(h2:Goes get (m-a.2.1.length) T (n+a.2.1.length) a.2.2 b U)(hb:b.1≠0):Goes get m S n s (b.1,o,t) V:=by
 obtain⟨i1,i2⟩:=h1.2 ha;refine⟨λ_=>?_,λh=>absurd h hb⟩;rw[i2];exact h2.1 hb
theorem Goes.nil{σ:Type}{get:Nat->Nat->Bool->Ua->σ->Int×Ja×σ}{m n:Nat}{S:List Jc}{s:σ}(hn:n<=512):Goes get m S n s (0,[],s) S:=
 ⟨λh=>absurd rfl h,λ_=>⟨by simpa using hn,by simp⟩⟩
theorem W_ne{σ:Type}{get:Nat->Nat->Bool->Ua->σ->Int×Ja×σ}{f:Nat}{s:σ}{n d:Nat}{key:Bool}{b:Ua}(h:(W get f s n d key b).1=0):∃x r,(W get f s n d key b).2.1=x::r:=by
 cases f with
 |zero=>simp[W]at h
 |succ f=>
  unfold W at h |-;dsimp only at h |-;by_cases hg:(get n d key b s).1=0
  ·rw[show decide ((get n d key b s).1=0)=true by simpa using hg];exact⟨_,_,rfl⟩
  ·rw[show decide ((get n d key b s).1=0)=false by simpa using hg]at h;exact absurd h hg
theorem tmod2(j:Nat):Qaz (2*((j+1:Nat):Int)) 2=0/\Qaz (2*((j+1:Nat):Int)-1) 2=1:=by
 constructor
 ·rw[show (2*((j+1:Nat):Int))=((2*(j+1):Nat):Int) by omega];show (((2*(j+1)) % 2:Nat):Int)=0;omega
 ·rw[show (2*((j+1:Nat):Int)-1)=((2*j+1:Nat):Int) by omega];show (((2*j+1) % 2:Nat):Int)=1;omega
theorem Vcoa{σ : Type}{get : Nat->Nat->Bool->Ua->σ->Int×Ja×σ}(G : GetOk get) : ∀(f : Nat) (S : List Jc) (n m : Nat) (s : σ), WS S->(S=[]->n=0)->10<=f+S.length->600<=m+n->n<=512 ->
  Goes get m S n s (W get f s n S.length (atK S) (lst S)) (pop (dcr (mrk ((W get f s n S.length (atK S) (lst S)).2.1.headD default) S)))
 |0,S,n,m,s,hS,_,hf,_,_=>by have:=hS.2.2;omega
 |f+1, S, n, m, s, hS, hS0, hf, hm, hn => by
  have ih:=Vcoa G f;have hSe:(decide (0<n)&&S.isEmpty)=false:=by
   cases S with
   |nil=>rw[hS0 rfl];rfl
   |cons _ _=>simp
  obtain⟨m,rfl⟩:∃q,m=q+1:=⟨m-1,by omega⟩;unfold W;dsimp only;rcases hg:get n S.length (atK S) (lst S) s with⟨e,x,t⟩;dsimp only;by_cases he:e=0
  ·subst he;simp only[Uk,Ui,Qau];obtain⟨g1,g2,g3⟩:=G.small hg;have hstep:=Vb8 (f:=m) hSe hg;have hM:(∀f∈dcr (mrk x S),0<=f.left/\f.left<=1024)/\(dcr (mrk x S)).length=S.length:=by
    cases S with
    |nil=>exact⟨by simp[mrk,atK,dcr],rfl⟩
    |cons f r=>
     have h0:0<f.left:=hS.2.1;have h1:=hS.1 f (by simp);have h2:∀g∈r,0<=g.left/\g.left<=1024:=λg hg=>hS.1 g (by simp[hg]);unfold mrk;cases atK (f::r)
     ·refine⟨?_,rfl⟩;intro g hg;rcases List.mem_cons.1 hg with rfl|hg
      ·dsimp only;omega
      ·exact h2 g hg
     ·refine⟨?_,rfl⟩;intro g hg;rcases List.mem_cons.1 hg with rfl|hg
      ·dsimp only;omega
      ·exact h2 g hg
   generalize hD:dcr (mrk x S)=D at hM;obtain⟨D1,D2⟩:=hM;have hnx:nxt x S=pop (psh x D):=by unfold nxt;rw[hD]
   rw[hnx]at hstep
   -- the first item is taken
   have h1:Goes get (m+1) S n s (0,[x],t) (pop (psh x D)):=⟨λh=>absurd rfl h,λ_=>⟨by simp;omega,by
    dsimp only;rw[hstep];rfl⟩⟩
   -- a frame over D
   have wsF:∀(p:Bool) (j:Int) (l:Ua),0<j->j<=1024->WS (⟨p,j,l⟩::D):=λp j l hj hj2=>⟨λg hg=>by
    rcases List.mem_cons.1 hg with rfl|hg
    ·dsimp only;omega
    ·exact D1 g hg,hj,by simp[D2];omega⟩
   have popF:∀(p:Bool) (j:Int) (l:Ua),j≠0->pop (⟨p,j,l⟩::D)=⟨p,j,l⟩::D:=λp j l hj=>by
    conv=>lhs;unfold pop
    simp[hj]
   have popZ:∀(p:Bool) (l:Ua),pop (⟨p,0,l⟩::D)=pop D:=λp l=>by
    conv=>lhs;unfold pop
    simp
   have fin:∀q:Res σ,Goes get m (pop (psh x D)) (n+1) t q (pop D)->Goes get (m+1) S n s (q.1,x::q.2.1,q.2.2) (pop D):=λq hq=>h1.trans rfl hq;refine fin _ ?_;by_cases hk0:0<x.number.toNat
   ·by_cases h5 : x.kind=5
    ·have hk := g3 (by simp[isN, h5]);have hp:pop (psh x D)=⟨false,(x.number.toNat:Int),[]⟩::D:=by
      unfold psh;simp only[h5,hk0,Uk,Ui];exact popF _ _ _ (by omega)
     rw[hp];simp only[h5,Uk,Ui];have loop:∀(k:Nat) (s:σ) (n m:Nat),0<k->k<=512->600<=m+n->0<n->n<=512->Goes get m (⟨false,(k:Int),[]⟩::D) n s (LA (λs n=>W get f s n (S.length+1) false []) k s n) (pop D):=by
      intro k;induction k with
      |zero=>intro s n m h;omega
      |succ k ihk=>
       intro s n m _ hk2 hm2 hn0 hn2;have hr:=ih (⟨false,((k+1:Nat):Int),[]⟩::D) n m s (wsF _ _ _ (by omega) (by omega)) (by simp) (by simp[D2];omega) hm2 hn2;have ea:atK (⟨false,((k+1:Nat):Int),[]⟩::D)=false:=rfl;have el:(⟨false,((k+1:Nat):Int),[]⟩::D:List Jc).length=S.length+1:=by simp[D2]
       have elst:lst (⟨false,((k+1:Nat):Int),[]⟩::D)=[]:=rfl;have em:∀y,pop (dcr (mrk y (⟨false,((k+1:Nat):Int),[]⟩::D)))=pop (⟨false,(k:Int),[]⟩::D):=λy=>by
        unfold mrk;rw[ea];show pop (⟨false,((k+1:Nat):Int)-1,[]⟩::D)=_;rw[show ((k+1:Nat):Int)-1=(k:Int) by omega]
       rw[ea,el,elst,em]at hr;unfold LA;generalize hw:W get f s n (S.length+1) false []=w at hr;by_cases hw0:w.1=0
       ·rw[show decide (w.1=0)=true by simpa using hw0];simp only[Ui];obtain⟨i1,i2⟩:=hr.2 hw0;obtain⟨y,r,hy⟩:=W_ne (get:=get) (f:=f) (s:=s) (n:=n) (d:=S.length+1) (key:=false) (b:=[]) (by rw[hw];exact hw0);rw[hw]at hy;have hl1:1<=w.2.1.length:=by rw[hy];simp
        refine hr.trans hw0 ?_;by_cases hk1:0<k
        ·rw[popF _ _ _ (by omega)];exact ihk w.2.2 (n+w.2.1.length) (m-w.2.1.length) hk1 (by omega) (by omega) (by omega) (by omega)
        ·have:k=0:=by omega
         subst this;rw[show ((0:Nat):Int)=0 from rfl,popZ];exact Goes.nil (by omega)
       ·rw[show decide (w.1=0)=false by simpa using hw0];exact hr.fail hw0 rfl
     exact loop _ t (n+1) m hk0 hk (by omega) (by omega) (by omega)
    ·by_cases h6 : x.kind=6
     ·have hk := g3 (by simp[isN, h6]);have hp:pop (psh x D)=⟨true,2*(x.number.toNat:Int),[]⟩::D:=by
       unfold psh;simp only[h6,hk0,Uk,Ui,Int.reduceEq,Ul,Uj];exact popF _ _ _ (by omega)
      rw[hp];simp only[h6,Uk,Ui,Int.reduceEq,Ul,Uj];have loop : ∀(k : Nat) (s : σ) (n m : Nat) (l : Ua), 0<k->k<=512->600<=m+n->0<n->n<=512->Goes get m (⟨true, 2*(k : Int), l⟩::D) n s (LM (λs n last => W get f s n (S.length+1) true last) (λs n => W get f s n (S.length+1) false []) k s n l) (pop D) := by
       intro k;induction k with
       |zero=>intro s n m l h;omega
       |succ k ihk=>
        intro s n m l _ hk2 hm2 hn0 hn2;obtain⟨t0,t1⟩:=tmod2 k
        -- the key
        have hr:=ih (⟨true,2*((k+1:Nat):Int),l⟩::D) n m s (wsF _ _ _ (by omega) (by omega)) (by simp) (by simp[D2];omega) hm2 hn2;have ea:atK (⟨true,2*((k+1:Nat):Int),l⟩::D)=true:=by simp only[atK,t0];rfl
        have el:∀g:Jc,(g::D).length=S.length+1:=λg=>by simp[D2]
        have elst:lst (⟨true,2*((k+1:Nat):Int),l⟩::D)=l:=rfl;have em:∀y,pop (dcr (mrk y (⟨true,2*((k+1:Nat):Int),l⟩::D)))=⟨true,2*((k+1:Nat):Int)-1,enc y⟩::D:=λy=>by
         unfold mrk;rw[ea];exact popF true (2*((k+1:Nat):Int)-1) (enc y) (by omega)
        rw[ea,el,elst,em]at hr;unfold LM;dsimp only;generalize hw:W get f s n (S.length+1) true l=w at hr;by_cases hw0:w.1=0
        ·rw[show decide (w.1=0)=true by simpa using hw0];simp only[Ui];obtain⟨i1,i2⟩:=hr.2 hw0;obtain⟨y,r,hy⟩:=W_ne (get:=get) (f:=f) (s:=s) (n:=n) (d:=S.length+1) (key:=true) (b:=l) (by rw[hw];exact hw0);rw[hw]at hy;have hl1:1<=w.2.1.length:=by rw[hy];simp
         generalize hky:enc (w.2.1.headD default)=ky at hr
         -- the value
         have hv:=ih (⟨true,2*((k+1:Nat):Int)-1,ky⟩::D) (n+w.2.1.length) (m-w.2.1.length) w.2.2 (wsF _ _ _ (by omega) (by omega)) (by simp) (by simp[D2];omega) (by omega) (by omega);have eb:atK (⟨true,2*((k+1:Nat):Int)-1,ky⟩::D)=false:=by simp only[atK,t1];rfl
         have eWf:∀(s:σ) (n:Nat) (b:Ua),W get f s n (S.length+1) false b=W get f s n (S.length+1) false []:=λs n b=>by
          cases f with
          |zero=>rfl
          |succ f=>
           unfold W;rw[G.free n (S.length+1) b []]
         have em2:∀y,pop (dcr (mrk y (⟨true,2*((k+1:Nat):Int)-1,ky⟩::D)))=pop (⟨true,2*(k:Int),ky⟩::D):=λy=>by
          unfold mrk;rw[eb];show pop (⟨true,2*((k+1:Nat):Int)-1-1,ky⟩::D)=_;rw[show 2*((k+1:Nat):Int)-1-1=2*(k:Int) by omega]
         rw[eb,el,eWf,em2]at hv;generalize hw2:W get f w.2.2 (n+w.2.1.length) (S.length+1) false []=v at hv;by_cases hv0:v.1=0
         ·rw[show decide (v.1=0)=true by simpa using hv0];simp only[Ui];obtain⟨p1,p2⟩:=hv.2 hv0;refine hr.trans hw0 (hv.trans hv0 ?_);by_cases hk1:0<k
          ·rw[popF _ _ _ (by omega)];exact ihk v.2.2 (n+w.2.1.length+v.2.1.length) (m-w.2.1.length-v.2.1.length) ky hk1 (by omega) (by omega) (by omega) (by omega)
          ·have:k=0:=by omega
           subst this;rw[show (2*((0:Nat):Int))=0 from rfl,popZ];exact Goes.nil (by omega)
         ·rw[show decide (v.1=0)=false by simpa using hv0];exact hr.fail2 hw0 hv hv0
        ·rw[show decide (w.1=0)=false by simpa using hw0];exact hr.fail hw0 rfl
      exact loop _ t (n+1) m [] hk0 hk (by omega) (by omega) (by omega)
     ·have hp:psh x D=D:=by
       unfold psh;simp only[h5,h6,Ul,Uj];cases decide (0<x.number.toNat)<;>rfl
      rw[hp];simp only[h5,h6,Ul,Uj];exact Goes.nil (by omega)
   ·have hk1:x.number.toNat=0:=by omega
    have hp:psh x D=D:=by
     unfold psh;simp[hk1]
    rw[hp,hk1];have:(bif decide (x.kind=5) then LA (λs n=>W get f s n (S.length+1) false []) 0 t (n+1) else bif decide (x.kind=6) then LM (λs n last=>W get f s n (S.length+1) true last) (λs n=>W get f s n (S.length+1) false []) 0 t (n+1) [] else ((0:Int),([]:List Ja),t))=(0,[],t):=by
     cases decide (x.kind=5)<;>cases decide (x.kind=6)<;>rfl
    rw[this];exact Goes.nil (by omega)
  ·rw[show decide (e=0)=false by simpa using he];simp only[Uj];refine⟨λ_=>?_,λh=>absurd h he⟩;rw[Vds hSe hg he]
theorem Vm7{σ:Type}{get:Nat->Nat->Bool->Ua->σ->Int×Ja×σ}(G:GetOk get)(f:Nat)(hf:10<=f)(s:σ):((W get f s 0 0 false []).1≠0->(mach get 600 [] 0 s).1=(W get f s 0 0 false []).1)/\((W get f s 0 0 false []).1=0->mach get 600 [] 0 s=W get f s 0 0 false []):=by
 have h:=Vcoa G f [] 0 600 s ⟨by simp,trivial,by simp⟩ (λ_=>rfl) (by simpa using hf) (by omega) (by omega);refine⟨λhw=>h.1 hw,λhw=>?_⟩;obtain⟨h1,h2⟩:=h.2 hw;obtain⟨x,r,hx⟩:=W_ne hw;have:mach get 600 [] 0 s=_:=h2;rw[this];have e:pop (dcr (mrk ((W get f s 0 ([]:List Jc).length (atK []) (lst [])).2.1.headD default) []))=[]:=rfl;rw[e];have hl:0<(W get f s 0 0 false []).2.1.length:=by rw[hx];simp
 have hl2:0+(W get f s 0 0 false []).2.1.length<=512:=h1;show (_,_,_)=_;have hd:=Vfz (get:=get) (f:=600-(W get f s 0 0 false []).2.1.length-1) (n:=0+(W get f s 0 0 false []).2.1.length) (s:=(W get f s 0 0 false []).2.2) (by omega);rw[show 600-(W get f s 0 0 false []).2.1.length-1+1=600-(W get f s 0 0 false []).2.1.length by omega]at hd;have e2:(W get f s 0 ([]:List Jc).length (atK []) (lst []))=W get f s 0 0 false []:=rfl;rw[e2,hd];simp only[Qp];rw[<-hw]
theorem Vli:GetOk getL:=by
 constructor
 ·intro n d k b s x t h;cases s with
  |nil=>simp[getL]at h
  |cons y r=>
   simp only[getL,Qe]at h;obtain⟨h1,rfl,rfl⟩:=h;obtain⟨c1,c2,c3,c4⟩:=Vay h1;exact⟨(Vbo c1).1,(Vbo c1).2.2.2.2,(Vb9 c3).2⟩
 ·intro n d b b' s;cases s with
  |nil=>rfl
  |cons y r=>
   have:chk y n d false b=chk y n d false b':=by unfold chk acc;simp
   simp[getL,this]
theorem Vig:∀(f:Nat) (s:List Ja) (n d:Nat) (key:Bool) (b:Ua),(W getL f s n d key b).1=0->s=(W getL f s n d key b).2.1++(W getL f s n d key b).2.2
 |0,s,n,d,key,b,h=>by simp[W]at h
 |f+1, s, n, d, key, b, h => by
  have ih:=Vig f;unfold W at h |-;dsimp only at h |-;rcases hg:getL n d key b s with⟨e,x,t⟩;rw[hg]at h;dsimp only at h |-;by_cases he:e=0
  ·subst he;simp only[Uk,Ui]at h |-;have hs:s=x::t:=by
    cases s with
    |nil=>simp[getL]at hg
    |cons y r=>
     simp only[getL,Qe]at hg;rw[hg.2.1,hg.2.2]
   rw[hs,Qw];congr 1;by_cases h5:x.kind=5
   ·simp only[h5,Uk,Ui]at h |-;have loop:∀(k:Nat) (t:List Ja) (n:Nat),(LA (λs n=>W getL f s n (d+1) false []) k t n).1=0->t=(LA (λs n=>W getL f s n (d+1) false []) k t n).2.1++(LA (λs n=>W getL f s n (d+1) false []) k t n).2.2:=by
     intro k;induction k with
     |zero=>intro t n _;rfl
     |succ k ihk=>
      intro t n h;unfold LA at h |-;have i1:=ih t n (d+1) false [];generalize W getL f t n (d+1) false []=w at h i1 |-;by_cases hw:w.1=0
      ·rw[show decide (w.1=0)=true by simpa using hw]at h |-;simp only[Ui]at h |-;rw[Qc,<-ihk _ _ h];exact i1 hw
      ·rw[show decide (w.1=0)=false by simpa using hw]at h;exact absurd h hw
    exact loop _ _ _ h
   ·by_cases h6:x.kind=6
    ·simp only[h6,Uk,Ui,Int.reduceEq,Ul,Uj]at h |-;have loop:∀(k:Nat) (t:List Ja) (n:Nat) (l:Ua),(LM (λs n last=>W getL f s n (d+1) true last) (λs n=>W getL f s n (d+1) false []) k t n l).1=0->t=(LM (λs n last=>W getL f s n (d+1) true last) (λs n=>W getL f s n (d+1) false []) k t n l).2.1++(LM (λs n last=>W getL f s n (d+1) true last) (λs n=>W getL f s n (d+1) false []) k t n l).2.2:=by
      intro k;induction k with
      |zero=>intro t n l _;rfl
      |succ k ihk=>
       intro t n l h;unfold LM at h |-;dsimp only at h |-;have i1:=ih t n (d+1) true l;generalize W getL f t n (d+1) true l=w at h i1 |-;by_cases hw:w.1=0
       ·rw[show decide (w.1=0)=true by simpa using hw]at h |-;simp only[Ui]at h |-;have i2:=ih w.2.2 (n+w.2.1.length) (d+1) false [];generalize W getL f w.2.2 (n+w.2.1.length) (d+1) false []=v at h i2 |-;by_cases hv:v.1=0
        ·rw[show decide (v.1=0)=true by simpa using hv]at h |-;simp only[Ui]at h |-;rw[Qc,Qc,<-ihk _ _ _ h,<-i2 hv];exact i1 hw
        ·rw[show decide (v.1=0)=false by simpa using hv]at h;exact absurd h hv
       ·rw[show decide (w.1=0)=false by simpa using hw]at h;exact absurd h hw
     exact loop _ _ _ _ h
    ·simp only[h5,h6,Ul,Uj];rfl
  ·rw[show decide (e=0)=false by simpa using he]at h;exact absurd h he
def Zr(w:Res (List Ja))(n:Nat)(z:(Int×Int×Unit)⊕(Int×Unit)):Prop:=(w.1=0->z=.inr (((n+w.2.1.length:Nat):Int),()))/\(w.1≠0->∃j,z=.inl (j,w.1,()))
theorem Vop{l a b:List Ja}{n:Nat}(h:l.drop n=a++b):l.drop (n+a.length)=b:=by
 rw[<-Qay,h];simp
theorem Vwq(l:List Ja)(hl:l.length<1000000)(hd:∀x∈l,x.data.length<100000):∀(f n d:Nat) (key:Bool) (b:Ua),n<=l.length->d<=9->10<=f+d ->
  ∃j:Int,passkeyref1_walk_n f l (n:Int) (d:Int) key b=some ((),j,(W getL f (l.drop n) n d key b).1,())/\((W getL f (l.drop n) n d key b).1=0->j=((n+(W getL f (l.drop n) n d key b).2.1.length:Nat):Int))
 |0,n,d,key,b,hn,hd9,hf=>by omega
 |f+1, n, d, key, b, hn, hd9, hf => by
  have ih:=Vwq l hl hd f;show ∃j:Int,passkeyref1_walk_R (passkeyref1_walk_n f) l (n:Int) (d:Int) key b=_/\_;unfold passkeyref1_walk_R;unfold W;dsimp only;by_cases hnl:n=l.length
  ·rw[show decide ((l.length:Int)<=(n:Int))=true by simp;omega,show l.drop n=[] by simp[hnl]];exact⟨n,rfl,λh=>by simp[getL]at h⟩
  ·have hlt:n<l.length:=by omega
   rw[show decide ((l.length:Int)<=(n:Int))=false by simp;omega];obtain⟨x,hx⟩:∃x,l[n]? = some x:=⟨l[n],by simp[hlt]⟩;have hdr:l.drop n=x::l.drop (n+1):=by
    rw[List.drop_eq_getElem_cons hlt];congr 1;rw[List.getElem?_eq_getElem hlt]at hx;exact Option.some.inj hx
   have eg:getI l (n:Int)=some x:=by unfold getI;simp[hx]
   rw[hdr,eg];simp only[Uj,bindS,getL,Vz4 x n d key b (by have:=hd x (Qu hx);omega)];rw[wI ((n:Int)+1) (by omega)];by_cases hc:chk x n d key b=0
   ·simp only[hc,Uk,Qf,Uj,Ui];obtain⟨c1,c2,c3,c4⟩:=Vay hc;have hd8:=(Vbo c1).2.2.2.2;have hnum:=(Vb9 c3).2
    -- the loop
    have ed:Qi .i64 ((d:Int)+1)=((d+1:Nat):Int):=by
     rw[wI ((d:Int)+1) (by omega)];rfl
    have ebv:∀i:Nat,i<=2000->(Ql 64 i).toNat=i:=λi hi=>by
     rw[Qo,Qh (by omega)]
    have ebs:∀i:Nat,i<=1000->Ql 64 i+1#64=Ql 64 (i+1):=λi hi=>by
     apply Qt;rw[BitVec.toNat_add,ebv i (by omega),ebv (i+1) (by omega)];rw[show (1#64).toNat=1 from rfl,Qh (by omega)]
    have key2 : ∃z, passkeyref1_walk_L0 (passkeyref1_walk_n f) (l, (d : Int), (x, ()), (n : Int)+1, [], 0#64, ())=some z/\Zr (bif decide (x.kind=5) then LA (λs n => W getL f s n (d+1) false []) x.number.toNat (l.drop (n+1)) (n+1) else bif decide (x.kind=6) then LM (λs n last => W getL f s n (d+1) true last) (λs n => W getL f s n (d+1) false []) x.number.toNat (l.drop (n+1)) (n+1) [] else ((0 : Int), ([] : List Ja), l.drop (n+1))) (n+1) z := by
     unfold passkeyref1_walk_L0;rw[show ((n:Int)+1)=((n+1:Nat):Int) by omega,show (0#64)=Ql 64 0 from rfl];by_cases h5:x.kind=5
     ·have hk := hnum (by simp[isN, h5]);have loop:∀(k i m fuel:Nat) (last:Ua),i+k=x.number.toNat->m<=l.length->k<fuel->∃z,iter (λ(y:((List (Ja))×Int×(Ja×Unit)×Int×Ua×Ub×Unit))=>passkeyref1_walk_L0b (passkeyref1_walk_n f) y.1 y.2.1 y.2.2.1 y.2.2.2.1 y.2.2.2.2.1 y.2.2.2.2.2.1) fuel (l,(d:Int),(x,()),(m:Int),last,Ql 64 i,())=some z/\Zr (LA (λs n=>W getL f s n (d+1) false []) k (l.drop m) m) m z:=by
       intro k;induction k with
       |zero=>
        intro i m fuel last hi hm hfu;obtain⟨fuel,rfl⟩:∃g,fuel=g+1:=⟨fuel-1,by omega⟩;rw[Vac];refine⟨.inr ((m:Int),()),?_,λ_=>rfl,λh=>absurd rfl h⟩;dsimp only;unfold passkeyref1_walk_L0b;rw[ebv i (by omega),show decide (i<x.number.toNat)=false by simp;omega];rfl
       |succ k ihk=>
        intro i m fuel last hi hm hfu;obtain⟨fuel,rfl⟩:∃g,fuel=g+1:=⟨fuel-1,by omega⟩;rw[Vac];obtain⟨j,hj1,hj2⟩:=ih m (d+1) false [] hm (by omega) (by omega);have hwl:=λh=>Vig f (l.drop m) m (d+1) false [] h;have e1:passkeyref1_walk_L0b (passkeyref1_walk_n f) l (d:Int) (x,()) (m:Int) last (Ql 64 i)=(bif (!decide ((W getL f (l.drop m) m (d+1) false []).1=(0:Int))) then (some (Sum.inr (Qap (j,(W getL f (l.drop m) m (d+1) false []).1,())))) else (some (Qap (l,(d:Int),(x,()),j,last,(Ql 64 (i+1)),())))):=by
         unfold passkeyref1_walk_L0b;rw[ebv i (by omega),show decide (i<x.number.toNat)=true by simp;omega];simp only[h5,Uk,Ui,Int.reduceEq,Ul,Uj,bindS,Qr,ed,ebs i (by omega)];rw[hj1];simp only[bindS]
        dsimp only;rw[e1];unfold LA;generalize W getL f (l.drop m) m (d+1) false []=w at hj2 hwl |-;by_cases hw:w.1=0
        ·rw[show decide (w.1=0)=true by simpa using hw];simp only[Qf,Uj,Ui,bindS,Qr];rw[hj2 hw];have hdw:=Vop (hwl hw);have hle:m+w.2.1.length<=l.length:=by
          have:=congrArg List.length (hwl hw);simp at this;omega
         obtain⟨z,hz1,hz2,hz3⟩:=ihk (i+1) (m+w.2.1.length) fuel last (by omega) hle (by omega);rw[hdw]at hz2 hz3;refine⟨z,hz1,λh=>?_,λh=>hz3 h⟩;dsimp only at h |-;rw[hz2 h,Qa,Qaj]
        ·rw[show decide (w.1=0)=false by simpa using hw];exact⟨_,rfl,λh=>absurd h hw,λ_=>⟨_,rfl⟩⟩
      rw[show decide (x.kind=5)=true by simpa using h5];exact loop _ 0 (n+1) rounds [] (by omega) (by omega) (by rw[Vaa];omega)
     ·by_cases h6:x.kind=6
      ·have hk := hnum (by simp[isN, h6]);have loop:∀(k i m fuel:Nat) (last:Ua),i+k=x.number.toNat->m<=l.length->k<fuel->∃z,iter (λ(y:((List (Ja))×Int×(Ja×Unit)×Int×Ua×Ub×Unit))=>passkeyref1_walk_L0b (passkeyref1_walk_n f) y.1 y.2.1 y.2.2.1 y.2.2.2.1 y.2.2.2.2.1 y.2.2.2.2.2.1) fuel (l,(d:Int),(x,()),(m:Int),last,Ql 64 i,())=some z/\Zr (LM (λs n last=>W getL f s n (d+1) true last) (λs n=>W getL f s n (d+1) false []) k (l.drop m) m last) m z:=by
        intro k;induction k with
        |zero=>
         intro i m fuel last hi hm hfu;obtain⟨fuel,rfl⟩:∃g,fuel=g+1:=⟨fuel-1,by omega⟩;rw[Vac];refine⟨.inr ((m:Int),()),?_,λ_=>rfl,λh=>absurd rfl h⟩;dsimp only;unfold passkeyref1_walk_L0b;rw[ebv i (by omega),show decide (i<x.number.toNat)=false by simp;omega];rfl
        |succ k ihk=>
         intro i m fuel last hi hm hfu;obtain⟨fuel,rfl⟩:∃g,fuel=g+1:=⟨fuel-1,by omega⟩;rw[Vac];obtain⟨j,hj1,hj2⟩:=ih m (d+1) true last hm (by omega) (by omega);have hwl:=λh=>Vig f (l.drop m) m (d+1) true last h;have hwn:=λh=>W_ne (get:=getL) (f:=f) (s:=l.drop m) (n:=m) (d:=d+1) (key:=true) (b:=last) h;unfold LM;dsimp only;unfold passkeyref1_walk_L0b;rw[ebv i (by omega),show decide (i<x.number.toNat)=true by simp;omega];simp only[h6,Uk,Ui,Int.reduceEq,Ul,Uj,ed];rw[hj1];simp only[bindS];generalize W getL f (l.drop m) m (d+1) true last=w at hj2 hwl hwn |-;by_cases hw:w.1=0
         ·rw[show decide (w.1=0)=true by simpa using hw];obtain⟨y,r,hy⟩:=hwn hw;have hdw:=Vop (hwl hw);have hlw:=congrArg List.length (hwl hw);simp only[List.length_drop,Qa]at hlw;have hl1:1<=w.2.1.length:=by rw[hy];simp
          have hym:l[m]? = some y:=by
           have:=congrArg (·[0]?) (hwl hw);rw[hy]at this;simpa using this
          have egy:getI l (m:Int)=some y:=by unfold getI;simp[hym]
          have hjj:=hj2 hw;subst hjj;obtain⟨j2,hj3,hj4⟩:=ih (m+w.2.1.length) (d+1) false [] (by omega) (by omega) (by omega);have hvl:=λh=>Vig f (l.drop (m+w.2.1.length)) (m+w.2.1.length) (d+1) false [] h;rw[hdw]at hj3 hj4 hvl;simp only[Qf,Uj,Ui,egy,bindS,Veu y (by have:=hd y (Qu hym);omega),Qr,ed,ebs i (by omega)];rw[hj3];simp only[bindS];have hhy:w.2.1.headD default=y:=by rw[hy];rfl
          rw[hhy];generalize W getL f w.2.2 (m+w.2.1.length) (d+1) false []=v at hj4 hvl |-;by_cases hv:v.1=0
          ·rw[show decide (v.1=0)=true by simpa using hv,hj4 hv];simp only[Qf,Uj,Ui,bindS,Qr];have hdv:l.drop (m+w.2.1.length+v.2.1.length)=v.2.2:=Vop (by rw[hdw];exact hvl hv);have hlv:=congrArg List.length (hvl hv);simp only[Qa]at hlv;obtain⟨z,hz1,hz2,hz3⟩:=ihk (i+1) (m+w.2.1.length+v.2.1.length) fuel (enc y) (by omega) (by omega) (by omega);rw[hdv]at hz2 hz3;refine⟨z,hz1,λh=>?_,λh=>hz3 h⟩;dsimp only at h |-;rw[hz2 h,Qa,Qa];congr 3;omega
          ·rw[show decide (v.1=0)=false by simpa using hv];exact⟨_,rfl,λh=>absurd h hv,λ_=>⟨_,rfl⟩⟩
         ·rw[show decide (w.1=0)=false by simpa using hw];exact⟨_,rfl,λh=>absurd h hw,λ_=>⟨_,rfl⟩⟩
       rw[show decide (x.kind=5)=false by simpa using h5,show decide (x.kind=6)=true by simpa using h6];exact loop _ 0 (n+1) rounds [] (by omega) (by omega) (by rw[Vaa];omega)
      ·rw[Vaa,show (1180591620717411303424:Nat)=1180591620717411303423+1 from rfl,Vac];dsimp only;unfold passkeyref1_walk_L0b;simp only[h5,h6,Ul,Uj];refine⟨.inr (((n+1:Nat):Int),()),?_,λ_=>rfl,λh=>absurd rfl h⟩;cases decide ((Ql 64 0).toNat<x.number.toNat)<;>rfl
    obtain⟨z,hz,hz1⟩:=key2;rw[hz];simp only[bindS];have fin:∀(w:Res (List Ja)) (z:(Int×Int×Unit)⊕(Int×Unit)),Zr w (n+1) z->∃j:Int,Sum.elim (λ(z13:(Int×Int×Unit))=>(some ((),(z13.1,z13.2.1,())):Option (Unit×(Int×Int×Unit)))) (λ(z14:(Int×Unit))=>(some ((),(z14.1,(0:Int),())))) z=some ((),j,w.1,())/\(w.1=0->j=((n+(x::w.2.1).length:Nat):Int)):=by
     intro w z hz;obtain⟨hz1,hz2⟩:=hz;by_cases hw:w.1=0
     ·rw[hz1 hw,hw];refine⟨_,rfl,λ_=>?_⟩;simp only[Qk];omega
     ·obtain⟨j,rfl⟩:=hz2 hw;exact⟨j,rfl,λh=>absurd h hw⟩
    exact fin _ _ hz1
   ·simp only[hc,Ul,Qn,Uj,Ui];exact⟨(n:Int),rfl,λh=>h.elim⟩
theorem Vgv(l:List Ja)(hl:l.length<1000000)(hd:∀x∈l,x.data.length<100000):Zcm l=some ((),valO l,()):=by
 obtain⟨j,h1,h2⟩:=Vwq l hl hd 12 0 0 false [] (by omega) (by omega) (by omega);obtain⟨m1,m2⟩:=Vm7 Vli 12 (by omega) l;have hwl:=λh=>Vig 12 l 0 0 false [] h;unfold Zcm passkeyref1_walk valO valE;rw[show l.drop 0=l from rfl]at h1 h2;have h1':passkeyref1_walk_n 12 l 0 0 false []=some ((),j,(W getL 12 l 0 0 false []).1,()):=h1;rw[h1'];simp only[bindS];by_cases hw:(W getL 12 l 0 0 false []).1=0
 ·rw[m2 hw,h2 hw];have hh:=hwl hw;generalize W getL 12 l 0 0 false []=w at hw hh |-;simp only[hw,Uk,Qf,Uj];have hlen:=congrArg List.length hh;rw[Qa]at hlen;cases ht:w.2.2 with
  |nil=>
   rw[ht]at hlen;rw[show decide (((0+w.2.1.length:Nat):Int)<(l.length:Int))=false by simp at hlen |-;omega];rfl
  |cons y r=>
   rw[ht]at hlen;rw[show decide (((0+w.2.1.length:Nat):Int)<(l.length:Int))=true by simp at hlen |-;omega];rfl
 ·rw[m1 hw];simp[hw]
theorem Vjw:∀(f:Nat) (S:List Jc) (n:Nat) (l:List Ja),(mach getL f S n l).1=0->l=(mach getL f S n l).2.1++(mach getL f S n l).2.2/\∀x∈(mach getL f S n l).2.1,∃n d k b,chk x n d k b=0
 |0,S,n,l,h=>by simp[mach]at h
 |f+1,S,n,l,h=>by
  cases hS:(decide (0<n)&&S.isEmpty)
  ·rcases hg:getL n S.length (atK S) (lst S) l with⟨e,x,t⟩;by_cases he:e=0
   ·subst he;rw[Vb8 hS hg]at h |-;obtain⟨i1,i2⟩:=Vjw f (nxt x S) (n+1) t h;have hs:l=x::t/\chk x n S.length (atK S) (lst S)=0:=by
     cases l with
     |nil=>simp[getL]at hg
     |cons y r=>
      simp only[getL,Qe]at hg;obtain⟨q1,rfl,rfl⟩:=hg;exact⟨rfl,q1⟩
    refine⟨by rw[hs.1,Qw,<-i1],λy hy=>?_⟩;rcases List.mem_cons.1 hy with rfl|hy
    ·exact⟨_,_,_,_,hs.2⟩
    ·exact i2 y hy
   ·rw[Vds hS hg he]at h;exact absurd h he
  ·simp only[Qy,Uq,Qaf]at hS;obtain⟨q1,rfl⟩:=hS;rw[Vfz q1];exact⟨rfl,by simp⟩
theorem Vdf{l:List Ja}(h:valO l=0):mach getL 600 [] 0 l=(0,l,[])/\∀x∈l,kin x/\x.data.length<=1024:=by
 unfold valO valE at h;have hm:=Vjw 600 [] 0 l;generalize mach getL 600 [] 0 l=m at h hm |-;obtain⟨e,o,t⟩:=m;dsimp only at h hm |-;by_cases he:e=0
 ·subst he;cases t with
  |nil=>
   obtain⟨h1,h2⟩:=hm rfl;rw[Qp]at h1;subst h1;refine⟨rfl,λx hx=>?_⟩;obtain⟨n,d,k,b,hc⟩:=h2 x hx;obtain⟨c1,c2,c3,c4⟩:=Vay hc;exact⟨Vqf c1 c2,(Vb9 c3).1⟩
  |cons y r=>simp at h
 ·simp[he]at h
def encA(l:List Ja):Ua:=l.flatMap enc
def encO(l:List Ja):Ua×Int:=bif decide (valO l=0) then (encA l,0) else ([],valO l)
theorem Vwr{x:Ja}(h:x.data.length<=1024):(enc x).length<=1033:=by
 have:=(Vif x).2;unfold enc;rw[Qa];omega
theorem Vih:∀(l:List Ja) (o:Ua),l.foldl (λo x=>o++enc x) o=o++encA l
 |[],o=>by simp[encA]
 |x::r,o=>by
  rw[List.foldl_cons,Vih r,Qc];simp[encA]
theorem Vws(l:List Ja)(hl:l.length<=600)(hd:∀x∈l,x.data.length<100000):Ziu l=some ((),(encO l).1,(encO l).2,()):=by
 unfold Ziu encO;rw[Vcw l (by omega) hd];simp only[bindS];by_cases h:valO l=0
 ·obtain⟨_,hk⟩:=Vdf h;simp only[h,Uk,Qf,Uj,Ui];unfold Ziu_L0 Yi4;have:=Vm5 (f:=λ(y:(Ua×(List (Ja))×Int×Int×Unit))=>Ziu_L0b y.1 y.2.1 y.2.2.1 y.2.2.2.1) (λi (o:Ua)=>(o,l,(l.length:Int),i,())) l (λ_ x o=>.inl (o++enc x)) (λo=>(o,())) (λi o=>o.length<=1033*i) ?_ ?_ [] (by simp) rounds (by rw[Vaa];omega)
  ·rw[this,Vie,Vih];rfl
  ·intro i x o hx ho;have hi:i<l.length:=(List.getElem?_eq_some_iff.1 hx).1;obtain⟨k1,k2⟩:=hk x (Qu hx);have he:=Vwr k2;refine⟨?_,λa' ha=>?_⟩
   ·dsimp only;unfold Ziu_L0b;have eg:getI l (i:Int)=some x:=by unfold getI;simp[hx]
    rw[show decide ((i:Int)<(l.length:Int))=true by simp;omega,eg,wI ((i:Int)+1) (by omega)];simp only[Ui,bindS];rw[Vfx o x k1 (by omega) (by omega)];rfl
   ·cases ha;rw[Qa];omega
  ·intro o _;dsimp only;unfold Ziu_L0b;rw[show decide ((l.length:Int)<(l.length:Int))=false by simp];rfl
 ·simp[h]
theorem Vjx(l:List Ja)(hl:l.length<=600)(hd:∀x∈l,x.data.length<100000):Zek l=some ((),(encO l).1,(encO l).2,()):=by
 unfold Zek encO;rw[Vgv l (by omega) hd];simp only[bindS];by_cases h:valO l=0
 ·obtain⟨_,hk⟩:=Vdf h;simp only[h,Uk,Qf,Uj,Ui];unfold Zek_L0 Yi3;have:=Vm5 (f:=λ(y:((List (Ja))×Ua×Int×Unit))=>Zek_L0b y.1 y.2.1 y.2.2.1) (λi (o:Ua)=>(l,o,i,())) l (λ_ x o=>.inl (o++enc x)) (λo=>(o,())) (λi o=>o.length<=1033*i) ?_ ?_ [] (by simp) rounds (by rw[Vaa];omega)
  ·rw[this,Vie,Vih];rfl
  ·intro i x o hx ho;have hi:i<l.length:=(List.getElem?_eq_some_iff.1 hx).1;obtain⟨k1,k2⟩:=hk x (Qu hx);have he:=Vwr k2;refine⟨?_,λa' ha=>?_⟩
   ·dsimp only;unfold Zek_L0b;have eg:getI l (i:Int)=some x:=by unfold getI;simp[hx]
    rw[show decide ((i:Int)<(l.length:Int))=true by simp;omega,eg,wI ((i:Int)+1) (by omega)];simp only[Ui,bindS];rw[Veu x (by omega)];simp only[bindS];rw[Vcu (by omega)];rfl
   ·cases ha;rw[Qa];omega
  ·intro o _;dsimp only;unfold Zek_L0b;rw[show decide ((l.length:Int)<(l.length:Int))=false by simp];rfl
 ·simp[h]
theorem mask(a:Int)(m:Nat)(hm:m<10000000):∃k:Nat,k<=m/\Qi .i64 ((Qd (Qav .i64) a&&&Qd (Qav .i64) (m:Int)).toNat:Int)=(k:Int):=by
 have e:(Qd 64 (m:Int)).toNat=m:=by rw[Qz,Qo,Qh (by omega)]
 have h:(Qd 64 a&&&Qd 64 (m:Int)).toNat<=m:=by
  rw[BitVec.toNat_and,e];exact Nat.and_le_right
 refine⟨_,h,?_⟩;show Qi .i64 ((Qd 64 a&&&Qd 64 (m:Int)).toNat:Int)=_;exact Vaw (by omega) (by omega)
def VT(h:Nat)(o:List Ja):Prop:=∀(g n dd:Nat) (r:List Ja) (b:Ua),h<=g->n+o.length<=512->dd+h<=9->W getL g (o++r) n dd false b=(0,o,r)
theorem Vdt{x:Ja}(h5:x.kind≠5)(h6:x.kind≠6)(hc:∀n d b,n<512->d<=8->chk x n d false b=0):VT 1 [x]:=by
 intro g n dd r b hg hn hd;obtain⟨g,rfl⟩:∃q,g=q+1:=⟨g-1,by omega⟩;unfold W;have:=hc n dd b (by simp at hn;omega) (by omega);simp[getL,this,h5,h6]
theorem Vwt{h h':Nat}{o:List Ja}(hh:h<=h')(H:VT h o):VT h' o:=λg n dd r b h1 h2 h3=>H g n dd r b (by omega) h2 (by omega)
def keysOk:Ua->List Ja->Prop
 |_,[]=>True
 |last,x::r=>isN x.kind=false/\(∀n d,n<512->d<=8->chk x n d true last=0)/\keysOk (enc x) r
theorem LM_ok{h g dd:Nat}(hg:h<=g)(hg1:1<=g)(hd:dd+1+h<=9)(hd8:dd+1<=8):∀(ks:List Ja) (os:List (List Ja)) (r:List Ja) (n:Nat) (last:Ua),ks.length=os.length->keysOk last ks->(∀o∈os,VT h o)->n+((ks.zip os).flatMap λp=>p.1::p.2).length<=512->LM (λs n last=>W getL g s n (dd+1) true last) (λs n=>W getL g s n (dd+1) false []) ks.length (((ks.zip os).flatMap λp=>p.1::p.2)++r) n last=(0,(ks.zip os).flatMap λp=>p.1::p.2,r)
 |[],os,r,n,last,_,_,_,_=>rfl
 |x::ks,[],r,n,last,hl,_,_,_=>by cases hl
 |x::ks,o::os,r,n,last,hl,hk,H,hn=>by
  obtain⟨k1,k2,k3⟩:=hk;simp only[Qao,Q5,Qa,Qk]at hn;obtain⟨g,rfl⟩:∃q,g=q+1:=⟨g-1,by omega⟩;have hkey:∀s,W getL (g+1) (x::s) n (dd+1) true last=(0,[x],s):=by
   intro s;unfold W;simp only[isN,Qj,decide_eq_false_iff_not]at k1;simp[getL,k2 n (dd+1) (by omega) hd8,k1.1,k1.2]
  have h1:=H o (by simp) (g+1) (n+1) (dd+1) (((ks.zip os).flatMap λp=>p.1::p.2)++r) [] hg (by omega) (by omega);have h2:=LM_ok hg hg1 hd hd8 ks os r (n+1+o.length) (enc x) (by simpa using hl) k3 (λp hp=>H p (by simp[hp])) (by omega);simp only[Qk,Qao,Q5,Qw,Qc];unfold LM;dsimp only;rw[hkey];simp only[Uk,Ui,Qk,Qat,Qau,Q0];rw[h1];simp only[Uk,Ui];rw[h2];rfl
theorem Vcpa{h k:Nat}{ks:List Ja}{os:List (List Ja)}(hk:ks.length=k)(hl:ks.length=os.length)(hk3:k<=512)(h1:1<=h)(hK:keysOk [] ks)(H:∀o∈os,VT h o):VT (h+1) (⟨6,Ql 64 k,[]⟩::(ks.zip os).flatMap λp=>p.1::p.2):=by
 intro g n dd r b hg hn hd;obtain⟨g,rfl⟩:∃q,g=q+1:=⟨g-1,by omega⟩;simp only[Qk]at hn;have hkn:(Ql 64 k).toNat=k:=by rw[Qo,Qh (by omega)]
 have hc:chk ⟨6,Ql 64 k,[]⟩ n dd false b=0:=by
  unfold chk adm bad big acc;dsimp only;rw[hkn,show decide (512<=n)=false by simp;omega,show decide (8<dd)=false by simp;omega,show decide (512<k)=false by simp;omega];rfl
 have:=LM_ok (g:=g) (dd:=dd) (by omega) (by omega) (by omega) (by omega) ks os r (n+1) [] hl hK H (by omega);rw[hk]at this;unfold W;simp only[Qw,getL,hc,Uk,Ul,Ui,Uj,hkn,this,Int.reduceEq]
theorem Vch{x:Ja}{n d:Nat}{b:Ua}(h1:1<=x.kind)(h2:x.kind<=8)(h3:bad x=false)(h4:big x=false)(h5:x.kind=4->Lib.validD x.data=true)(hn:n<512)(hd:d<=8):chk x n d false b=0:=by
 unfold chk adm acc;rw[h3,h4,show decide (512<=n)=false by simp;omega,show decide (8<d)=false by simp;omega,show (decide (1<=x.kind)&&decide (x.kind<=8))=true by simp[h1,h2]];by_cases hk:x.kind=4
 ·rw[h5 hk];simp
 ·simp[hk]
theorem Vwu{x:Ja}{n d:Nat}{last:Ua}(h1:x.kind=1\/x.kind=4)(h3:bad x=false)(h4:big x=false)(h5:x.kind=4->Lib.validD x.data=true)(h6:last=[]\/lss last (enc x)=true)(hn:n<512)(hd:d<=8):chk x n d true last=0:=by
 have e6:(true&&(!last.isEmpty&&!lss last (enc x)))=false:=by
  rcases h6 with rfl|h
  ·rfl
  ·rw[h];cases last.isEmpty<;>rfl
 unfold chk adm acc;rw[h3,h4,dF (512<=n) (by omega),dF (8<d) (by omega),e6];rcases h1 with hk|hk
 ·rw[hk];rfl
 ·rw[h5 hk,hk];rfl
def bev:Ub->Ua->Ub
 |n,[]=>n
 |n,c::r=>bev ((n<<<8)|||(Qg 64 c.toBitVec)) r
def nv:Nat->Ua->Nat
 |v,[]=>v
 |v,c::r=>nv (v*256+c.toNat) r
theorem nv_eq:∀(l:Ua) (v:Nat),nv v l=v*256^l.length+nv 0 l
 |[],v=>by simp[nv]
 |c::r,v=>by
  have h1:=nv_eq r (v*256+c.toNat);have h2:=nv_eq r (0*256+c.toNat);simp only[nv,Qk];rw[h1,h2,Qab,Nat.add_mul,Qaa,Q0,Nat.mul_assoc,Qac 256,Qaj]
theorem nv_lt:∀l:Ua,nv 0 l<256^l.length
 |[]=>by simp[nv]
 |c::r=>by
  have h1:=nv_eq r (0*256+c.toNat);have h2:=nv_lt r;have h3:c.toNat<256:=c.toNat_lt;simp only[nv,Qk];rw[h1,Qaa,Q0,Qab];have:c.toNat*256^r.length<=255*256^r.length:=Nat.mul_le_mul_right _ (by omega);omega
theorem Vcqa:∀(a b:Ua),a.length=b.length->nv 0 a=nv 0 b->a=b
 |[],[],_,_=>rfl
 |[],_::_,h,_=>by cases h
 |_::_,[],h,_=>by cases h
 |c::r,d::s,h,e=>by
  have hl:r.length=s.length:=by simpa using h
  have h1:=nv_eq r (0*256+c.toNat);have h2:=nv_eq s (0*256+d.toNat);simp only[nv]at e;rw[h1,h2,Qaa,Q0,Q0,hl]at e;have l1:=nv_lt r;have l2:=nv_lt s;rw[hl]at l1;have hc:c.toNat=d.toNat:=by
   have e1:(c.toNat*256^s.length+nv 0 r) / 256^s.length=c.toNat:=by
    rw[Qac,Qax (by omega),Qas l1,Nat.add_zero]
   have e2:(d.toNat*256^s.length+nv 0 s) / 256^s.length=d.toNat:=by
    rw[Qac,Qax (by omega),Qas l2,Nat.add_zero]
   rw[<-e1,<-e2,e]
  rw[hc]at e;rw[UInt8.toNat_inj.1 hc,Vcqa r s hl (by omega)]
theorem Vwv(n:Ub):(byt n).toNat=n.toNat % 256:=by
 unfold byt;show (Qg 8 n).toNat=_;rw[Qak]
theorem p256(k:Nat):2^(8*k)=256^k:=by rw[Nat.pow_mul]
theorem Vww(n:Ub):∀k,nv 0 (beb n k)=n.toNat % 256^k
 |0=>by simp[beb,nv,Nat.mod_one]
 |k+1=>by
  have h1:=nv_eq (beb n k) (0*256+(byt (n>>>(8*k))).toNat);simp only[beb,nv];rw[h1,Vww n k,Vcv,Vwv,BitVec.toNat_ushiftRight,Nat.shiftRight_eq_div_pow,p256,Qaa,Q0,Qab,Nat.mod_mul,Qac,Nat.add_comm]
theorem Vg2a(n:Ub)(c:UInt8)(h:n.toNat<256^7):((n<<<8)|||(Qg 64 c.toBitVec)).toNat=n.toNat*256+c.toNat:=by
 have hc:c.toNat<256:=c.toNat_lt;rw[BitVec.toNat_or,BitVec.toNat_shiftLeft,Qak,Qh (a:=n.toNat<<<8) (by rw[Qar];omega)];rw[show c.toBitVec.toNat=c.toNat from rfl,Qh (a:=c.toNat) (by omega),<-Nat.shiftLeft_add_eq_or_of_lt (by omega),Qar]
theorem Vwx:∀(l:Ua) (n:Ub) (j:Nat),n.toNat<256^j->j+l.length<=8->(bev n l).toNat=nv n.toNat l
 |[],n,j,_,_=>rfl
 |c::r,n,j,h,hj=>by
  simp only[Qk]at hj;have hc:c.toNat<256:=c.toNat_lt;have e:=Vg2a n c (Nat.lt_of_lt_of_le h (Q3 (by omega) (by omega)));have:=Vwx r ((n<<<8)|||(Qg 64 c.toBitVec)) (j+1) (by rw[e,Qab];omega) (by omega);simp only[bev,nv];rw[this,e]
theorem bev0(l:Ua)(hl:l.length<=8):(bev 0#64 l).toNat=nv 0 l:=Vwx l 0#64 0 (by simp) (by omega)
theorem Veka(n:Ub)(k:Nat)(hk:k<=8)(hn:n.toNat<256^k):bev 0#64 (beb n k)=n:=by
 apply Qt;rw[bev0 _ (by rw[Vcv];exact hk),Vww,Qh hn]
theorem Vela(l:Ua)(hl:l.length<=8):beb (bev 0#64 l) l.length=l:=by
 apply Vcqa
 ·rw[Vcv]
 ·rw[Vww,bev0 l hl,Qh (nv_lt l)]
def sho(n:Ub):Nat:=bif decide (n.toNat<24) then 0 else bif decide (n.toNat<256) then 1 else bif decide (n.toNat<65536) then 2 else bif decide (n.toNat<4294967296) then 4 else 8
def isB(c:UInt8):Bool:=decide (c=244)||decide (c=245)
def hdB:Ua->Int×Int×Ub×Ua
 |[]=>(1,0,0#64,[])
 |c::r=>bif isB c then (0,7,Ql 64 (c.toNat-244),r) else bif decide (c=246) then (0,8,0#64,r) else bif decide (5<c.toNat / 32)||decide (27<c.toNat % 32) then (2,0,0#64,[]) else bif decide (c.toNat % 32<24) then (0,((c.toNat / 32:Nat):Int)+1,Ql 64 (c.toNat % 32),r) else bif decide (r.length<2^(c.toNat % 32-24)) then (1,0,0#64,[]) else bif decide (sho (bev 0#64 (r.take (2^(c.toNat % 32-24))))<2^(c.toNat % 32-24)) then (2,0,0#64,[]) else (0,((c.toNat / 32:Nat):Int)+1,bev 0#64 (r.take (2^(c.toNat % 32-24))),r.drop (2^(c.toNat % 32-24)))
def hdc(n:Ub):UInt8:=bif decide (n.toNat<24) then byt n else bif decide (n.toNat<256) then 24 else bif decide (n.toNat<65536) then 25 else bif decide (n.toNat<4294967296) then 26 else 27
theorem Vqg(m:UInt8)(n:Ub):hdr m n=(m+hdc n)::beb n (sho n):=by
 unfold hdr hdc sho;cases decide (n.toNat<24)<;>cases decide (n.toNat<256)<;>cases decide (n.toNat<65536)<;>cases decide (n.toNat<4294967296)<;>rfl
theorem Vii(n:Ub):(n.toNat<24/\sho n=0/\hdc n=byt n)\/(24<=n.toNat/\∃j,j<4/\sho n=2^j/\hdc n=Qm (24+j)/\n.toNat<256^(2^j)):=by
 have hn:=n.isLt;unfold sho hdc;by_cases h1:n.toNat<24
 ·left;simp[h1]
 ·right;refine⟨by omega,?_⟩;by_cases h2:n.toNat<256
  ·exact⟨0,by omega,by simp[h1,h2],by simp[h1,h2],by simpa using h2⟩
  ·by_cases h3:n.toNat<65536
   ·exact⟨1,by omega,by simp[h1,h2,h3],by simp[h1,h2,h3],by simpa using h3⟩
   ·by_cases h4:n.toNat<4294967296
    ·exact⟨2,by omega,by simp[h1,h2,h3,h4],by simp[h1,h2,h3,h4],by simpa using h4⟩
    ·exact⟨3,by omega,by simp[h1,h2,h3,h4],by simp[h1,h2,h3,h4],by simpa using hn⟩
theorem Vwy:∀(k:Fin 6) (j:Fin 28),isB (mj ((k.val:Int)+1)+Qm j.val)=false/\¬ (mj ((k.val:Int)+1)+Qm j.val)=246/\(mj ((k.val:Int)+1)+Qm j.val).toNat / 32=k.val/\(mj ((k.val:Int)+1)+Qm j.val).toNat % 32=j.val:=by decide +kernel
theorem Vqh{k:Int}(h1:1<=k)(h2:k<=6){j:Nat}(hj:j<28):isB (mj k+Qm j)=false/\¬ (mj k+Qm j)=246/\(((mj k+Qm j).toNat / 32:Nat):Int)+1=k/\(mj k+Qm j).toNat % 32=j:=by
 obtain⟨q,rfl⟩:∃q:Nat,k=(q:Int)+1:=⟨(k-1).toNat,by omega⟩;obtain⟨a,b,c,d⟩:=Vwy ⟨q,by omega⟩ ⟨j,hj⟩;dsimp only at a b c d;exact⟨a,b,by rw[c],d⟩
theorem Vm8{n:Ub}(h:n.toNat<24):byt n=Qm n.toNat:=by
 apply UInt8.toNat_inj.1;rw[Vwv];simp
theorem Vema{k:Int}(h1:1<=k)(h2:k<=6)(n:Ub)(r:Ua):hdB (hdr (mj k) n++r)=(0,k,n,r):=by
 rw[Vqg,Qw];rcases Vii n with⟨a,b,c⟩|⟨a,j,hj,b,c,d⟩
 ·rw[b,c,Vm8 a];obtain⟨f1,f2,f3,f4⟩:=Vqh h1 h2 (j:=n.toNat) (by omega);simp only[hdB];rw[f1,f4,f3,dF (_=(246:UInt8)) f2,dF (5<(mj k+Qm n.toNat).toNat / 32) (by omega),dF (27<n.toNat) (by omega),dT (n.toNat<24) a];simp[beb]
 ·rw[b,c];obtain⟨f1,f2,f3,f4⟩:=Vqh h1 h2 (j:=24+j) (by omega);have hj8:2^j<=8:=Qad (Q3 (by omega) (show j<=3 by omega)) (by omega);simp only[hdB];have et:(beb n (2^j)++r).take (2^j)=beb n (2^j):=by
   rw[Qag (by rw[Vcv];omega),Qal (by rw[Vcv];omega)]
  have ed:(beb n (2^j)++r).drop (2^j)=r:=by
   have:=List.drop_left (l₁:=beb n (2^j)) (l₂:=r);rwa[Vcv]at this
  rw[f1,f4,f3,dF (_=(246:UInt8)) f2,dF (5<(mj k+Qm (24+j)).toNat / 32) (by omega),dF (27<24+j) (by omega),dF (24+j<24) (by omega),show 24+j-24=j by omega,et,ed,Veka n _ hj8 d,b,dF ((beb n (2^j)++r).length<2^j) (by rw[Qa,Vcv];omega),dF (2^j<2^j) (by omega)];rfl
theorem Vz6:∀c:Fin 256,c.val / 32<=5->c.val % 32<=27->Qm c.val=mj ((c.val / 32:Nat)+1)+Qm (c.val % 32):=by decide +kernel
theorem Vlj{s : Ua}{k : Int}{n : Ub}{t : Ua}(h : hdB s=(0, k, n, t)) : (1<=k/\k<=6/\s=hdr (mj k) n++t)\/(k=7/\n.toNat<=1/\s=(244+byt n)::t)\/(k=8/\n=0#64/\s=246::t) := by
 cases s with
 |nil=>simp[hdB]at h
 |cons c r=>
  simp only[hdB]at h;cases hb:isB c
  ·rw[hb]at h;simp only[Uj]at h;by_cases h6:c=246
   ·rw[dT (c=246) h6]at h;simp only[Ui,Qe]at h;right;right;exact⟨h.2.1.symm,h.2.2.1.symm,by rw[h6,h.2.2.2]⟩
   ·rw[dF (c=246) h6]at h;simp only[Uj]at h;cases h7:(decide (5<c.toNat / 32)||decide (27<c.toNat % 32))
    ·rw[h7]at h;simp only[Uj]at h;simp only[Qj,decide_eq_false_iff_not,Nat.not_lt]at h7;have hcl:c.toNat<256:=c.toNat_lt;have hc:=Vz6 ⟨c.toNat,hcl⟩ h7.1 h7.2;dsimp only at hc;rw[UInt8.ofNat_toNat]at hc;left;by_cases h8:c.toNat % 32<24
     ·rw[dT (c.toNat % 32<24) h8]at h;simp only[Ui,Qe,true_and]at h;obtain⟨e1,e2,e3⟩:=h;have en:n.toNat=c.toNat % 32:=by rw[<-e2,Qo,Qh (by omega)]
      refine⟨by omega,by omega,?_⟩;rw[Vqg,e3];rcases Vii n with⟨a,b,d⟩|⟨a,_⟩
      ·rw[b,d,Vm8 a,en,<-e1,<-hc];rfl
      ·omega
     ·rw[dF (c.toNat % 32<24) h8]at h;simp only[Uj]at h;generalize hz:c.toNat % 32-24=z at h;have hz3:z<=3:=by omega
      have hz8:2^z<=8:=Qad (Q3 (by omega) hz3) (by omega);by_cases h9:r.length<2^z
      ·rw[dT (r.length<2^z) h9]at h;simp at h
      ·rw[dF (r.length<2^z) h9]at h;simp only[Uj]at h;by_cases h10:sho (bev 0#64 (r.take (2^z)))<2^z
       ·rw[dT (sho (bev 0#64 (r.take (2^z)))<2^z) h10]at h;simp at h
       ·rw[dF (sho (bev 0#64 (r.take (2^z)))<2^z) h10]at h;simp only[Uj,Qe,true_and]at h;obtain⟨e1,e2,e3⟩:=h;have hlen:(r.take (2^z)).length=2^z:=by rw[Qaq];omega
        have hbb:=Vela (r.take (2^z)) (by omega);have hnn:=bev0 (r.take (2^z)) (by omega);have hlt:=nv_lt (r.take (2^z));rw[e2]at hbb hnn h10;rw[hlen]at hbb hlt;rw[<-hnn]at hlt;refine⟨by omega,by omega,?_⟩;rw[Vqg];have hz1:1<=2^z:=Nat.one_le_two_pow;rcases Vii n with⟨a,b,d⟩|⟨a,j,hj,b,d,f⟩
        ·omega
        ·-- the number takes exactly these bytes
         have hjz:j=z:=by
          have h1:z<=j:=by
           rw[b]at h10;exact (Qai (a:=2) (by omega)).1 (by omega)
          have h2:¬ z<j:=by
           intro hlt2;have hs:sho n<=2^z:=by
            unfold sho;have hh:n.toNat<256^2^z:=hlt;have hz4:z=0\/z=1\/z=2:=by omega
            rcases hz4 with rfl|rfl|rfl
            ·have:n.toNat<256:=by simpa using hh
             cases decide (n.toNat<24)<;>simp[this]
            ·have:n.toNat<65536:=by simpa using hh
             cases decide (n.toNat<24)<;>cases decide (n.toNat<256)<;>simp[this]
            ·have:n.toNat<4294967296:=by simpa using hh
             cases decide (n.toNat<24)<;>cases decide (n.toNat<256)<;>cases decide (n.toNat<65536)<;>simp[this]
           rw[b]at hs;have:=(Qai (a:=2) (by omega)).1 hs;omega
          omega
         subst hjz;rw[b,d,hbb,<-e3,<-e1,show 24+j=c.toNat % 32 by omega,<-hc,Qw,List.take_append_drop]
    ·rw[h7]at h;simp at h
  ·rw[hb]at h;simp only[Ui,Qe,true_and]at h;obtain⟨e1,e2,e3⟩:=h;right;left;unfold isB at hb;simp only[Qaw,Uq]at hb;rcases hb with rfl|rfl
   ·refine⟨e1.symm,?_,?_⟩
    ·rw[<-e2];decide
    ·rw[<-e2,e3];rfl
   ·refine⟨e1.symm,?_,?_⟩
    ·rw[<-e2];decide
    ·rw[<-e2,e3];rfl
def bodB(k:Int)(m:Ub)(r:Ua):Int×Ja×Ua:=
 bif isN k then (bif decide (512<m.toNat) then (8,default,[]) else (0,⟨k,m,[]⟩,r))
 else bif isD k then (bif decide (1024<m.toNat) then (8,default,[]) else bif decide (r.length<m.toNat) then (1,default,[]) else (0,⟨k,0#64,r.take m.toNat⟩,r.drop m.toNat))
 else (0,⟨k,m,[]⟩,r)
def accB(key:Bool)(before:Ua)(q:Int×Ja×Ua):Int×Ja×Ua:=
 bif decide (q.1=0) then (acc q.2.1 key before,q.2.1,q.2.2) else q
def getB(n d:Nat)(key:Bool)(before:Ua)(s:Ua):Int×Ja×Ua:=
 bif !decide ((hdB s).1=0) then ((hdB s).1,default,[]) else
 bif !decide (adm (hdB s).2.1 n d key=0) then (adm (hdB s).2.1 n d key,default,[]) else
 accB key before (bodB (hdB s).2.1 (hdB s).2.2.1 (hdB s).2.2.2)
theorem Vwz{n d:Nat}{key:Bool}{before s t:Ua}{k:Int}{m:Ub}(h:hdB s=(0,k,m,t))(ha:adm k n d key=0):getB n d key before s=accB key before (bodB k m t):=by
 unfold getB;rw[h];dsimp only;rw[ha];rfl
theorem Vena : GetOk getB := by
 constructor
 ·intro n d k b s x t h;unfold getB at h;by_cases h1:(hdB s).1=0
  ·rw[dT ((hdB s).1=0) h1]at h;by_cases h2:adm (hdB s).2.1 n d k=0
   ·rw[dT (adm (hdB s).2.1 n d k=0) h2]at h;simp only[Qf,Uj]at h;obtain⟨a1,_,_,_,a5⟩:=Vbo h2;refine⟨a1,a5,?_⟩;unfold accB bodB at h;cases hN:isN (hdB s).2.1
    ·rw[hN]at h;simp only[Uj]at h;cases hD:isD (hdB s).2.1
     ·rw[hD]at h;simp only[Uj,Uk,Ui,Qe]at h;obtain⟨_,rfl,_⟩:=h;intro h3;dsimp only at h3;rw[hN]at h3;cases h3
     ·rw[hD]at h;simp only[Ui]at h;cases c1:decide (1024<(hdB s).2.2.1.toNat)
      ·rw[c1]at h;cases c2:decide ((hdB s).2.2.2.length<(hdB s).2.2.1.toNat)
       ·rw[c2]at h;simp only[Uj,Uk,Ui,Qe]at h;obtain⟨_,rfl,_⟩:=h;intro h3;dsimp only at h3;rw[hN]at h3;cases h3
       ·rw[c2]at h;simp at h
      ·rw[c1]at h;simp at h
    ·rw[hN]at h;simp only[Ui]at h;cases c1:decide (512<(hdB s).2.2.1.toNat)
     ·rw[c1]at h;simp only[Uj,Uk,Ui,Qe]at h;obtain⟨_,rfl,_⟩:=h;intro _;simp only[decide_eq_false_iff_not]at c1;dsimp only;omega
     ·rw[c1]at h;simp at h
   ·rw[dF (adm (hdB s).2.1 n d k=0) h2]at h;simp only[Qf,Uj,Qn,Ui,Qe]at h;exact absurd h.1 h2
  ·rw[dF ((hdB s).1=0) h1]at h;simp only[Qn,Ui,Qe]at h;exact absurd h.1 h1
 ·intro n d b b' s;unfold getB accB acc;simp only[Qv,Uj]
theorem Voq{k:Int}(h:isD k=true):isN k=false:=by
 unfold isD at h;simp only[Qaw,Uq]at h;rcases h with rfl|rfl<;>rfl
theorem Vw0{l:Ua}(h:l.length<=1024):(Qd 64 (l.length:Int)).toNat=l.length:=by
 rw[Qz,Qo,Qh (by omega)]
theorem Vg3a{x:Ja}{n d:Nat}{key:Bool}{b:Ua}(h:chk x n d key b=0)(t:Ua):bodB x.kind (num x) (x.data++t)=(0,x,t):=by
 obtain⟨c1,c2,c3,c4⟩:=Vay h;obtain⟨k1,k2,k3⟩:=Vqf c1 c2;obtain⟨b1,b2⟩:=Vb9 c3;obtain⟨k,m,l⟩:=x;dsimp only at *;unfold bodB num;dsimp only;cases hN:isN k
 ·cases hD:isD k
  ·rw[k3 hD];rfl
  ·have hm:m=0#64:=by
    unfold bad at c2;dsimp only at c2;rw[hD]at c2;simp only[Q6,Qs,Qj,Qx,Uq]at c2;exact c2.1
   simp only[Ui,Uj];simp only[Vw0 b1];rw[dF (1024<l.length) (by omega),dF ((l++t).length<l.length) (by rw[Qa];omega),hm];simp
 ·have hD:isD k=false:=by
   cases hD:isD k
   ·rfl
   ·rw[Voq hD]at hN;cases hN
  rw[k3 hD,hD];simp only[Ui,Uj];rw[dF (512<m.toNat) (by have:=b2 hN;omega)];rfl
theorem byt01{n:Ub}(h:n.toNat<=1):n=0#64\/n=1#64:=by
 have:n.toNat=0\/n.toNat=1:=by omega
 rcases this with h|h
 ·left;exact Qt h
 ·right;exact Qt h
theorem kin8{x:Ja}(h:kin x):(x.kind≠7/\x.kind≠8/\1<=x.kind/\x.kind<=6)\/x.kind=7\/x.kind=8:=by
 obtain⟨h1,h2,_⟩:=h;omega
theorem bad7{x:Ja}(h:bad x=false)(h7:x.kind=7):x.number.toNat<=1:=by
 unfold bad at h;rw[h7]at h;simp only[Uk,Qs,Qj,decide_eq_false_iff_not]at h;have:=h.2.1;omega
theorem bad8{x:Ja}(h:bad x=false)(h8:x.kind=8):x.number=0#64:=by
 unfold bad at h;rw[h8]at h;simp only[Uk,Q7,Qs,Qj,Qx,Uq]at h;exact h.1
theorem Veoa{x:Ja}{n d:Nat}{key:Bool}{b:Ua}(h:chk x n d key b=0)(t:Ua):hdB (hdI x++t)=(0,x.kind,num x,t):=by
 obtain⟨c1,c2,c3,c4⟩:=Vay h;have hk:=Vqf c1 c2;rcases kin8 hk with⟨q1,q2,q3,q4⟩|h7|h8
 ·unfold hdI;rw[dF (x.kind=7) q1,dF (x.kind=8) q2];exact Vema q3 q4 _ _
 ·unfold hdI num;rw[h7];rcases byt01 (bad7 c2 h7) with e|e<;>rw[e]<;>rfl
 ·unfold hdI num;rw[h8,bad8 c2 h8];rfl
theorem Vz7{x:Ja}{n d:Nat}{key:Bool}{b:Ua}(h:chk x n d key b=0)(t:Ua):getB n d key b (enc x++t)=(0,x,t):=by
 have e:enc x++t=hdI x++(x.data++t):=by unfold enc;rw[Qc]
 rw[e,Vwz (Veoa h _) (Vay h).1,Vg3a h];unfold accB;simp[(Vay h).2.2.2]
theorem Vm9{x:Ja}{n d:Nat}{key:Bool}{b s t:Ua}(h:getB n d key b s=(0,x,t)):s=enc x++t/\chk x n d key b=0:=by
 unfold getB at h;by_cases h1:(hdB s).1=0
 ·rw[dT ((hdB s).1=0) h1]at h;by_cases h2:adm (hdB s).2.1 n d key=0
  ·rw[dT (adm (hdB s).2.1 n d key=0) h2]at h;simp only[Qf,Uj]at h;generalize hh:hdB s=q at h h1 h2;obtain⟨e,k,m,r⟩:=q;dsimp only at h h1 h2;subst h1
   -- the body
   have hbod:(bodB k m r).1=0/\(bodB k m r).2.1=x/\(bodB k m r).2.2=t/\acc x key b=0:=by
    unfold accB at h;by_cases h3:(bodB k m r).1=0
    ·rw[dT ((bodB k m r).1=0) h3]at h;simp only[Ui,Qe]at h;exact⟨h3,h.2.1,h.2.2,by rw[<-h.2.1];exact h.1⟩
    ·rw[dF ((bodB k m r).1=0) h3]at h;simp only[Uj]at h;rw[h]at h3;exact absurd rfl h3
   obtain⟨q1,q2,q3,q4⟩:=hbod;have main : x.kind=k/\num x=m/\r=x.data++t/\big x=false/\(isD k=true->x.number=0#64)/\(isD k=false->x.data=[]/\x.number=m) := by
    unfold bodB at q1 q2 q3;cases hN:isN k
    ·rw[hN]at q1 q2 q3;cases hD:isD k
     ·rw[hD]at q1 q2 q3;simp only[Uj]at q2 q3;subst q2;subst q3;refine⟨rfl,?_,by simp,?_,by simp,by simp⟩
      ·unfold num;dsimp only;rw[hD];rfl
      ·unfold big;dsimp only;rw[hN];rfl
     ·rw[hD]at q1 q2 q3;simp only[Uj,Ui]at q1 q2 q3;cases g1:decide (1024<m.toNat)
      ·rw[g1]at q1 q2 q3;cases g2:decide (r.length<m.toNat)
       ·rw[g2]at q1 q2 q3;simp only[Uj]at q2 q3;simp only[decide_eq_false_iff_not]at g1 g2;subst q2;subst q3;have hl:(r.take m.toNat).length=m.toNat:=by rw[Qaq];omega
        refine⟨rfl,?_,by simp,?_,by simp,by simp⟩
        ·unfold num;dsimp only;rw[hD,hl];simp only[Ui];apply Qt;rw[Qz,Qo,Qh m.isLt]
        ·unfold big;dsimp only;rw[hN,hl,dF (1024<m.toNat) g1];rfl
       ·rw[g2]at q1;simp at q1
      ·rw[g1]at q1;simp at q1
    ·have hD:isD k=false:=by
      cases hD:isD k
      ·rfl
      ·rw[Voq hD]at hN;cases hN
     rw[hN]at q1 q2 q3;rw[hD];simp only[Ui]at q1 q2 q3;cases g1:decide (512<m.toNat)
     ·rw[g1]at q1 q2 q3;simp only[Uj]at q2 q3;subst q2;subst q3;refine⟨rfl,?_,by simp,?_,by simp,by simp⟩
      ·unfold num;dsimp only;rw[hD];rfl
      ·unfold big;dsimp only;rw[hN,g1];rfl
     ·rw[g1]at q1;simp at q1
   obtain⟨m1,m2,m3,m4,m5,m6⟩:=main
   have hbk:=Vlj hh;have hbad:bad x=false:=by
    unfold bad;rw[m1];rcases hbk with⟨w1,w2,_⟩|⟨w1,w2,_⟩|⟨w1,w2,_⟩
    ·rw[dF (k=8) (by omega),dF (k=7) (by omega)];cases hD:isD k
     ·simp[(m6 hD).1]
     ·simp[m5 hD]
    ·subst w1;have:=(m6 rfl);rw[this.1,this.2];simp[isD];omega
    ·subst w1;have:=(m6 rfl);rw[this.1,this.2,w2];rfl
   refine⟨?_,?_⟩
   ·have eh:s=hdI x++r:=by
     unfold hdI;rw[m1,m2];rcases hbk with⟨w1,w2,w3⟩|⟨w1,w2,w3⟩|⟨w1,w2,w3⟩
     ·rw[dF (k=7) (by omega),dF (k=8) (by omega)];exact w3
     ·subst w1;rw[w3,(m6 rfl).2];rfl
     ·subst w1;rw[w3];rfl
    rw[eh,m3];unfold enc;rw[Qc]
   ·unfold chk;rw[m1,h2,hbad,m4,q4];rfl
  ·rw[dF (adm (hdB s).2.1 n d key=0) h2]at h;simp only[Qf,Uj,Qn,Ui,Qe]at h;exact absurd h.1 h2
 ·rw[dF ((hdB s).1=0) h1]at h;simp only[Qn,Ui,Qe]at h;exact absurd h.1 h1
theorem Vev{σ:Type}(get:Nat->Nat->Bool->Ua->σ->Int×Ja×σ)(f:Nat)(S:List Jc)(n:Nat)(s:σ):(decide (0<n)&&S.isEmpty)=true/\mach get (f+1) S n s=(0,[],s)\/(decide (0<n)&&S.isEmpty)=false/\(get n S.length (atK S) (lst S) s).1≠0/\mach get (f+1) S n s=((get n S.length (atK S) (lst S) s).1,[],s)\/(decide (0<n)&&S.isEmpty)=false/\∃x t,get n S.length (atK S) (lst S) s=(0,x,t)/\mach get (f+1) S n s=((mach get f (nxt x S) (n+1) t).1,x::(mach get f (nxt x S) (n+1) t).2.1,(mach get f (nxt x S) (n+1) t).2.2):=by
 cases hS:(decide (0<n)&&S.isEmpty)
 ·right;by_cases hg:(get n S.length (atK S) (lst S) s).1=0
  ·right;have e:get n S.length (atK S) (lst S) s=(0,(get n S.length (atK S) (lst S) s).2.1,(get n S.length (atK S) (lst S) s).2.2):=by rw[<-hg]
   exact⟨rfl,_,_,e,Vb8 hS e⟩
  ·left;refine⟨rfl,hg,Vds hS (x:=(get n S.length (atK S) (lst S) s).2.1) (t:=(get n S.length (atK S) (lst S) s).2.2) rfl hg⟩
 ·left;refine⟨rfl,?_⟩;unfold mach;rw[hS];rfl
theorem Vij{n d:Nat}{key:Bool}{b:Ua}{l:List Ja}{x:Ja}{t:List Ja}(h:getL n d key b l=(0,x,t)):l=x::t/\chk x n d key b=0:=by
 cases l with
 |nil=>simp[getL]at h
 |cons y r=>
  simp only[getL,Qe]at h;obtain⟨h1,rfl,rfl⟩:=h;exact⟨rfl,h1⟩
theorem Vf0(x:Ja)(l:List Ja):encA (x::l)=enc x++encA l:=by unfold encA;rw[Q5]
end Go.Proofs.YtnfhkhlbdgbkjaaGreatDoor

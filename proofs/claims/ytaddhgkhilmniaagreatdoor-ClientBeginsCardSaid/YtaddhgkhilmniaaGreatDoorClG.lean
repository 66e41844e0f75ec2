/- The reference's flash: what a new one, a change and a mount compute, as functions that the kernel runs quickly. No condition. -/
import Derived.Test.YtaddhgkhilmniaaGreatDoorFns1
set_option linter.unusedVariables false
set_option linter.unusedSimpArgs false
set_option maxRecDepth 100000
namespace Go.Proofs.YtaddhgkhilmniaaGreatDoor
open Go Go.Abs Sip
open _root_.Option renaming bind_some → Qa, bind_eq_some_iff → Qb
open _root_.List renaming replicate → Qc, drop_eq_getElem_cons → Qd, getElem?_eq_getElem → Qh, replicate_succ → Qj, append_assoc → Qk
open _root_.Bool renaming and_eq_true → Qf
open _root_.Nat renaming ble → Qg, eq_of_beq_eq_true → Qi
open Go.IntKind renaming wrap → Ql
open _root_.Int renaming mul_nonneg → Qm, mul_le_mul → Qn
theorem Vl1 {n:Nat} (h:n<=1000000):small n 1=true:=Vlz (by omega)
theorem Vpr (ps pg:Int) (q:Int×List UInt8×Unit) (h1:512<=ps) (h2:ps<=8192) (h3:1<=pg) (h4:pg<=8) :
  Zdf_L0 (ps,pg,q,(ps,[],()),(0:Int),())=some ((q.1,q.2.1,()),(ps,Qc (ps.toNat * pg.toNat) 255,()),()):=by
 have hm:(ps * pg).toNat=ps.toNat * pg.toNat:=by rw [Int.toNat_mul]<;>omega
 have hb:ps * pg<=65536:=by
  have:=Qn h2 h4 (by omega) (by omega);omega
 have h0:0<=ps * pg:=Qm (by omega) (by omega);rw [<- hm];unfold Zdf_L0 Yi5;rw [Vbs (λs=>s.1=ps/\s.2.1=pg/\0<=s.2.2.2.2.1/\s.2.2.2.2.1<=ps * pg/\(s.2.2.2.1.2.1.length:Int)=s.2.2.2.2.1) (λs=>(ps * pg - s.2.2.2.2.1).toNat)
  (λs=>((s.2.2.1.1,s.2.2.1.2.1,()),(s.2.2.2.1.1,s.2.2.2.1.2.1++Qc (ps * pg - s.2.2.2.2.1).toNat 255,()),()))]
 ·simp
 ·rintro ⟨y0,y1,y2,⟨a,l,u⟩,i,v⟩ ⟨e0,e1,e2,e3,e4⟩;dsimp only at *;subst e0; subst e1;simp only [Zdf_L0b];rw [wI (y0 * y1) (by omega)];by_cases hi:i < y0 * y1
  ·left;rw [show decide (i < y0 * y1)=true by simpa using hi,Vl1 (by simp; omega),wI (i+1) (by omega)];simp only [cond_true];refine ⟨_,rfl,⟨rfl,rfl,by dsimp only; omega,by dsimp only; omega,by dsimp only; simp; omega⟩,by dsimp only; omega,?_⟩;dsimp only;rw [show (y0 * y1 - i).toNat=(y0 * y1 - (i+1)).toNat+1 by omega,Qj,Qk];rfl
  ·right;have:i=y0 * y1:=by omega
   rw [show decide (i < y0 * y1)=false by simpa using hi];simp [this]
 ·exact ⟨rfl,rfl,by simp,h0,by simp⟩
 ·rw [Vab]; dsimp only; omega
def passkeyref7_NewFlashF (a0 a1:Int):Option (Unit×(Js×Int×Unit)):=
 bif decide (512<=a0)&&(decide (a0<=8192)&&(decide (1<=a1)&&decide (a1<=8))) then some ((),⟨a0,Qc (a0.toNat * a1.toNat) 255⟩,0,()) else none
def S_passkeyref7_NewFlashF:FSpec T:=⟨[.f (.v (.int .i64)),.f (.v (.int .i64))],[(.v (.agg 6)),(.v (.int .i64))],λx=>passkeyref7_NewFlashF x.1 x.2.1⟩
theorem Vke (a0 a1:Int) {r:Unit×(Js×Int×Unit)} (h:passkeyref7_NewFlashF a0 a1=some r):Zdf a0 a1=some r:=by
 unfold passkeyref7_NewFlashF at h;cases hc:(decide (512<=a0)&&(decide (a0<=8192)&&(decide (1<=a1)&&decide (a1<=8))))<;>rw [hc] at h
 ·cases h
 simp only [Qf,decide_eq_true_eq] at hc;obtain ⟨h1,h2,h3,h4⟩:=hc;rw [<- h];unfold Zdf;rw [show decide (a0 < 512)=false by simpa using h1,show decide (8192 < a0)=false by simpa using h2,show decide (a1 < 1)=false by simpa using h3,show decide (8 < a1)=false by simpa using h4];simp only [cond_false,cond_true];rw [Vpr a0 a1 _ h1 h2 h3 h4];rfl
theorem Vcw:SoundT Tryz.prog cd gdn 166 S_passkeyref7_NewFlashF:=Vdk Vx4 λx r h=>Vke _ _ h
def ovw (l:List UInt8) (p:Nat) (vs:List UInt8):List UInt8:=l.take p++(vs++l.drop (p+vs.length))
theorem Vps (l:List UInt8) (p:Nat):ovw l p []=l:=by simp [ovw]
theorem Vm0 (l:List UInt8) (p:Nat) (v:UInt8) (vs:List UInt8) (h:p < l.length):ovw l p (v::vs)=ovw (l.set p v) (p+1) vs:=by
 have e:l.set p v=l.take p++v::l.drop (p+1):=by rw [List.set_eq_take_append_cons_drop,if_pos h]
 have hl:(l.take p).length=p:=by simp; omega
 have t:(l.take p++v::l.drop (p+1)).take (p+1)=l.take p++[v]:=by
  rw [List.take_append,hl,show p+1 - p=1 by omega,List.take_of_length_le (by omega)];rfl
 have d:(l.take p++v::l.drop (p+1)).drop (p+1+vs.length)=l.drop (p+(vs.length+1)):=by
  rw [List.drop_append,hl,List.drop_of_length_le (by omega),show p+1+vs.length - p=vs.length+1 by omega,List.drop_succ_cons,List.drop_drop,List.nil_append];congr 1; omega
 unfold ovw;rw [e,t,d,List.length_cons,Qk];rfl
def andL:List UInt8->List UInt8->List UInt8
 | [],_=>[]
 | _::_,[]=>[]
 | x::r,y::t=>UInt8.ofBitVec (x.toBitVec &&& y.toBitVec)::andL r t
theorem Vv4:∀ l,andL l []=[]
 | []=>rfl
 | _::_=>rfl
theorem Vbja (at_ len ps b:Int) (l0:List UInt8) (z:Js) (hb:b < 0) (h0:0<=at_) (hn:0<=len) (h1:at_+len<=(l0.length:Int)) (h2:l0.length<=1000000) :
  Zfx_L0 (at_,len,[],b,(ps,l0,()),(z,()),(0:Int),())=some (.inr (b,(ps,ovw l0 at_.toNat (Qc len.toNat 255),()),(z,()),())):=by
 unfold Zfx_L0 Yi7;rw [Vbs (λs=>s.1=at_/\s.2.1=len/\s.2.2.1=[]/\s.2.2.2.1=b/\s.2.2.2.2.1.1=ps/\s.2.2.2.2.2.1=(z,())/\0<=s.2.2.2.2.2.2.1/\s.2.2.2.2.2.2.1<=len/\s.2.2.2.2.1.2.1.length=l0.length) (λs=>(len - s.2.2.2.2.2.2.1).toNat)
  (λs=>.inr (b,(ps,ovw s.2.2.2.2.1.2.1 (at_+s.2.2.2.2.2.2.1).toNat (Qc (len - s.2.2.2.2.2.2.1).toNat 255),()),(z,()),()))]
 ·simp
 ·rintro ⟨y0,y1,y2,y3,⟨y4,l,u⟩,y5,i,v⟩ ⟨e0,e1,e2,e3,e4,e5,e6,e7,e8⟩;dsimp only at *;subst e0; subst e1; subst e2; subst e3; subst e4; subst e5;simp only [Zfx_L0b];by_cases hi:i < y1
  ·left;have hlt:(y0+i).toNat < l.length:=by omega
   rw [show decide (i < y1)=true by simpa using hi,show decide (y3=0)=false by simp; omega,wI (y0+i) (by omega),wI (i+1) (by omega),show decide ((0:Int) < y3)=false by simp; omega];rw [show (decide ((0:Int)<=y0+i)&&decide (y0+i < (l.length:Int)))=true by simp; omega];simp only [cond_true,cond_false,List.length_nil,Qh hlt,Qa];refine ⟨_,rfl,⟨rfl,rfl,rfl,rfl,rfl,rfl,by dsimp only; omega,by dsimp only; omega,by dsimp only; simp [e8]⟩,by dsimp only; omega,?_⟩;dsimp only;rw [show (y1 - i).toNat=(y1 - (i+1)).toNat+1 by omega,Qj,Vm0 _ _ _ _ hlt,show (y0+(i+1)).toNat=(y0+i).toNat+1 by omega]
  ·right;have:i=y1:=by omega
   rw [show decide (i < y1)=false by simpa using hi];simp [this,Vps]
 ·exact ⟨rfl,rfl,rfl,rfl,rfl,rfl,by simp,hn,rfl⟩
 ·rw [Vab]; dsimp only; omega
theorem Vbka (at_ ps b:Int) (d l0:List UInt8) (z:Js) (hb:b < 0) (h0:0<=at_) (hd:d≠[]) (h1:at_+(d.length:Int)<=(l0.length:Int)) (h2:l0.length<=1000000) :
  Zfx_L0 (at_,(d.length:Int),d,b,(ps,l0,()),(z,()),(0:Int),())=some (.inr (b,(ps,ovw l0 at_.toNat (andL (l0.drop at_.toNat) d),()),(z,()),())):=by
 have hdl:0 < d.length:=List.length_pos_iff.2 hd;unfold Zfx_L0 Yi7;rw [Vbs (λs=>s.1=at_/\s.2.1=(d.length:Int)/\s.2.2.1=d/\s.2.2.2.1=b/\s.2.2.2.2.1.1=ps/\s.2.2.2.2.2.1=(z,())/\0<=s.2.2.2.2.2.2.1/\s.2.2.2.2.2.2.1<=(d.length:Int)/\s.2.2.2.2.1.2.1.length=l0.length) (λs=>((d.length:Int) - s.2.2.2.2.2.2.1).toNat)
  (λs=>.inr (b,(ps,ovw s.2.2.2.2.1.2.1 (at_+s.2.2.2.2.2.2.1).toNat (andL (s.2.2.2.2.1.2.1.drop (at_+s.2.2.2.2.2.2.1).toNat) (d.drop s.2.2.2.2.2.2.1.toNat)),()),(z,()),()))]
 ·simp
 ·rintro ⟨y0,y1,y2,y3,⟨y4,l,u⟩,y5,i,v⟩ ⟨e0,e1,e2,e3,e4,e5,e6,e7,e8⟩;dsimp only at *;subst e0; subst e1; subst e2; subst e3; subst e4; subst e5;simp only [Zfx_L0b];by_cases hi:i < (y2.length:Int)
  ·left;have hlt:(y0+i).toNat < l.length:=by omega
   have hld:i.toNat < y2.length:=by omega
   rw [show decide (i < (y2.length:Int))=true by simpa using hi,show decide (y3=0)=false by simp; omega,wI (y0+i) (by omega),wI (i+1) (by omega),show decide ((0:Int) < y3)=false by simp; omega];rw [show (decide ((0:Int)<=y0+i)&&decide (y0+i < (l.length:Int)))=true by simp; omega,show decide ((y2.length:Int)=0)=false by simp; omega,Vb3 e6 hi];simp only [cond_true,cond_false,Qh hlt,Qa];refine ⟨_,rfl,⟨rfl,rfl,rfl,rfl,rfl,rfl,by dsimp only; omega,by dsimp only; omega,by dsimp only; simp [e8]⟩,by dsimp only; omega,?_⟩;dsimp only;have ed:y2.drop i.toNat=ati y2 i::y2.drop (i.toNat+1):=by
    rw [Qd hld];simp [ati,hld]
   rw [show (i+1).toNat=i.toNat+1 by omega,show (y0+(i+1)).toNat=(y0+i).toNat+1 by omega,ed,Qd hlt];simp only [andL];rw [Vm0 _ _ _ _ hlt];congr 6;rw [List.drop_set_of_lt (by omega)]
  ·right;have:i=y2.length:=by omega
   rw [show decide (i < (y2.length:Int))=false by simpa using hi];subst this;simp [Vv4,Vps]
 ·exact ⟨rfl,rfl,rfl,rfl,rfl,rfl,by simp,by simp,rfl⟩
 ·rw [Vab]; dsimp only; omega
def passkeyref7_changeF (a0:Js) (a1 a2:Int) (a3:List UInt8) (a4:Int):Option (Unit×(Js×Int×Int×Unit)):=
 bif decide (a4 < 0)&&(decide (0<=a1)&&(decide (0<=a2)&&(Qg (a1.toNat+a2.toNat) a0.bytes.length&&Qg a0.bytes.length 1000000))) then
  (match a3 with
  | []=>some ((),⟨a0.jc,ovw a0.bytes a1.toNat (Qc a2.toNat 255)⟩,a4,0,())
  | x::r=>bif Nat.beq (x::r).length a2.toNat then some ((),⟨a0.jc,ovw a0.bytes a1.toNat (andL (a0.bytes.drop a1.toNat) (x::r))⟩,a4,0,()) else none) else none
def S_passkeyref7_changeF:FSpec T:=⟨[.f (.v (.agg 6)),.f (.v (.int .i64)),.f (.v (.int .i64)),.f (.v (.rs 0)),.f (.v (.int .i64))],[(.v (.agg 6)),(.v (.int .i64)),(.v (.int .i64))],λx=>passkeyref7_changeF x.1 x.2.1 x.2.2.1 x.2.2.2.1 x.2.2.2.2.1⟩
theorem Voj (a0:Js) (a1 a2:Int) (a3:List UInt8) (a4:Int) {r:Unit×(Js×Int×Int×Unit)} (h:passkeyref7_changeF a0 a1 a2 a3 a4=some r):Zfx a0 a1 a2 a3 a4=some r:=by
 unfold passkeyref7_changeF at h;cases hc:(decide (a4 < 0)&&(decide (0<=a1)&&(decide (0<=a2)&&(Qg (a1.toNat+a2.toNat) a0.bytes.length&&Qg a0.bytes.length 1000000))))<;>rw [hc] at h
 ·cases h
 simp only [Qf,decide_eq_true_eq,Nat.ble_eq] at hc;obtain ⟨h1,h2,h3,h4,h5⟩:=hc;unfold Zfx;rw [Vl1 h5];simp only [cond_true] at h |-;match a3,h with
 | [],h=>
  rw [Vbja a1 a2 a0.jc a4 a0.bytes _ h1 h2 h3 (by omega) h5,<- h];rfl
 | x::q,h=>
  dsimp only at h;cases hl:Nat.beq (x::q).length a2.toNat<;>rw [hl] at h
  ·cases h
  have hl:=Qi hl;have e:a2=((x::q).length:Int):=by omega
  rw [e,Vbka a1 a0.jc a4 (x::q) a0.bytes _ h1 h2 (by simp) (by omega) h5,<- h];rfl
theorem Vdg:SoundT Tryz.prog cd gdn 435 S_passkeyref7_changeF:=Vdk Vx5 λx r h=>Voj _ _ _ _ _ h
def jbh (l:List UInt8):Bool:=l.any λx=>!(Nat.beq x.toNat 255)
theorem Vbla (x:UInt8):(!decide (x.toBitVec=(255:UInt8).toBitVec)) = !(Nat.beq x.toNat 255):=by
 congr 1;cases hb:Nat.beq x.toNat 255
 ·simp only [decide_eq_false_iff_not];intro e;have:x.toNat=255:=by show x.toBitVec.toNat=255; rw [e]; rfl
  rw [this] at hb; cases hb
 ·have:=Qi hb;simp only [decide_eq_true_eq];apply BitVec.eq_of_toNat_eq;exact this
theorem Vbma (f:Js) (j:Jq) (a:Int) (l:List UInt8) (p g t:Int) (b:Bool) (i:Int) (hp:0<=p) (hp2:p<=100) (hs:0<=f.jc) (hs2:f.jc<=100000) (hi:0<=i) (hi2:i<=f.jc) (hl:p * f.jc+f.jc<=(f.bytes.length:Int)) :
  Zhc_L0 ((f,()),(j,()),(a,l,p,g,t,b,()),i,())=some ((j,()),(a,l,p,g,t,(b||jbh ((f.bytes.drop (p * f.jc+i).toNat).take (f.jc - i).toNat)),()),()):=by
 have hm:0<=p * f.jc:=Qm hp hs;have hm2:p * f.jc<=100 * 100000:=Qn hp2 hs2 hs (by omega);unfold Zhc_L0 Yi4;rw [Vbs (λs=>s.1=(f,())/\s.2.1=(j,())/\(∃ b',s.2.2.1=(a,l,p,g,t,b',()))/\0<=s.2.2.2.1/\s.2.2.2.1<=f.jc) (λs=>(f.jc - s.2.2.2.1).toNat)
  (λs=>((j,()),(a,l,p,g,t,(s.2.2.1.2.2.2.2.2.1||jbh ((f.bytes.drop (p * f.jc+s.2.2.2.1).toNat).take (f.jc - s.2.2.2.1).toNat)),()),()))]
 ·rintro ⟨y0,y1,y2,k,v⟩ ⟨e0,e1,⟨b',e2⟩,e3,e4⟩;dsimp only at *;subst e0; subst e1; subst e2;simp only [Zhc_L0b];by_cases hk:k < f.jc
  ·left;have hlt:(p * f.jc+k).toNat < f.bytes.length:=by omega
   rw [show decide (k < f.jc)=true by simpa using hk,wI (p * f.jc) (by omega),wI (p * f.jc+k) (by omega),wI (k+1) (by omega)];rw [Vb3 (by omega) (by omega)];simp only [cond_true,Qa,Vbla];have e:(f.bytes.drop (p * f.jc+k).toNat).take (f.jc - k).toNat=ati f.bytes (p * f.jc+k)::(f.bytes.drop (p * f.jc+(k+1)).toNat).take (f.jc - (k+1)).toNat:=by
    rw [Qd hlt,show (f.jc - k).toNat=(f.jc - (k+1)).toNat+1 by omega,List.take_succ_cons,show (p * f.jc+(k+1)).toNat=(p * f.jc+k).toNat+1 by omega];simp [ati,hlt]
   cases b'
   ·refine ⟨_,rfl,⟨rfl,rfl,⟨_,rfl⟩,by dsimp only; omega,by dsimp only; omega⟩,by dsimp only; omega,?_⟩;dsimp only;rw [e];simp [jbh]
   ·refine ⟨_,rfl,⟨rfl,rfl,⟨_,rfl⟩,by dsimp only; omega,by dsimp only; omega⟩,by dsimp only; omega,?_⟩;dsimp only;simp
  ·right;have:k=f.jc:=by omega
   rw [show decide (k < f.jc)=false by simpa using hk];subst this;simp [jbh]
 ·exact ⟨rfl,rfl,⟨b,rfl⟩,hi,hi2⟩
 ·rw [Vab]; dsimp only; omega
def mountE (f:Js) (p g:Int):Option (Unit×(Jq×Int×Unit)):=
 (Zis f p g).bind λr5=>
  bif (decide (0<=f.jc)&&(decide (f.jc<=100000)&&(decide (0<=r5.2.2.1)&&(decide (r5.2.2.1<=f.jc)&&decide (p * f.jc+f.jc<=(f.bytes.length:Int)))))) then
   some ((),(⟨⟨f.jc,f.bytes⟩,p,g,r5.2.2.1,jbh ((f.bytes.drop (p * f.jc+r5.2.2.1).toNat).take (f.jc - r5.2.2.1).toNat)⟩:Jq),0,()) else none
def passkeyref7_MountF (a0:Js):Option (Unit×(Jq×Int×Unit)):=
 (Zan a0).bind λr1=>bif !decide (r1.2.1=0) then none
 else bif decide ((a0.bytes.length:Int) < Ql .i64 (2 * a0.jc)) then none
 else (Zca a0 0).bind λr2=>(Zca a0 1).bind λr3=>
  bif decide (r2.2.1=0)&&decide (r3.2.1=0) then some ((),(⟨⟨0,[]⟩,0,0,0,false⟩:Jq),11,())
  else bif Qg a0.bytes.length 1000000 then (bif decide (r2.2.1 < r3.2.1) then mountE a0 1 r3.2.1 else mountE a0 0 r2.2.1) else none
def S_passkeyref7_MountF:FSpec T:=⟨[.f (.v (.agg 6))],[(.v (.agg 7)),(.v (.int .i64))],λx=>passkeyref7_MountF x.1⟩
theorem Vkf (f:Js) (p g:Int) (hp:0<=p) (hp2:p<=100) {r:Unit×(Jq×Int×Unit)} (h:mountE f p g=some r) :
  ((Zis f p g).bind λr5=>((Zhc_L0 ((f,()),((⟨⟨(0:Int),[]⟩,(0:Int),(0:Int),(0:Int),false⟩:Jq),()),(f.jc,f.bytes,p,g,r5.2.2.1,false,()),r5.2.2.1,())).bind (λ(z8:((Jq×Unit)×(Int×(List (UInt8))×Int×Int×Int×Bool×Unit)×Unit))=>(some ((),((⟨⟨z8.2.1.1,z8.2.1.2.1⟩,z8.2.1.2.2.1,z8.2.1.2.2.2.1,z8.2.1.2.2.2.2.1,z8.2.1.2.2.2.2.2.1⟩:Jq),(0:Int),()))))) )=some r:=by
 unfold mountE at h;rw [Qb] at h;obtain ⟨r5,e5,h⟩:=h;rw [e5,Qa];cases hc:(decide (0<=f.jc)&&(decide (f.jc<=100000)&&(decide (0<=r5.2.2.1)&&(decide (r5.2.2.1<=f.jc)&&decide (p * f.jc+f.jc<=(f.bytes.length:Int))))))<;>rw [hc] at h
 ·cases h
 simp only [Qf,decide_eq_true_eq] at hc;obtain ⟨h1,h2,h3,h4,h5⟩:=hc;rw [Vbma f _ _ _ p g r5.2.2.1 false r5.2.2.1 hp hp2 h1 h2 h3 h4 h5,<- h];rfl
theorem Vpt (a0:Js) {r:Unit × (Jq × Int × Unit)} (h:passkeyref7_MountF a0=some r):Zhc a0=some r:=by
  unfold passkeyref7_MountF at h;unfold Zhc;rw [Qb] at h;obtain ⟨r1,e1,h⟩:=h;rw [e1,Qa];cases c1:(!decide (r1.2.1=0)) <;> simp only [c1,cond_true,cond_false] at h |-
  case true=>cases h
  cases c2:decide ((a0.bytes.length:Int) < Ql .i64 (2 * a0.jc)) <;> simp only [c2,cond_true,cond_false] at h |-
  case true=>cases h
  rw [Qb] at h;obtain ⟨r2,e2,h⟩:=h;rw [e2,Qa];rw [Qb] at h;obtain ⟨r3,e3,h⟩:=h;rw [e3,Qa];cases c3:decide (r2.2.1=0) <;> cases c4:decide (r3.2.1=0) <;> cases c5:decide (r2.2.1 < r3.2.1) <;> simp only [c3,c4,c5,cond_true,cond_false,Bool.and_true,Bool.and_false] at h |-;all_goals first
    | exact h
    | (cases c6:Qg a0.bytes.length 1000000 <;> simp only [c6,cond_true,cond_false] at h
       · cases h
       rw [Vl1 (Nat.le_of_ble_eq_true c6)];first | exact Vkf a0 0 r2.2.1 (by decide) (by decide) h | exact Vkf a0 1 r3.2.1 (by decide) (by decide) h)
theorem Vdm:SoundT Tryz.prog cd gdn 258 S_passkeyref7_MountF:=Vdk Vx6 λx r h=>Vpt _ h
end Go.Proofs.YtaddhgkhilmniaaGreatDoor

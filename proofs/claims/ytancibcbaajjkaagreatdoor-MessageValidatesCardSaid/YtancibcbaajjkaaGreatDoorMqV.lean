/- The requests that a play makes are valid; a play that was started is in order; a drawn request is sane. -/
import Derived.Test.YtancibcbaajjkaaGreatDoorMqU
set_option linter.unusedVariables false
set_option linter.unusedSimpArgs false
set_option maxRecDepth 100000
namespace Go.Proofs.YtancibcbaajjkaaGreatDoor
open Go Go.Abs
open Go.IntKind renaming bits → Qa, wrap → Qb
open _root_.BitVec renaming ofInt → Qc
open _root_.Int renaming fdiv → Qd
theorem Vor (r:Jb) (k1:1<=r.kind) (k2:r.kind<=14) (ft:fitQ (mkQ r.kind) (useQ r)=true) (au:(!decide (r.auth=0#64)&&!r.jk)=false) (nu:numQ r=true) (bg:bigQ r=false) (v1:Lib.validD r.rP=true) (v2:Lib.validD r.name=true) (ids:idsQ r=0):valQ r=0:=by
 unfold valQ
 rw [decide_eq_true k1,decide_eq_true k2,ft,au,nu,bg,v1,v2,ids]
 rfl
theorem vnil:Lib.validD []=true:=by decide +kernel
theorem Vdya:∀ a b:Bool,fitQ (mkQ 7) [false,false,false,false,false,false,false,false,false,false,false,false,false,a,b,false,false,false,false]=true:=by decide +kernel
theorem Vdza:∀ a b c:Bool,fitQ (mkQ 9) [false,false,false,false,false,false,false,false,false,false,false,false,false,a,false,b,c,false,false]=true:=by decide +kernel
theorem Vzn:∀ a b c d e f g h:Bool,fitQ (mkQ 2) [a,b,false,c,d,e,false,f,false,false,g,false,h,false,false,false,false,false,false]=true:=by decide +kernel
theorem Vd0a (p:BitVec 64) (b:List UInt8) (h:b.length<=1024):valQ ⟨7,[],[],[],0#64,0,0,[],false,false,false,false,0,0#64,false,p,b,[],0,[],0⟩=0:=
 Vor _ (by dsimp only; omega) (by dsimp only; omega) (Vdya _ _) rfl rfl (by unfold bigQ; dsimp only; rw [decide_eq_false (by omega:¬ (1024:Int) < (b.length:Int))]; rfl) vnil vnil (by kernel_rfl)
theorem Vd1a (p:BitVec 64) (b:List UInt8) (h:b.length<=1024) (n:Int) (h0:0<=n) (h1:n<=255):valQ ⟨9,[],[],[],0#64,0,0,[],false,false,false,false,0,0#64,false,p,[],b,n,[],0⟩=0:=
 Vor _ (by dsimp only; omega) (by dsimp only; omega) (Vdza _ _ _) rfl (by unfold numQ; dsimp only; unfold smallI; rw [decide_eq_true h0,decide_eq_true h1]; rfl) (by unfold bigQ; dsimp only; rw [decide_eq_false (by omega:¬ (1024:Int) < (b.length:Int))]; rfl) vnil vnil (by kernel_rfl)
theorem Vzo (rp us:List UInt8) (w:BitVec 64) (ht pr:Int) (rs sh:Bool) (a:BitVec 64) (h1:rp.length<=64) (h2:us.length<=16) (hv:Lib.validD rp=true) (t0:0<=ht) (t1:ht<=255) (p0:0<=pr) (p1:pr<=255):valQ ⟨2,rp,us,[],w,ht,pr,[],rs,false,false,sh,0,a,true,0#64,[],[],0,[],0⟩=0:=
 Vor _ (by dsimp only; omega) (by dsimp only; omega) (Vzn _ _ _ _ _ _ _ _) (by cases decide (a=0#64)<;>rfl) (by unfold numQ; dsimp only; unfold smallI; rw [decide_eq_true t0,decide_eq_true t1,decide_eq_true p0,decide_eq_true p1]; rfl) (by unfold bigQ; dsimp only; rw [decide_eq_false (by omega:¬ (64:Int) < (rp.length:Int)),decide_eq_false (by omega:¬ (16:Int) < (us.length:Int))]; rfl) hv vnil (by kernel_rfl)
theorem Vd2a (n:Int):∃ (m s:BitVec 64) (ps k:Nat) (fi:Bool) (j:Nat) (cs:List (List UInt8)),Zcq n=some ((),⟨m,s,(ps:Int),fi,77#64,2,(k:Int),2+(j:Int),cs⟩,())/\512<=ps/\ps<=8192/\k<=1/\j<=1/\(cs=[[111,110,101]]\/cs=[[111,110,101],[116,119,111]]):=by
 unfold Zcq
 obtain ⟨k4,h4,e4⟩:=mask (Qd n (2 ^ (min 4 (Qa .i64)))) 3 (by omega)
 obtain ⟨k6,h6,e6⟩:=mask (Qd n (2 ^ (min 6 (Qa .i64)))) 1 (by omega)
 obtain ⟨k7,h7,e7⟩:=mask (Qd n (2 ^ (min 7 (Qa .i64)))) 1 (by omega)
 obtain ⟨k8,h8,e8⟩:=mask (Qd n (2 ^ (min 8 (Qa .i64)))) 1 (by omega)
 obtain ⟨k9,h9,e9⟩:=mask (Qd n (2 ^ (min 9 (Qa .i64)))) 1 (by omega)
 rw [show ((3:Nat):Int)=(3:Int) from rfl] at e4
 rw [show ((1:Nat):Int)=(1:Int) from rfl] at e6 e7 e8 e9
 dsimp only
 rw [e4,e6,e7,e8,e9]
 have w8:Qb .i64 ((2:Int)+(k8:Int))=2+(k8:Int):=Vaa (by omega) (by omega)
 rw [w8]
 rcases (by omega:k9=0\/k9=1) with rfl | rfl<;>rcases (by omega:k4=0\/k4=1\/k4=2\/k4=3) with rfl | rfl | rfl | rfl
 ·exact ⟨_,_,2048,k7,_,k8,_,rfl,by omega,by omega,h7,h8,.inl rfl⟩
 ·exact ⟨_,_,1024,k7,_,k8,_,rfl,by omega,by omega,h7,h8,.inl rfl⟩
 ·exact ⟨_,_,512,k7,_,k8,_,rfl,by omega,by omega,h7,h8,.inl rfl⟩
 ·exact ⟨_,_,640,k7,_,k8,_,rfl,by omega,by omega,h7,h8,.inl rfl⟩
 ·exact ⟨_,_,2048,k7,_,k8,_,rfl,by omega,by omega,h7,h8,.inr rfl⟩
 ·exact ⟨_,_,1024,k7,_,k8,_,rfl,by omega,by omega,h7,h8,.inr rfl⟩
 ·exact ⟨_,_,512,k7,_,k8,_,rfl,by omega,by omega,h7,h8,.inr rfl⟩
 ·exact ⟨_,_,640,k7,_,k8,_,rfl,by omega,by omega,h7,h8,.inr rfl⟩
def devN (f:Jv) (l:Jk):Jc:=⟨f,⟨⟨l,0,0,0,false⟩,[]⟩,false,0,0,0,0,⟨0#64,false,0#64,0,[],0⟩,⟨false,0,0#64,0,[]⟩⟩
def dev0:Jc:=⟨⟨0#64,0#64,0,false,0#64,0,0,0,[]⟩,⟨⟨⟨0,[]⟩,0,0,0,false⟩,[]⟩,false,0,0,0,0,⟨0#64,false,0#64,0,[],0⟩,⟨false,0,0#64,0,[]⟩⟩
theorem Vfma (m s:BitVec 64) (ps k:Nat) (fi:Bool) (j:Nat) (cs:List (List UInt8)) (h1:512<=ps) (h2:ps<=8192) (hk:k<=1) (hj:j<=1) (hc:cs=[[111,110,101]]\/cs=[[111,110,101],[116,119,111]]):Zga ⟨m,s,(ps:Int),fi,77#64,2,(k:Int),2+(j:Int),cs⟩=some ((),devN ⟨m,s,(ps:Int),fi,77#64,2,(k:Int),2+(j:Int),cs⟩ (FF ps),0,()):=by
 unfold Zga
 dsimp only
 rw [decide_eq_false (by omega:¬ (ps:Int) < 512),cond_false,decide_eq_false (by omega:¬ (8192:Int) < (ps:Int)),cond_false,show decide ((2:Int) < 0)=false from rfl,cond_false,show decide ((4:Int) < 2)=false from rfl,cond_false,decide_eq_false (by omega:¬ (k:Int) < 0),cond_false,decide_eq_false (by omega:¬ 2+(j:Int) < (k:Int)),cond_false,show Qb .i64 ((1:Int) * 2 ^ (min (Qc 64 2).toNat (Qa .i64)))=4 from rfl,decide_eq_false (by omega:¬ (4:Int) < 2+(j:Int)),cond_false]
 rcases hc with rfl | rfl
 ·rw [show decide ((3:Int) < (([[111,110,101]]:List (List UInt8)).length:Int))=false from rfl,cond_false,show Zga_L0 _=some (Sum.inr ((⟨m,s,(ps:Int),fi,77#64,2,(k:Int),2+(j:Int),[[111,110,101]]⟩,()),(dev0,()),())) by kernel_rfl,bindU]
  simp only [Sum.elim_inr]
  rw [Vin ps h1 h2,bindU]
  rfl
 ·rw [show decide ((3:Int) < (([[111,110,101],[116,119,111]]:List (List UInt8)).length:Int))=false from rfl,cond_false,show Zga_L0 _=some (Sum.inr ((⟨m,s,(ps:Int),fi,77#64,2,(k:Int),2+(j:Int),[[111,110,101],[116,119,111]]⟩,()),(dev0,()),())) by kernel_rfl,bindU]
  simp only [Sum.elim_inr]
  rw [Vin ps h1 h2,bindU]
  rfl
theorem Vxb (d:Jc) (n:Int):∃ x,Zde d n=some ((),w8 x,()):=by
 unfold Zde
 obtain ⟨⟨_,x,_⟩,h,_⟩:=Vfq d.jl.jag ([109,97,115,116,101,114]:List UInt8) n (by decide)
 rw [h,bindU,rW1,bindU]
 exact ⟨x,rfl⟩
theorem Vzp (k j:Nat) (hk:k<=1) (hj:j<=1):∃ b0 b1 b2,Zam ⟨0#64,(k:Int),2+(j:Int),(k:Int)⟩=some ((),w8 0++[b0,b1,b2],()):=by
 unfold Zam Zdr
 dsimp only
 rw [decide_eq_true (by omega:(0:Int)<=(k:Int)),cond_true,decide_eq_true (by omega:(k:Int)<=(k:Int)),cond_true,decide_eq_true (by omega:(k:Int)<=2+(j:Int)),cond_true,bindU,decide_eq_true (by omega:2+(j:Int)<=16),show (!true)=false from rfl,cond_false,rW1,bindU,Vac (by simp [w8]) (by omega),cond_true]
 exact ⟨_,_,_,rfl⟩
theorem Vrl (m s:BitVec 64) (ps k:Nat) (fi:Bool) (j:Nat) (cs:List (List UInt8)) (h1:512<=ps) (h2:ps<=8192) (hk:k<=1) (hj:j<=1) (now:Nat) (hn:now<=7):Ok (Zez (devN ⟨m,s,(ps:Int),fi,77#64,2,(k:Int),2+(j:Int),cs⟩ (FF ps)) (now:Int) (-1)) λr=>DevOk r.2.1:=by
 unfold Zez devN
 dsimp only
 rw [cond_false,decide_eq_false (by omega:¬ (now:Int) < 0),cond_false,decide_eq_false (by omega:¬ (1099511627776:Int) < (now:Int)),cond_false,Vdja ps h1 h2,bindU]
 dsimp only
 rw [show (!decide ((0:Int)=0))=false from rfl,cond_false,show Zdw ⟨J1 ps,[]⟩=some ((),0,()) by kernel_rfl,bindU]
 dsimp only
 rw [show decide ((0:Int)=4294967295)=false from rfl,cond_false,show Zhm ⟨J1 ps,[]⟩ 1=some ((),[],()) by kernel_rfl,bindU]
 dsimp only
 rw [show decide ((([]:List UInt8).length:Int)=0)=true from rfl,cond_true]
 obtain ⟨x,hx⟩:=Vxb (⟨⟨m,s,(ps:Int),fi,77#64,2,(k:Int),2+(j:Int),cs⟩,⟨⟨FF ps,0,0,0,false⟩,[]⟩,false,0,0,0,0,⟨0#64,false,0#64,0,[],0⟩,⟨false,0,0#64,0,[]⟩⟩:Jc) (Qb .i64 ((Qb .i64 ((0:Int)+1)) * 2 ^ (min 20 (Qa .i64))))
 rw [hx,bindU,Vac (by simp) (by omega),cond_true,bindU]
 dsimp only
 rw [Vac (by simp) (by omega),cond_true,cond_true]
 obtain ⟨b0,b1,b2,hb⟩:=Vzp k j hk hj
 rw [hb,bindU,Vac (by simp) (by omega),cond_true,bindU]
 dsimp only
 refine Ok.bind (Ok.mono (Vwz ps h1 h2 x _ _ _ _ b0 b1 b2) ?_)
 rintro ⟨_,v,c,e,_⟩ ⟨k1,k2⟩
 dsimp only at *
 subst k2
 rw [show (!decide ((0:Int)=0))=false from rfl,cond_false]
 have hx:0<=(bif decide ((0:Int) < (now:Int)) then (now:Int) else (0:Int))/\(bif decide ((0:Int) < (now:Int)) then (now:Int) else (0:Int))<=1099511627776:=by
  cases decide ((0:Int) < (now:Int))<;>simp only [cond_true,cond_false]<;>omega
 generalize (bif decide ((0:Int) < (now:Int)) then (now:Int) else (0:Int))=y at hx
 refine Ok.bind (Ok.mono (Vwr _ k1) ?_)
 rintro ⟨_,d2,z,_⟩ ⟨n2,rfl⟩
 unfold Zar
 rw [bindU]
 exact Ok.some ⟨rfl,k1,hx.1,hx.2⟩
theorem Vzq (n:Int):Ok (Zes n) λr=>PlayOk r.2.1/\r.2.1.iDs.length<=0:=by
 unfold Zes
 obtain ⟨m,s,ps,k,fi,j,cs,hf,h1,h2,hk,hj,hc⟩:=Vd2a n
 rw [hf,bindU,Vfma m s ps k fi j cs h1 h2 hk hj hc,bindU]
 obtain ⟨t,ht,et⟩:=mask n 7 (by omega)
 rw [show ((7:Nat):Int)=(7:Int) from rfl] at et
 dsimp only
 rw [et]
 refine Ok.bind (Ok.mono (Vrl m s ps k fi j cs h1 h2 hk hj t ht) ?_)
 rintro ⟨_,d,c,e,_⟩ hd
 exact Ok.some ⟨⟨hd,λx hx=>(by cases hx),Nat.zero_le _⟩,Nat.le_refl _⟩
theorem Vos (d:Jc):Ok (Zhd d) λ_=>True:=by
 unfold Zhd
 refine Ok.bind (Ok.mono (Vfs _) ?_)
 rintro ⟨_,x,_⟩ _
 refine Ok.bind (Ok.mono (Vnd _ _) ?_)
 rintro ⟨_,y,_⟩ _
 exact Ok.some trivial
theorem Vgc (n:Int):∃ l,Zhc n=some ((),l,())/\l.length<=10:=by
 obtain ⟨k,hk,e⟩:=mask n 3 (by omega)
 rw [show ((3:Nat):Int)=(3:Int) from rfl] at e
 unfold Zhc
 dsimp only
 rw [e]
 rcases (by omega:k=0\/k=1\/k=2\/k=3) with rfl | rfl | rfl | rfl
 ·exact ⟨_,rfl,by decide⟩
 ·exact ⟨_,rfl,by decide⟩
 ·exact ⟨_,rfl,by decide⟩
 ·exact ⟨_,rfl,by decide⟩
theorem Vlk (n:Int):Ok (Zfv n) λ_=>True:=by
 unfold Zfv
 rw [rW1,bindU,rHash _ _ (by simp [w8]),bindU]
 exact Ok.some trivial
theorem z64:in64 0:=by unfold in64; omega
theorem Vnj (p:Ji) (h:PlayOk p) (n:Nat) (hn:p.iDs.length<=n) (hn2:n<=900) (a:Int) (h0:0<=a) (h1:a<=255):Ok (Zdm p a) λr=>PlayOk r.2.1/\r.2.1.iDs.length<=n+2:=by
 unfold Zdm
 refine Ok.bind (Ok.mono (Vos _) ?_)
 rintro ⟨_,x,_⟩ _
 obtain ⟨l,e,hl⟩:=Vgc 0
 rw [e,bindU]
 refine Ok.bind (Ok.mono (Vgb _ (by dsimp only; omega)) ?_)
 rintro ⟨_,y,_⟩ _
 refine Ok.bind (Ok.mono (Ve3 _ _ _) ?_)
 rintro ⟨_,w,_⟩ hw
 refine Ok.bind (Ok.mono (Vfs _) ?_)
 rintro ⟨_,z,_⟩ _
 dsimp only at *
 refine Ok.bind (Ok.mono (Do_ok p h n hn hn2 _ ⟨⟨by simp,by simp,by simp,by simp,by simp,by dsimp only; omega,by simp,z64,z64,z64,by unfold in64; dsimp only; omega,z64,by unfold in64; dsimp only; omega⟩,Vd1a z w (by omega) a h0 h1,.inr (.inl rfl)⟩ [] (by simp)) ?_)
 rintro ⟨_,q,r,_⟩ hq
 exact Ok.some hq
theorem Vgk (d:Jc) (r:Jb) (h:SaneQ r):Ok (Zbp d r) λq=>∃ a,q.2.1=⟨r.kind,r.rP,r.user,r.name,r.jaa,r.jc,r.jf,r.list,r.ji,r.js,r.jv,r.jo,r.jj,a,true,r.ju,r.box,r.proof,r.jb,r.iD,r.count⟩:=by
 unfold Zbp
 refine Ok.bind (Ok.mono (Vnh r h) ?_)
 rintro ⟨_,x,_⟩ _
 refine Ok.bind (Ok.mono (Vgj _ _) ?_)
 rintro ⟨_,y,_⟩ _
 exact Ok.some ⟨y,rfl⟩
theorem richL (a:Int) (y:Ji) (p:Ji) (h:PlayOk p) (hi:p.iDs.length<=2):Ok (Zfs_L0 (a,(y,()),(p,()),0,())) λz=>PlayOk z.2.1.1/\z.2.1.1.iDs.length<=14:=by
 unfold Zfs_L0
 refine Ok.iter (λs=>∃ (k:Nat) (p:Ji),k<=3/\PlayOk p/\p.iDs.length<=4 * k+2/\s=(a,(y,()),(p,()),(k:Int),())) (λs=>(3 - s.2.2.2.1).toNat) ⟨0,p,by omega,h,hi,rfl⟩ (by rw [Vab]; dsimp only; omega) ?_
 rintro s ⟨k,p,hk,hp,hl,rfl⟩
 dsimp only
 unfold Zfs_L0b
 refine Ok.cond (λhc=>?_) (λhc=>Ok.some ⟨hp,by dsimp only; omega⟩)
 have hc:=of_decide_eq_true hc
 refine Ok.bind (Ok.mono (Vnj p hp _ hl (by omega) 1 (by omega) (by omega)) ?_)
 rintro ⟨_,p2,_⟩ ⟨hp2,hl2⟩
 dsimp only at *
 obtain ⟨rp,e1,r1,r2,r3⟩:=RP_ok (Qb .i64 (Int.tdiv (Qb .i64 ((Qc (Qa .i64) (Qd a (2 ^ (min (Qc 64 (Qb .i64 ((2:Int) * (k:Int)))).toNat (Qa .i64)))) &&& Qc (Qa .i64) (3:Int)).toNat:Int)) (3:Int)))
 rw [e1,bindU]
 obtain ⟨us,e2,u1,u2⟩:=Vom (k:Int)
 rw [e2,bindU]
 refine Ok.bind (Ok.mono (Vlk _) ?_)
 rintro ⟨_,w,_⟩ _
 obtain ⟨k1,hk1,m1⟩:=mask (Qd a (2 ^ (min (Qc 64 (Qb .i64 ((6:Int)+(k:Int)))).toNat (Qa .i64)))) 1 (by omega)
 obtain ⟨k2,hk2,m2⟩:=mask (Qd a (2 ^ (min (Qc 64 (Qb .i64 ((9:Int)+(k:Int)))).toNat (Qa .i64)))) 1 (by omega)
 rw [show ((1:Nat):Int)=(1:Int) from rfl] at m1 m2
 rw [m1,m2,Vaa (n:=(1:Int)+(k1:Int)) (by omega) (by omega),Vaa (n:=(1:Int)+(k2:Int)) (by omega) (by omega)]
 have sane:∀ (b1 b2:Bool) (x:BitVec 64) (b3:Bool),SaneQ ⟨2,rp,us,[],w,1+(k1:Int),1+(k2:Int),[],b1,false,false,b2,0,x,b3,0#64,[],[],0,[],0⟩:=λb1 b2 x b3=>⟨by dsimp only; omega,by dsimp only; omega,by simp,by simp,by simp,by simp,by simp,by unfold in64; dsimp only; omega,by unfold in64; dsimp only; omega,z64,z64,z64,by unfold in64; dsimp only; omega⟩
 refine Ok.bind (Ok.mono (Vgk p2.je _ (sane _ _ _ _)) ?_)
 rintro ⟨_,q,_⟩ ⟨x,hq⟩
 dsimp only at hq
 subst hq
 dsimp only
 refine Ok.bind (Ok.mono (Do_ok p2 hp2 _ hl2 (by omega) _ ⟨sane _ _ _ _,Vzo rp us w _ _ _ _ x (by omega) (by omega) r3 (by omega) (by omega) (by omega) (by omega),.inr (.inr ⟨rfl,rfl,rfl⟩)⟩ _ (by simp)) ?_)
 rintro ⟨_,p3,rr,_⟩ ⟨hp3,hl3⟩
 dsimp only at *
 rw [Vaa (n:=(k:Int)+1) (by omega) (by omega)]
 exact Ok.some ⟨⟨k+1,p3,by omega,hp3,by omega,rfl⟩,by dsimp only; omega⟩
theorem Vd3a (n a:Int):Ok (Zfs n a) λr=>PlayOk r.2.1/\r.2.1.iDs.length<=16:=by
 unfold Zfs
 refine Ok.bind (Ok.mono (Vzq n) ?_)
 rintro ⟨_,p,_⟩ ⟨hp,hl⟩
 refine Ok.bind (Ok.mono (Vos _) ?_)
 rintro ⟨_,x,_⟩ _
 refine Ok.bind (Ok.mono (Vfs _) ?_)
 rintro ⟨_,z,_⟩ _
 obtain ⟨l,e,hl1⟩:=Vgc 0
 rw [e,bindU]
 refine Ok.bind (Ok.mono (Vjy _ _ _) ?_)
 rintro ⟨_,b,c,_⟩ ⟨hb,_⟩
 dsimp only at *
 have hb2:b.length<=1024:=by rename_i h80; have:=h80 (by omega); omega
 refine Ok.bind (Ok.mono (Do_ok p hp _ hl (by omega) _ ⟨⟨by simp,by simp,by simp,by simp,by dsimp only; omega,by simp,by simp,z64,z64,z64,z64,z64,by unfold in64; dsimp only; omega⟩,Vd0a z b hb2,.inl rfl⟩ [] (by simp)) ?_)
 rintro ⟨_,p2,rr,_⟩ ⟨hp2,hl2⟩
 dsimp only at *
 refine Ok.bind (Ok.mono (richL a _ p2 hp2 hl2) ?_)
 rintro ⟨y,⟨p3,_⟩,_⟩ ⟨hp3,hl3⟩
 dsimp only at *
 refine Ok.bind (Ok.mono (Vnj p3 hp3 _ hl3 (by omega) 7 (by omega) (by omega)) ?_)
 rintro ⟨_,p4,_⟩ h4
 exact Ok.some h4
end Go.Proofs.YtancibcbaajjkaaGreatDoor

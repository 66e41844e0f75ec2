/- The requests that a play makes are valid; a play that was started is in order; a drawn request is sane. -/
import Derived.Test.YtnfhkhlbdgbkjaaGreatDoorMqU
set_option linter.unusedVariables false
set_option linter.unusedSimpArgs false
set_option maxRecDepth 100000
namespace Go.Proofs.YtnfhkhlbdgbkjaaGreatDoor
open Go Go.Abs
open Go.IntKind renaming bits → Qa, wrap → Qb
open _root_.BitVec renaming ofInt → Qc
open _root_.Int renaming fdiv → Qd
theorem Voq(r:Jb)(k1:1<=r.kind)(k2:r.kind<=14)(ft:fitQ (mkQ r.kind) (useQ r)=true)(au:(!decide (r.auth=0#64)&&!r.jl)=false)(nu:numQ r=true)(bg:bigQ r=false)(v1:Lib.validD r.rP=true)(v2:Lib.validD r.name=true)(ids:idsQ r=0):valQ r=0:=by
 unfold valQ;rw[Um k1,Um k2,ft,au,nu,bg,v1,v2,ids];rfl
theorem vnil:Lib.validD []=true:=by decide +kernel
theorem Ve2a:∀a b:Bool,fitQ (mkQ 7) [false,false,false,false,false,false,false,false,false,false,false,false,false,a,b,false,false,false,false]=true:=by decide +kernel
theorem Ve3a:∀a b c:Bool,fitQ (mkQ 9) [false,false,false,false,false,false,false,false,false,false,false,false,false,a,false,b,c,false,false]=true:=by decide +kernel
theorem Vada:∀a b c d e f g h:Bool,fitQ (mkQ 2) [a,b,false,c,d,e,false,f,false,false,g,false,h,false,false,false,false,false,false]=true:=by decide +kernel
theorem Ve4a(p:Ub)(b:Ua)(h:b.length<=1024):valQ ⟨7,[],[],[],0#64,0,0,[],false,false,false,false,0,0#64,false,p,b,[],0,[],0⟩=0:=
 Voq _ (by dsimp only;omega) (by dsimp only;omega) (Ve2a _ _) rfl rfl (by unfold bigQ;dsimp only;rw[Un (by omega:¬ (1024:Int)<(b.length:Int))];rfl) vnil vnil (by kernel_rfl)
theorem Ve5a(p:Ub)(b:Ua)(h:b.length<=1024)(n:Int)(h0:0<=n)(h1:n<=255):valQ ⟨9,[],[],[],0#64,0,0,[],false,false,false,false,0,0#64,false,p,[],b,n,[],0⟩=0:=
 Voq _ (by dsimp only;omega) (by dsimp only;omega) (Ve3a _ _ _) rfl (by unfold numQ;dsimp only;unfold smallI;rw[Um h0,Um h1];rfl) (by unfold bigQ;dsimp only;rw[Un (by omega:¬ (1024:Int)<(b.length:Int))];rfl) vnil vnil (by kernel_rfl)
theorem Vaea(rp us:Ua)(w:Ub)(ht pr:Int)(rs sh:Bool)(a:Ub)(h1:rp.length<=64)(h2:us.length<=16)(hv:Lib.validD rp=true)(t0:0<=ht)(t1:ht<=255)(p0:0<=pr)(p1:pr<=255):valQ ⟨2,rp,us,[],w,ht,pr,[],rs,false,false,sh,0,a,true,0#64,[],[],0,[],0⟩=0:=
 Voq _ (by dsimp only;omega) (by dsimp only;omega) (Vada _ _ _ _ _ _ _ _) (by cases decide (a=0#64)<;>rfl) (by unfold numQ;dsimp only;unfold smallI;rw[Um t0,Um t1,Um p0,Um p1];rfl) (by unfold bigQ;dsimp only;rw[Un (by omega:¬ (64:Int)<(rp.length:Int)),Un (by omega:¬ (16:Int)<(us.length:Int))];rfl) hv vnil (by kernel_rfl)
theorem Ve6a(n:Int):∃(m s:Ub) (ps k:Nat) (fi:Bool) (j:Nat) (cs:List Ua),Zcw n=some ((),⟨m,s,(ps:Int),fi,77#64,2,(k:Int),2+(j:Int),cs⟩,())/\512<=ps/\ps<=8192/\k<=1/\j<=1/\(cs=[[111,110,101]]\/cs=[[111,110,101],[116,119,111]]):=by
 unfold Zcw;obtain⟨k4,h4,e4⟩:=mask (Qd n (2^(min 4 (Qa .i64)))) 3 (by omega);obtain⟨k6,h6,e6⟩:=mask (Qd n (2^(min 6 (Qa .i64)))) 1 (by omega);obtain⟨k7,h7,e7⟩:=mask (Qd n (2^(min 7 (Qa .i64)))) 1 (by omega);obtain⟨k8,h8,e8⟩:=mask (Qd n (2^(min 8 (Qa .i64)))) 1 (by omega);obtain⟨k9,h9,e9⟩:=mask (Qd n (2^(min 9 (Qa .i64)))) 1 (by omega);rw[show ((3:Nat):Int)=(3:Int) from rfl]at e4;rw[show ((1:Nat):Int)=(1:Int) from rfl]at e6 e7 e8 e9;dsimp only;rw[e4,e6,e7,e8,e9];have w8:Qb .i64 ((2:Int)+(k8:Int))=2+(k8:Int):=Va1 (by omega) (by omega);rw[w8];rcases (by omega:k9=0\/k9=1) with rfl|rfl<;>rcases (by omega:k4=0\/k4=1\/k4=2\/k4=3) with rfl|rfl|rfl|rfl
 ·exact⟨_,_,2048,k7,_,k8,_,rfl,by omega,by omega,h7,h8,.inl rfl⟩
 ·exact⟨_,_,1024,k7,_,k8,_,rfl,by omega,by omega,h7,h8,.inl rfl⟩
 ·exact⟨_,_,512,k7,_,k8,_,rfl,by omega,by omega,h7,h8,.inl rfl⟩
 ·exact⟨_,_,640,k7,_,k8,_,rfl,by omega,by omega,h7,h8,.inl rfl⟩
 ·exact⟨_,_,2048,k7,_,k8,_,rfl,by omega,by omega,h7,h8,.inr rfl⟩
 ·exact⟨_,_,1024,k7,_,k8,_,rfl,by omega,by omega,h7,h8,.inr rfl⟩
 ·exact⟨_,_,512,k7,_,k8,_,rfl,by omega,by omega,h7,h8,.inr rfl⟩
 ·exact⟨_,_,640,k7,_,k8,_,rfl,by omega,by omega,h7,h8,.inr rfl⟩
def devN(f:Jt)(l:Jk):Jd:=⟨f,⟨⟨l,0,0,0,false⟩,[]⟩,false,0,0,0,0,⟨0#64,false,0#64,0,[],0⟩,⟨false,0,0#64,0,[]⟩⟩
def dev0:Jd:=⟨⟨0#64,0#64,0,false,0#64,0,0,0,[]⟩,⟨⟨⟨0,[]⟩,0,0,0,false⟩,[]⟩,false,0,0,0,0,⟨0#64,false,0#64,0,[],0⟩,⟨false,0,0#64,0,[]⟩⟩
theorem Vg1a(m s:Ub)(ps k:Nat)(fi:Bool)(j:Nat)(cs:List Ua)(h1:512<=ps)(h2:ps<=8192)(hk:k<=1)(hj:j<=1)(hc:cs=[[111,110,101]]\/cs=[[111,110,101],[116,119,111]]):Zgk ⟨m,s,(ps:Int),fi,77#64,2,(k:Int),2+(j:Int),cs⟩=some ((),devN ⟨m,s,(ps:Int),fi,77#64,2,(k:Int),2+(j:Int),cs⟩ (FF ps),0,()):=by
 unfold Zgk;dsimp only;rw[Un (by omega:¬ (ps:Int)<512),Uj,Un (by omega:¬ (8192:Int)<(ps:Int)),Uj,show decide ((2:Int)<0)=false from rfl,Uj,show decide ((4:Int)<2)=false from rfl,Uj,Un (by omega:¬ (k:Int)<0),Uj,Un (by omega:¬ 2+(j:Int)<(k:Int)),Uj,show Qb .i64 ((1:Int)*2^(min (Qc 64 2).toNat (Qa .i64)))=4 from rfl,Un (by omega:¬ (4:Int)<2+(j:Int)),Uj];rcases hc with rfl|rfl
 ·rw[show decide ((3:Int)<(([[111,110,101]]:List Ua).length:Int))=false from rfl,Uj,show Zgk_L0 _=some (Sum.inr ((⟨m,s,(ps:Int),fi,77#64,2,(k:Int),2+(j:Int),[[111,110,101]]⟩,()),(dev0,()),())) by kernel_rfl,bindU];simp only[Sum.elim_inr];rw[Vim ps h1 h2,bindU];rfl
 ·rw[show decide ((3:Int)<(([[111,110,101],[116,119,111]]:List Ua).length:Int))=false from rfl,Uj,show Zgk_L0 _=some (Sum.inr ((⟨m,s,(ps:Int),fi,77#64,2,(k:Int),2+(j:Int),[[111,110,101],[116,119,111]]⟩,()),(dev0,()),())) by kernel_rfl,bindU];simp only[Sum.elim_inr];rw[Vim ps h1 h2,bindU];rfl
theorem Vxw(d:Jd)(n:Int):∃x,Zdk d n=some ((),w8 x,()):=by
 unfold Zdk;obtain⟨⟨_,x,_⟩,h,_⟩:=Vfu d.jm.jah ([109,97,115,116,101,114]:Ua) n (by decide);rw[h,bindU,rW1,bindU];exact⟨x,rfl⟩
theorem Vafa(k j:Nat)(hk:k<=1)(hj:j<=1):∃b0 b1 b2,Zam ⟨0#64,(k:Int),2+(j:Int),(k:Int)⟩=some ((),w8 0++[b0,b1,b2],()):=by
 unfold Zam Zdy;dsimp only;rw[Um (by omega:(0:Int)<=(k:Int)),Ui,Um (by omega:(k:Int)<=(k:Int)),Ui,Um (by omega:(k:Int)<=2+(j:Int)),Ui,bindU,Um (by omega:2+(j:Int)<=16),show (!true)=false from rfl,Uj,rW1,bindU,Vab (by simp[w8]) (by omega),Ui];exact⟨_,_,_,rfl⟩
theorem Vru(m s:Ub)(ps k:Nat)(fi:Bool)(j:Nat)(cs:List Ua)(h1:512<=ps)(h2:ps<=8192)(hk:k<=1)(hj:j<=1)(now:Nat)(hn:now<=7):Ok (Zfg (devN ⟨m,s,(ps:Int),fi,77#64,2,(k:Int),2+(j:Int),cs⟩ (FF ps)) (now:Int) (-1)) λr=>DevOk r.2.1:=by
 unfold Zfg devN;dsimp only;rw[Uj,Un (by omega:¬ (now:Int)<0),Uj,Un (by omega:¬ (1099511627776:Int)<(now:Int)),Uj,Veoa ps h1 h2,bindU];dsimp only;rw[show (!decide ((0:Int)=0))=false from rfl,Uj,show Zed ⟨J1 ps,[]⟩=some ((),0,()) by kernel_rfl,bindU];dsimp only;rw[show decide ((0:Int)=4294967295)=false from rfl,Uj,show Zhx ⟨J1 ps,[]⟩ 1=some ((),[],()) by kernel_rfl,bindU];dsimp only;rw[show decide ((([]:Ua).length:Int)=0)=true from rfl,Ui];obtain⟨x,hx⟩:=Vxw (⟨⟨m,s,(ps:Int),fi,77#64,2,(k:Int),2+(j:Int),cs⟩,⟨⟨FF ps,0,0,0,false⟩,[]⟩,false,0,0,0,0,⟨0#64,false,0#64,0,[],0⟩,⟨false,0,0#64,0,[]⟩⟩:Jd) (Qb .i64 ((Qb .i64 ((0:Int)+1))*2^(min 20 (Qa .i64))));rw[hx,bindU,Vab (by simp) (by omega),Ui,bindU];dsimp only;rw[Vab (by simp) (by omega),Ui,Ui];obtain⟨b0,b1,b2,hb⟩:=Vafa k j hk hj;rw[hb,bindU,Vab (by simp) (by omega),Ui,bindU];dsimp only;refine Ok.bm (Vxk ps h1 h2 x _ _ _ _ b0 b1 b2) ?_;rintro⟨_,v,c,e,_⟩ ⟨k1,k2⟩;dsimp only at *;subst k2;rw[show (!decide ((0:Int)=0))=false from rfl,Uj];have hx:0<=(bif decide ((0:Int)<(now:Int)) then (now:Int) else (0:Int))/\(bif decide ((0:Int)<(now:Int)) then (now:Int) else (0:Int))<=1099511627776:=by
  cases decide ((0:Int)<(now:Int))<;>simp only[Ui,Uj]<;>omega
 generalize (bif decide ((0:Int)<(now:Int)) then (now:Int) else (0:Int))=y at hx;refine Ok.bm (Vxc _ k1) ?_;rintro⟨_,d2,z,_⟩ ⟨n2,rfl⟩;unfold Zat
 rw[bindU];exact Ok.some ⟨rfl,k1,hx.1,hx.2⟩
theorem Vaga(n:Int):Ok (Zez n) λr=>PlayOk r.2.1/\r.2.1.iDs.length<=0:=by
 unfold Zez;obtain⟨m,s,ps,k,fi,j,cs,hf,h1,h2,hk,hj,hc⟩:=Ve6a n;rw[hf,bindU,Vg1a m s ps k fi j cs h1 h2 hk hj hc,bindU];obtain⟨t,ht,et⟩:=mask n 7 (by omega);rw[show ((7:Nat):Int)=(7:Int) from rfl]at et;dsimp only;rw[et];refine Ok.bm (Vru m s ps k fi j cs h1 h2 hk hj t ht) ?_;rintro⟨_,d,c,e,_⟩ hd;exact Ok.some ⟨⟨hd,λx hx=>(by cases hx),Nat.zero_le _⟩,Nat.le_refl _⟩
theorem Vor(d:Jd):Ok (Zho d) λ_=>True:=by
 unfold Zho;refine Ok.bm (Vfw _) ?_;rintro⟨_,x,_⟩ _;refine Ok.bm (Vm9 _ _) ?_;rintro⟨_,y,_⟩ _;exact Ok.some trivial
theorem Vgh(n:Int):∃l,Zhn n=some ((),l,())/\l.length<=10:=by
 obtain⟨k,hk,e⟩:=mask n 3 (by omega);rw[show ((3:Nat):Int)=(3:Int) from rfl]at e;unfold Zhn;dsimp only;rw[e];rcases (by omega:k=0\/k=1\/k=2\/k=3) with rfl|rfl|rfl|rfl
 ·exact⟨_,rfl,by decide⟩
 ·exact⟨_,rfl,by decide⟩
 ·exact⟨_,rfl,by decide⟩
 ·exact⟨_,rfl,by decide⟩
theorem Vli(n:Int):Ok (Zgf n) λ_=>True:=by
 unfold Zgf;rw[rW1,bindU,rHash _ _ (by simp[w8]),bindU];exact Ok.some trivial
theorem z64:in64 0:=by unfold in64;omega
theorem Vnf(p:Ji)(h:PlayOk p)(n:Nat)(hn:p.iDs.length<=n)(hn2:n<=900)(a:Int)(h0:0<=a)(h1:a<=255):Ok (Zdu p a) λr=>PlayOk r.2.1/\r.2.1.iDs.length<=n+2:=by
 unfold Zdu;refine Ok.bm (Vor _) ?_;rintro⟨_,x,_⟩ _;obtain⟨l,e,hl⟩:=Vgh 0;rw[e,bindU];refine Ok.bm (Vgg _ (by dsimp only;omega)) ?_;rintro⟨_,y,_⟩ _;refine Ok.bm (Ve8 _ _ _) ?_;rintro⟨_,w,_⟩ hw;refine Ok.bm (Vfw _) ?_;rintro⟨_,z,_⟩ _;dsimp only at *;refine Ok.bm (Do_ok p h n hn hn2 _ ⟨⟨by simp,by simp,by simp,by simp,by simp,by dsimp only;omega,by simp,z64,z64,z64,by unfold in64;dsimp only;omega,z64,by unfold in64;dsimp only;omega⟩,Ve5a z w (by omega) a h0 h1,.inr (.inl rfl)⟩ [] (by simp)) ?_;rintro⟨_,q,r,_⟩ hq;exact Ok.some hq
theorem Vgo(d:Jd)(r:Jb)(h:SaneQ r):Ok (Zbs d r) λq=>∃a,q.2.1=⟨r.kind,r.rP,r.user,r.name,r.jz,r.jd,r.je,r.list,r.jg,r.js,r.jt,r.jo,r.jk,a,true,r.jv,r.box,r.proof,r.jb,r.iD,r.count⟩:=by
 unfold Zbs;refine Ok.bm (Vnd r h) ?_;rintro⟨_,x,_⟩ _;refine Ok.bm (Vgn _ _) ?_;rintro⟨_,y,_⟩ _;exact Ok.some ⟨y,rfl⟩
theorem richL(a:Int)(y:Ji)(p:Ji)(h:PlayOk p)(hi:p.iDs.length<=2):Ok (Zgc_L0 (a,(y,()),(p,()),0,())) λz=>PlayOk z.2.1.1/\z.2.1.1.iDs.length<=14:=by
 unfold Zgc_L0 i4;refine Ok.iter (λs=>∃(k:Nat) (p:Ji),k<=3/\PlayOk p/\p.iDs.length<=4*k+2/\s=(a,(y,()),(p,()),(k:Int),())) (λs=>(3-s.2.2.2.1).toNat) ⟨0,p,by omega,h,hi,rfl⟩ (by rw[Vaa];dsimp only;omega) ?_;rintro s ⟨k,p,hk,hp,hl,rfl⟩;dsimp only;unfold Zgc_L0b;refine Ok.cond (λhc=>?_) (λhc=>Ok.some ⟨hp,by dsimp only;omega⟩);have hc:=Uo hc;refine Ok.bm (Vnf p hp _ hl (by omega) 1 (by omega) (by omega)) ?_;rintro⟨_,p2,_⟩ ⟨hp2,hl2⟩;dsimp only at *;obtain⟨rp,e1,r1,r2,r3⟩:=RP_ok (Qb .i64 (Int.tdiv (Qb .i64 ((Qc (Qa .i64) (Qd a (2^(min (Qc 64 (Qb .i64 ((2:Int)*(k:Int)))).toNat (Qa .i64))))&&&Qc (Qa .i64) (3:Int)).toNat:Int)) (3:Int)));rw[e1,bindU];obtain⟨us,e2,u1,u2⟩:=Vol (k:Int);rw[e2,bindU];refine Ok.bm (Vli _) ?_;rintro⟨_,w,_⟩ _;obtain⟨k1,hk1,m1⟩:=mask (Qd a (2^(min (Qc 64 (Qb .i64 ((6:Int)+(k:Int)))).toNat (Qa .i64)))) 1 (by omega);obtain⟨k2,hk2,m2⟩:=mask (Qd a (2^(min (Qc 64 (Qb .i64 ((9:Int)+(k:Int)))).toNat (Qa .i64)))) 1 (by omega);rw[show ((1:Nat):Int)=(1:Int) from rfl]at m1 m2;rw[m1,m2,wI ((1:Int)+(k1:Int)) (by omega),wI ((1:Int)+(k2:Int)) (by omega)];have sane:∀(b1 b2:Bool) (x:Ub) (b3:Bool),SaneQ ⟨2,rp,us,[],w,1+(k1:Int),1+(k2:Int),[],b1,false,false,b2,0,x,b3,0#64,[],[],0,[],0⟩:=λb1 b2 x b3=>⟨by dsimp only;omega,by dsimp only;omega,by simp,by simp,by simp,by simp,by simp,by unfold in64;dsimp only;omega,by unfold in64;dsimp only;omega,z64,z64,z64,by unfold in64;dsimp only;omega⟩;refine Ok.bm (Vgo p2.jh _ (sane _ _ _ _)) ?_;rintro⟨_,q,_⟩ ⟨x,hq⟩;dsimp only at hq;subst hq;dsimp only;refine Ok.bm (Do_ok p2 hp2 _ hl2 (by omega) _ ⟨sane _ _ _ _,Vaea rp us w _ _ _ _ x (by omega) (by omega) r3 (by omega) (by omega) (by omega) (by omega),.inr (.inr ⟨rfl,rfl,rfl⟩)⟩ _ (by simp)) ?_;rintro⟨_,p3,rr,_⟩ ⟨hp3,hl3⟩;dsimp only at *;rw[wI ((k:Int)+1) (by omega)];exact Ok.some ⟨⟨k+1,p3,by omega,hp3,by omega,rfl⟩,by dsimp only;omega⟩
theorem Ve7a(n a:Int):Ok (Zgc n a) λr=>PlayOk r.2.1/\r.2.1.iDs.length<=16:=by
 unfold Zgc;refine Ok.bm (Vaga n) ?_;rintro⟨_,p,_⟩ ⟨hp,hl⟩;refine Ok.bm (Vor _) ?_;rintro⟨_,x,_⟩ _;refine Ok.bm (Vfw _) ?_;rintro⟨_,z,_⟩ _;obtain⟨l,e,hl1⟩:=Vgh 0;rw[e,bindU];refine Ok.bm (Vjv _ _ _) ?_;rintro⟨_,b,c,_⟩ ⟨hb,_⟩;dsimp only at *;have hb2:b.length<=1024:=by rename_i h80;have:=h80 (by omega);omega
 refine Ok.bm (Do_ok p hp _ hl (by omega) _ ⟨⟨by simp,by simp,by simp,by simp,by dsimp only;omega,by simp,by simp,z64,z64,z64,z64,z64,by unfold in64;dsimp only;omega⟩,Ve4a z b hb2,.inl rfl⟩ [] (by simp)) ?_;rintro⟨_,p2,rr,_⟩ ⟨hp2,hl2⟩;dsimp only at *;refine Ok.bm (richL a _ p2 hp2 hl2) ?_;rintro⟨y,⟨p3,_⟩,_⟩ ⟨hp3,hl3⟩;dsimp only at *;refine Ok.bm (Vnf p3 hp3 _ hl3 (by omega) 7 (by omega) (by omega)) ?_;rintro⟨_,p4,_⟩ h4;exact Ok.some h4
end Go.Proofs.YtnfhkhlbdgbkjaaGreatDoor

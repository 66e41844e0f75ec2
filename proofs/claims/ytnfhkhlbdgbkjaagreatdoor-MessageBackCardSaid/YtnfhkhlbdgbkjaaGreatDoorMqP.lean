/- Keys, seals, PINs and tokens of the reference are total. -/
import Derived.Test.YtnfhkhlbdgbkjaaGreatDoorMqO
set_option linter.unusedVariables false
set_option linter.unusedSimpArgs false
set_option maxRecDepth 100000
namespace Go.Proofs.YtnfhkhlbdgbkjaaGreatDoor
open Go Go.Abs
open _root_.List renaming getElem?_eq_getElem → Qa, length_cons → Qb, length_nil → Qc, length_append → Qd, length_take → Qf
open _root_.Int renaming toNat_natCast → Qe
open _root_.Nat renaming zero_le → Qg
open Go.IntKind renaming wrap → Qh
theorem Vepa(l:List Ub)(b:Ua)(k:Nat)(hk:k<l.length)(hb:b.length<=100000):Ok (passkeyref1_Words_L2 (l,b,(k:Int),7,())) λz=>∃b2:Ua,z=(l,b2,(k:Int),())/\b2.length=b.length+8:=by
 unfold passkeyref1_Words_L2 i4;refine Ok.iter (λs=>∃(m:Int) (b2:Ua),-1<=m/\m<=7/\(b2.length:Int)=b.length+(7-m)/\s=(l,b2,(k:Int),m,())) (λs=>(s.2.2.2.1+1).toNat) ⟨7,b,by omega,by omega,by omega,rfl⟩ (by rw[Vaa];dsimp only;omega) ?_;rintro s ⟨m,b2,hm,hm2,hl,rfl⟩;dsimp only;unfold passkeyref1_Words_L2b;refine Ok.cond (λhc=>?_) (λhc=>Ok.some ⟨b2,rfl,by have:=Up hc;omega⟩);have hc:=Uo hc;rw[gIn (Qa hk),bindU];dsimp only;rw[Vab (by simp only[Qb,Qc];omega) (by omega),Ui,wI (m-1) (by omega)];exact Ok.some ⟨⟨m-1,_,by omega,by omega,by rw[Qd];simp only[Qb,Qc];omega,rfl⟩,by dsimp only;omega⟩
theorem Vz1(l:List Ub)(hl:l.length<=1000):Ok (passkeyref1_Words l) λr=>r.2.1.length=8*l.length:=by
 unfold passkeyref1_Words passkeyref1_Words_L0 i3;refine Ok.bm (Ok.iter (Q:=λz=>z.1.length=8*l.length) (λs=>∃(k:Nat) (b:Ua),k<=l.length/\b.length=8*k/\s=(l,b,(k:Int),())) (λs=>((l.length:Int)-s.2.2.1).toNat) ⟨0,[],by omega,rfl,rfl⟩ (by rw[Vaa];dsimp only;omega) ?_) ?_
 ·rintro s ⟨k,b,hk,hb,rfl⟩;dsimp only;unfold passkeyref1_Words_L0b;refine Ok.cond (λhc=>?_) (λhc=>Ok.some (by have:=Up hc;dsimp only;omega));have hc:=Uo hc;refine Ok.bm (Vepa l b k (by omega) (by omega)) ?_;rintro z ⟨b2,rfl,h2⟩;dsimp only;rw[wI ((k:Int)+1) (by omega)];exact Ok.some ⟨⟨k+1,b2,by omega,by omega,rfl⟩,by dsimp only;omega⟩
 ·rintro⟨b,_⟩ hb;exact Ok.some hb
theorem Vcaa(a b:Ub):Ok (Zht a b) λ_=>True:=by
 unfold Zht Zht_L0 i4;refine Ok.bm (Ok.iter (Q:=λ_=>True) (λs=>∃(x y z:Ub) (j:Nat),j<=61/\s=(x,y,z,60-(j:Int),())) (λs=>(s.2.2.2.1+1).toNat) ⟨_,_,_,0,by omega,rfl⟩ (by rw[Vaa];dsimp only;omega) ?_) λ_ _=>Ok.some trivial;rintro s ⟨x,y,z,j,hj,rfl⟩;dsimp only;unfold Zht_L0b;refine Ok.cond (λhc=>?_) (λ_=>Ok.some trivial);have hc:=Uo hc;rw[wI (60-(j:Int)-1) (by omega)];have nx:∀w,∃(x2 y2 z2:Ub) (j2:Nat),j2<=61/\(x,y,w,60-(j:Int)-1,())=((x2,y2,z2,60-(j2:Int),()):Y_Zht_L0):=λw=>⟨x,y,w,j+1,by omega,by rw[show (60:Int)-((j+1:Nat):Int)=60-(j:Int)-1 by omega]⟩;exact Ok.cond (λ_=>Ok.some ⟨nx _,by dsimp only;omega⟩) (λ_=>Ok.some ⟨nx _,by dsimp only;omega⟩)
theorem Vqi(a b:Ub):Ok (Zfq a b) λ_=>True:=by
 unfold Zfq Zfq_L0 i4;refine Ok.bm (Ok.iter (Q:=λ_=>True) (λs=>∃(x y z:Ub) (j:Nat),j<=64/\s=(x,y,z,63-(j:Int),())) (λs=>(s.2.2.2.1+1).toNat) ⟨_,_,_,0,by omega,rfl⟩ (by rw[Vaa];dsimp only;omega) ?_) λ_ _=>Ok.some trivial;rintro s ⟨x,y,z,j,hj,rfl⟩;dsimp only;unfold Zfq_L0b;refine Ok.cond (λhc=>?_) (λ_=>Ok.some trivial);have hc:=Uo hc;rw[wI (63-(j:Int)-1) (by omega)];have nx:∀w,∃(x2 y2 z2:Ub) (j2:Nat),j2<=64/\(x,y,w,63-(j:Int)-1,())=((x2,y2,z2,63-(j2:Int),()):Y_Zfq_L0):=λw=>⟨x,y,w,j+1,by omega,by rw[show (63:Int)-((j+1:Nat):Int)=63-(j:Int)-1 by omega]⟩;refine Ok.bm (Vcaa _ _) λ_ _=>?_;refine Ok.cond (λ_=>Ok.bm (Vcaa _ _) λ_ _=>?_) (λ_=>?_);all_goals exact Ok.some ⟨nx _,by dsimp only;omega⟩
theorem Vfw(a:Ub):Ok (Zbk a) λ_=>True:=by
 unfold Zbk Zcm;rw[bindU];exact Ok.bm (Vqi _ _) λ_ _=>Ok.some trivial
theorem Vm9(a b:Ub):Ok (Zel a b) λ_=>True:=by
 unfold Zel Zcm;refine Ok.cond (λ_=>Ok.some trivial) λ_=>Ok.cond (λ_=>Ok.some trivial) λ_=>?_;rw[bindU];refine Ok.bm (Vqi _ _) λ_ _=>?_;rw[rW1,bindU,rHash _ _ (by simp[w8]),bindU];exact Ok.some trivial
theorem Vin(a b:Ub)(n:Int):Ok (Zem a b n) λr=>(r.2.1.length:Int)=min (max n 0) 1024:=by
 unfold Zem;have hm:(bif decide ((1024:Int)<(bif decide (n<(0:Int)) then (0:Int) else n)) then (1024:Int) else (bif decide (n<(0:Int)) then (0:Int) else n))=min (max n 0) 1024:=by
  by_cases h:n<0
  ·rw[Um h,Ui,show decide ((1024:Int)<0)=false from rfl,Uj];omega
  ·rw[Un h,Uj];by_cases h2:1024<n
   ·rw[Um h2,Ui];omega
   ·rw[Un h2,Uj];omega
 rw[hm];obtain⟨m,hm2,hm3⟩:∃m:Nat,min (max n 0) 1024=(m:Int)/\m<=1024:=⟨(min (max n 0) 1024).toNat,by omega,by omega⟩;rw[hm2];dsimp only;unfold Zem_L0 i5;refine Ok.bm (Ok.iter (Q:=λz=>∃l:Ua,z=((m:Int),l,())/\m<=l.length) (λs=>∃(k:Nat) (l:Ua),l.length=8*k/\l.length<=m+8/\s=(a,b,(m:Int),l,(k:Int),())) (λs=>((m:Int)+8-s.2.2.2.1.length).toNat) ⟨0,[],rfl,by simp,rfl⟩ (by rw[Vaa];dsimp only;omega) ?_) ?_
 ·rintro s ⟨k,l,hl,hl2,rfl⟩;dsimp only;unfold Zem_L0b;refine Ok.cond (λhc=>?_) (λhc=>Ok.some ⟨l,rfl,by have:=Up hc;omega⟩);have hc:=Uo hc;rw[rW2,bindU,rMac _ _ _ (by simp[w8]),bindU,rW1,bindU];dsimp only;rw[Vab (by simp[w8];omega) (by omega),Ui,wI ((k:Int)+1) (by omega)];exact Ok.some ⟨⟨k+1,_,by simp[w8];omega,by simp[w8];omega,rfl⟩,by simp[w8];omega⟩
 ·rintro z ⟨l,rfl,hl⟩;dsimp only;rw[Um (by omega:0<=(m:Int)),Um (by omega:(m:Int)<=(l.length:Int)),Um (by omega:(m:Int).toNat<=l.length),show (true&&true)=true from rfl,Ui,Ui];refine Ok.some ?_;dsimp only;rw[Qf];omega
theorem Vcba(a b:Ub)(l:Ua)(hl:l.length<=1024):Ok (Zhv a b l) λr=>r.2.1.length=l.length:=by
 unfold Zhv;refine Ok.bm (Vin a b _) ?_;rintro⟨_,st,_⟩ hst;dsimp only at *;have hst:st.length=l.length:=by omega
 unfold Zhv_L0 i4;refine Ok.bm (Ok.iter (Q:=λz=>z.1.length=l.length) (λs=>∃(k:Nat) (q:Ua),k<=l.length/\q.length=k/\s=(l,st,q,(k:Int),())) (λs=>((l.length:Int)-s.2.2.2.1).toNat) ⟨0,[],by omega,rfl,rfl⟩ (by rw[Vaa];dsimp only;omega) ?_) ?_
 ·rintro s ⟨k,q,hk,hq,rfl⟩;dsimp only;unfold Zhv_L0b;refine Ok.cond (λhc=>?_) (λhc=>Ok.some (by have:=Up hc;dsimp only;omega));have hc:=Uo hc;have hkl:k<l.length:=by omega
  have hks:k<st.length:=by omega
  rw[gIn (Qa hkl),bindU,Um (by omega:0<=(k:Int)),Um (by omega:(k:Int)<(st.length:Int)),show (true&&true)=true from rfl,Ui,Qe,Qa hks,bindU];dsimp only;rw[Vab (by simp only[Qb,Qc];omega) (by omega),Ui,wI ((k:Int)+1) (by omega)];exact Ok.some ⟨⟨k+1,_,by omega,by rw[Qd];simp only[Qb,Qc];omega,rfl⟩,by dsimp only;omega⟩
 ·rintro⟨q,_⟩ hq;exact Ok.some hq
theorem Vxl(a b:Ub)(l m:Ua)(hl:l.length<=10000)(hm:m.length<=10000):Ok (Zhw a b l m) λ_=>True:=by
 unfold Zhw;dsimp only;rw[rW2,bindU];dsimp only;rw[Vab (by simp[w8];omega) (by omega),Ui,Vab (by simp[w8];omega) (by omega),Ui,rMac _ _ _ (by simp[w8];omega),bindU];exact Ok.some trivial
theorem Vlc(a b:Ub)(l m:Ua):Ok (Zgv a b l m) λr=>r.2.1.length<=1040/\(m.length<=1024->l.length<=1024->r.2.1.length=m.length+16):=by
 unfold Zgv;refine Ok.cond (λh=>Ok.some ⟨by simp,λh1=>by have:=Uo h;omega⟩) λh1=>Ok.cond (λh=>Ok.some ⟨by simp,λ_ h2=>by have:=Uo h;omega⟩) λh2=>?_;have h1:=Up h1;have h2:=Up h2;refine Ok.bm (Vcba a b m (by omega)) ?_;rintro⟨_,x,_⟩ hx;dsimp only at *;rw[rW1,bindU];dsimp only;rw[Vab (by simp[w8];omega) (by omega),Ui];refine Ok.bm (Vxl a b l x (by omega) (by omega)) ?_;rintro⟨_,t,_⟩ _;rw[rW1,bindU];dsimp only;rw[Vab (by simp[w8];omega) (by omega),Ui];exact Ok.some ⟨by simp[w8];omega,λ_ _=>by simp[w8];omega⟩
theorem Vqj(a:Ub)(l m:Ua):Ok (Zgu a l m) λr=>r.2.1.length<=1024:=by
 unfold Zgu;have z:∀e:Int,Ok (some ((),(([]:Ua),e,())):Option (Unit×(Ua×Int×Unit))) λr=>r.2.1.length<=1024:=λe=>Ok.some (Qg _);refine Ok.cond (λ_=>z _) λh1=>Ok.cond (λ_=>z _) λh2=>Ok.cond (λ_=>z _) λh3=>?_;have h1:=Up h1;have h2:=Up h2;have h3:=Up h3;rw[Um (by omega:(8:Int)<=(m.length:Int)),Ui];refine Ok.bm (Vc4 _) ?_;rintro⟨_,w,_⟩ _;rw[wI ((m.length:Int)-8) (by omega),Um (by omega:0<=(m.length:Int)-8),Um (by omega:(m.length:Int)-8<=(m.length:Int)),Um (by omega:(8:Int)<=(((m.length:Int)-8).toNat:Int)),show (true&&true)=true from rfl];simp only[Ui];refine Ok.bm (Vc4 _) ?_;rintro⟨_,w2,_⟩ _;have hx:(List.drop 8 (List.take ((m.length:Int)-8).toNat m)).length<=1024:=by rw[List.length_drop,Qf];omega
 refine Ok.bm (Vxl _ _ _ _ (by omega) (by omega)) ?_;rintro⟨_,t,_⟩ _;refine Ok.cond (λ_=>z _) λ_=>?_;refine Ok.bm (Vcba _ _ _ hx) ?_;rintro⟨_,x,_⟩ hx2;exact Ok.some (by dsimp only at *;omega)
theorem Vxm(a:Ub)(b c:Int):Ok (Zek a b c) λ_=>True:=by
 unfold Zek;dsimp only;rw[rW2,bindU,rMac _ _ _ (by simp[w8]),bindU];exact Ok.some trivial
theorem Veqa(a b c d:Int)(x:Ub)(h:c<=100):Ok (Zhu a b c d x) λ_=>True:=by
 unfold Zhu Zhu_L0 i5;have hc:0<=(bif decide (c<(0:Int)) then (0:Int) else c)/\(bif decide (c<(0:Int)) then (0:Int) else c)<=100:=by
  by_cases h:c<0
  ·rw[Um h,Ui];omega
  ·rw[Un h,Uj];omega
 generalize (bif decide (c<(0:Int)) then (0:Int) else c)=c0 at hc;have hm:(bif decide ((15:Int)<d) then (15:Int) else d)<=15:=by
  by_cases h:15<d
  ·rw[Um h,Ui];omega
  ·rw[Un h,Uj];omega
 refine Ok.bm (Ok.iter (Q:=λ_=>True) (λs=>∃(x:Ub) (k:Int),0<=k/\k<=100/\s=(a,b,d,x,k,())) (λs=>(200-s.2.2.2.2.1).toNat) ⟨x,c0,hc.1,hc.2,rfl⟩ (by rw[Vaa];dsimp only;omega) ?_) λ_ _=>Ok.some trivial;rintro s ⟨x,k,hk,hk2,rfl⟩;dsimp only;unfold Zhu_L0b;dsimp only;refine Ok.cond (λhc=>?_) (λ_=>Ok.some trivial);have hc:=Uo hc;rw[rW4,bindU,rHash _ _ (by simp[w8]),bindU,wI (k+1) (by omega)];exact Ok.some ⟨⟨_,k+1,by omega,by omega,rfl⟩,by dsimp only;omega⟩
theorem Vera(a:Int)(l:List Ub)(hl:l.length<=1000):Ok (Zgw a l) λ_=>True:=by
 unfold Zgw;rw[rW1,bindU];refine Ok.bm (Vz1 l hl) ?_;rintro⟨_,b,_⟩ hb;dsimp only at *;rw[Vab (by simp[w8];omega) (by omega),Ui,rHash _ _ (by simp[w8];omega),bindU];exact Ok.some trivial
theorem Vesa(a:Ub)(n:Int):Ok (Zgt a n) λ_=>True:=by
 unfold Zgt ZgtG Zgt_L0 i4;refine Ok.bm (Ok.iter (Q:=λz=>∃l:List Ub,z=(n,l,())/\l.length<=18) (λs=>∃(k:Nat) (l:List Ub),k<=18/\l.length=k/\s=(a,n,l,(k:Int),())) (λs=>((18:Int)-s.2.2.2.1).toNat) ⟨0,[],by omega,rfl,rfl⟩ (by rw[Vaa];dsimp only;omega) ?_) ?_
 ·rintro s ⟨k,l,hk,hl,rfl⟩;dsimp only;unfold Zgt_L0b;refine Ok.cond (λhc=>?_) (λhc=>Ok.some ⟨l,rfl,by omega⟩);have hc:=Uo hc;refine Ok.bm (Vxm _ _ _) ?_;rintro⟨_,s,_⟩ _;refine Ok.bm (Veqa _ _ _ _ _ (by omega)) ?_;rintro⟨_,x,_⟩ _;dsimp only;rw[Vab (by simp only[Qb,Qc];omega) (by omega),Ui,wI ((k:Int)+1) (by omega)];exact Ok.some ⟨⟨k+1,_,by omega,by rw[Qd];simp only[Qb,Qc];omega,rfl⟩,by dsimp only;omega⟩
 ·rintro z ⟨l,rfl,hl⟩;dsimp only;exact Ok.bm (Vera _ _ (by omega)) λ_ _=>Ok.some trivial
theorem Voj(a:Ub):∀(n k:Nat) (i:Int),k<n->n<=100->Ok (Zgx_n n a (k:Int) i) λ_=>True
 |0,k,i,h,hn=>by omega
 |n+1,k,i,h,hn=>by
  show Ok (Zgx_R (Zgx_n n) a (k:Int) i) _;unfold Zgx_R;refine Ok.cond (λ_=>Ok.bm (Vesa _ _) λ_ _=>Ok.some trivial) λhc=>?_;have hc:=Up hc;rw[wI ((k:Int)-1) (by omega),show (k:Int)-1=((k-1:Nat):Int) by omega];refine Ok.bm (Voj a n (k-1) _ (by omega) (by omega)) λ_ _=>?_;refine Ok.bm (Voj a n (k-1) _ (by omega) (by omega)) λ_ _=>?_;unfold Zeo;rw[rW3,bindU,rHash _ _ (by simp[w8]),bindU,bindU];exact Ok.some trivial
theorem Vio(n:Int):Zen n=some ((),(decide (0<=n)&&decide (n<=4)),()):=by
 unfold Zen;cases decide (0<=n)<;>rfl
theorem Vxn(a:Ub)(n:Int):Ok (Zej a n) λr=>0<=r.2.1.jd/\r.2.1.jd<=4:=by
 unfold Zej;rw[Vio,bindU];dsimp only;refine Ok.cond (λ_=>Ok.some ⟨by dsimp only;omega,by dsimp only;omega⟩) λh=>?_;have h:0<=n/\n<=4:=by
  have:(decide (0<=n)&&decide (n<=4))=true:=by revert h;cases (decide (0<=n)&&decide (n<=4))<;>simp
  simpa using this
 unfold Zgx;rw[show n=(n.toNat:Int) by omega];refine Ok.bm (Voj a 8 n.toNat 0 (by omega) (by omega)) λ_ _=>Ok.some ⟨by dsimp only;omega,by dsimp only;omega⟩
theorem Vgm(k:Js):Ok (Zbz k) λr=>r.2.1.length<=9:=by
 unfold Zbz;rw[Vio,bindU];refine Ok.cond (λ_=>Ok.some (Qg _)) λ_=>?_;dsimp only;rw[rW1,bindU];dsimp only;rw[Vab (by simp[w8]) (by omega),Ui];exact Ok.some (by simp[w8])
theorem Vna(l:Ua):Ok (Zby l) λr=>r.2.2.1=0->0<=r.2.1.jd/\r.2.1.jd<=4:=by
 unfold Zby;refine Ok.cond (λ_=>Ok.some λh=>by cases h) λh=>?_;have h:l.length=9:=by
  have:decide ((l.length:Int)=(9:Int))=true:=by revert h;cases decide ((l.length:Int)=(9:Int))<;>simp
  have:=Uo this;omega
 have g0:getI l 0=some (l[0]'(by omega)):=gIn (i:=0) (Qa (by omega));rw[g0,bindU,Vio,bindU];dsimp only;refine Ok.cond (λ_=>Ok.some λh=>by cases h) λh2=>?_;have h2:(decide (0<=((l[0]'(by omega)).toBitVec.toNat:Int))&&decide (((l[0]'(by omega)).toBitVec.toNat:Int)<=4))=true:=by revert h2;cases (decide (0<=((l[0]'(by omega)).toBitVec.toNat:Int))&&decide (((l[0]'(by omega)).toBitVec.toNat:Int)<=4))<;>simp
 simp only[Bool.and_eq_true,Uq]at h2;rw[bindU,Um (by omega:(1:Int)<=(l.length:Int)),Ui];refine Ok.bm (Vc4 _) ?_;rintro⟨_,w,_⟩ _;exact Ok.some λ_=>h2
theorem Vgg(l:Ua)(hl:l.length<=100000):Ok (Zcf l) λ_=>True:=by
 unfold Zcf;rw[rHash _ _ (by omega),bindU];exact Ok.some trivial
theorem Vip(a b:Ub):Ok (Zbt a b) λ_=>True:=by
 unfold Zbt;rw[rW1,bindU,rMac _ _ _ (by simp[w8]),bindU];exact Ok.some trivial
theorem Vjv(a b:Ub)(l:Ua):Ok (Zch a b l) λr=>r.2.1.length<=1040/\(l.length<=63->r.2.1.length=80):=by
 unfold Zch;refine Ok.cond (λh=>Ok.some ⟨by simp,λh1=>by have:=Uo h;omega⟩) λh=>?_;have h:=Up h;dsimp only;rw[Um (by simp;omega),Ui];refine Ok.bm (Vlc _ _ _ _) ?_;rintro⟨_,x,e,_⟩ ⟨h1,h2⟩;dsimp only at *;have hl:(l++List.drop l.length (List.replicate 64 (0:UInt8))).length=64:=by simp;omega
 rw[hl]at h2;exact Ok.some ⟨h1,λ_=>h2 (by omega) (by simp)⟩
theorem Ve8(a b c:Ub):Ok (Zbv a b c) λr=>r.2.1.length=24:=by
 unfold Zbv;rw[rW1,bindU];refine Ok.bm (Vlc _ _ _ _) ?_;rintro⟨_,x,e,_⟩ ⟨h1,h2⟩;exact Ok.some (h2 (by simp[w8]) (by simp))
theorem Vok(a:Ub)(l:Ua):Ok (Zbu a l) λ_=>True:=by
 unfold Zbu;refine Ok.bm (Vqj _ _ _) ?_;rintro⟨_,x,e,_⟩ _;refine Ok.cond (λ_=>Ok.some trivial) λ_=>Ok.cond (λ_=>Ok.some trivial) λ_=>?_;exact Ok.bm (Vc4 _) λ_ _=>Ok.some trivial
theorem Vrl(a:Ub)(l:Ua):Ok (Zcg a l) λr=>r.2.1.length<=64:=by
 unfold Zcg;refine Ok.bm (Vqj _ _ _) ?_;rintro⟨_,x,e,_⟩ hx;dsimp only at *;have z:∀e:Int,Ok (some ((),(([]:Ua),e,())):Option (Unit×(Ua×Int×Unit))) λr=>r.2.1.length<=64:=λe=>Ok.some (Qg _);refine Ok.cond (λ_=>z _) λ_=>?_;unfold Zcg_L0 i2;refine Ok.bm (Ok.iter (Q:=λz=>∃n:Nat,z=(x,(n:Int),())/\n<=x.length) (λs=>∃k:Nat,k<=x.length/\s=(x,(k:Int),())) (λs=>((x.length:Int)-s.2.1).toNat) ⟨0,by omega,rfl⟩ (by rw[Vaa];dsimp only;omega) ?_) ?_
 ·rintro s ⟨k,hk,rfl⟩;dsimp only;unfold Zcg_L0b;refine Ok.cond (λhc=>?_) (λ_=>Ok.some ⟨k,rfl,hk⟩);have hc:=Uo hc;have hkx:k<x.length:=by omega
  rw[Um (by omega:0<=(k:Int)),Um hc,show (true&&true)=true from rfl,Ui,Qe,Qa hkx,bindU,wI ((k:Int)+1) (by omega)];exact Ok.cond (λ_=>Ok.some ⟨⟨k+1,hkx,rfl⟩,by dsimp only;omega⟩) λ_=>Ok.some ⟨k,rfl,hk⟩
 rintro q ⟨n,rfl,hn⟩;dsimp only;refine Ok.cond (λ_=>z _) λh64=>Ok.cond (λ_=>z _) λ_=>?_;have h64:x.length=64:=by
  have:decide ((x.length:Int)=(64:Int))=true:=by revert h64;cases decide ((x.length:Int)=(64:Int))<;>simp
  have:=Uo this;omega
 unfold Zcg_L2 i3;refine Ok.bm (Ok.iter (Q:=λz=>(∃e,z=Sum.inl (([]:Ua),e,()))\/z=Sum.inr (x,(n:Int),())) (λs=>∃k:Nat,k<=x.length/\s=(x,(n:Int),(k:Int),())) (λs=>((x.length:Int)-s.2.2.1).toNat) ⟨n,hn,rfl⟩ (by rw[Vaa];dsimp only;omega) ?_) ?_
 ·rintro s ⟨k,hk,rfl⟩;dsimp only;unfold Zcg_L2b;refine Ok.cond (λhc=>?_) (λ_=>Ok.some (.inr rfl));have hc:=Uo hc;have hkx:k<x.length:=by omega
  rw[Um (by omega:0<=(k:Int)),Um hc,show (true&&true)=true from rfl,Ui,Qe,Qa hkx,bindU,wI ((k:Int)+1) (by omega)];exact Ok.cond (λ_=>Ok.some (.inl ⟨_,rfl⟩)) λ_=>Ok.some ⟨⟨k+1,hkx,rfl⟩,by dsimp only;omega⟩
 ·rintro q (⟨e,rfl⟩|rfl)
  ·exact z _
  ·simp only[Sum.elim_inr];rw[Um (by omega:0<=(n:Int)),Um (by omega:(n:Int)<=(x.length:Int)),Um (by omega:(n:Int).toNat<=x.length),show (true&&true)=true from rfl,Ui,Ui];exact Ok.some (by dsimp only;rw[Qf];omega)
theorem Vxo(p:Jo):Ok (Zcz p) λ_=>True:=by
 unfold Zcz;exact Ok.cond (λ_=>Ok.some trivial) λ_=>Ok.cond (λ_=>Ok.some trivial) λ_=>Ok.cond (λ_=>Ok.some trivial) λ_=>Ok.some trivial
theorem Vxp(p:Jo)(b:Bool):Ok (Zda p b) λ_=>True:=by
 unfold Zda;refine Ok.cond (λ_=>Ok.some trivial) λ_=>Ok.bind (Ok.cond (λ_=>Ok.some ?_) λ_=>Ok.some ?_);all_goals exact Ok.cond (λ_=>Ok.some trivial) λ_=>Ok.cond (λ_=>Ok.some trivial) λ_=>Ok.some trivial
theorem Vgn(a b:Ub):Ok (Zbg a b) λ_=>True:=by
 unfold Zbg;rw[rW1,bindU,rMac _ _ _ (by simp[w8]),bindU];exact Ok.some trivial
theorem Vi2(t:Jv)(a b:Int)(l:Ua)(x y:Ub):Ok (Zan t a b l x y) λ_=>True:=by
 unfold Zan;refine Ok.bm (Q:=λ_=>True) (Ok.cond (λ_=>Ok.some trivial) (λ_=>Ok.some trivial)) λj _=>?_;dsimp only;repeat' first
  |with_reducible exact Ok.some trivial
  |with_reducible refine Ok.cond (λ_=>?_) (λ_=>?_)
  |with_reducible refine Ok.bm (Vgn _ _) λ_ _=>?_
theorem Vgva(t:Jv)(a:Int):Ok (Zgg t a) λ_=>True:=by
 unfold Zgg;exact Ok.cond (λ_=>Ok.some trivial) λ_=>Ok.cond (λ_=>Ok.some trivial) λ_=>Ok.cond (λ_=>Ok.some trivial) λ_=>Ok.some trivial
theorem Vz2(t:Jv)(v:Ub)(a:Int)(l:Ua)(b:Int):Ok (Zdx t v a l b) λ_=>True:=by
 unfold Zdx;repeat' refine Ok.cond (λ_=>?_) (λ_=>?_)
 all_goals exact Ok.some trivial
theorem Veta(n:Int)(f v:Bool)(g:List Jl)(hg:g.length<=1000000)(c:Jn)(at_:Int):Ok (Zdw_L2 (n,f,v,g,(c,()),at_,0,())) λz=>(∃c2 e,z=Sum.inl ((c2,()),e,())/\(e=0->c2.at_=at_))\/z=Sum.inr (n,f,v,g,(c,()),at_,()):=by
 unfold Zdw_L2 i7;refine Ok.iter (λs=>∃k:Nat,k<=g.length/\s=(n,f,v,g,(c,()),at_,(k:Int),())) (λs=>((g.length:Int)-s.2.2.2.2.2.2.1).toNat) ⟨0,by omega,rfl⟩ (by rw[Vaa];dsimp only;omega) ?_;rintro s ⟨k,hk,rfl⟩;dsimp only;unfold Zdw_L2b;refine Ok.cond (λhc=>?_) (λ_=>Ok.some (.inr rfl));have hc:=Uo hc;have hkg:k<g.length:=by omega
 have gk:=gIn (Qa hkg);simp only[gk,bindU];have nx:(∃k2:Nat,k2<=g.length/\((n,f,v,g,(c,()),at_,(k:Int)+1,()):Y_Zdw_L2)=(n,f,v,g,(c,()),at_,(k2:Int),()))/\((g.length:Int)-((k:Int)+1)).toNat<((g.length:Int)-(k:Int)).toNat:=⟨⟨k+1,hkg,rfl⟩,by omega⟩;have ws:Qh .i64 ((k:Int)+1)=(k:Int)+1:=Va1 (by omega) (by omega);refine Ok.cond (λ_=>by rw[ws];exact Ok.some nx) (λ_=>?_);refine Ok.bm (Q:=λj=>∃b:Bool,j=(n,f,v,g,(c,()),at_,(k:Int),b,())) (by
  repeat' first
   |exact Ok.some ⟨_,rfl⟩
   |refine Ok.cond (λ_=>?_) (λ_=>?_)) ?_
 rintro j ⟨b,rfl⟩;dsimp only;refine Ok.bm (Q:=λj=>∃b:Bool,j=(n,f,v,g,(c,()),at_,(k:Int),b,())) (Ok.cond (λ_=>Ok.some ⟨_,rfl⟩) (λ_=>Ok.some ⟨_,rfl⟩)) ?_;rintro j ⟨b2,rfl⟩;dsimp only;refine Ok.cond (λ_=>Ok.some (.inl ⟨_,_,rfl,λ_=>rfl⟩)) (λ_=>?_);rw[gk,bindU];refine Ok.bm (Q:=λj=>∃b:Bool,j=(n,f,v,g,(c,()),at_,(k:Int),b,())) (Ok.cond (λ_=>Ok.some ⟨_,rfl⟩) (λ_=>Ok.some ⟨_,rfl⟩)) ?_;rintro j ⟨b3,rfl⟩;dsimp only;refine Ok.cond (λ_=>Ok.some (.inl ⟨_,_,rfl,λ_=>rfl⟩)) (λ_=>?_);simp only[gk,bindU];refine Ok.bm (Q:=λj=>∃b:Bool,j=(n,f,v,g,(c,()),at_,(k:Int),b,())) (by
  repeat' first
   |exact Ok.some ⟨_,rfl⟩
   |refine Ok.cond (λ_=>?_) (λ_=>?_)) ?_
 rintro j ⟨b4,rfl⟩;dsimp only;refine Ok.cond (λ_=>Ok.some (.inl ⟨_,_,rfl,λh=>by cases h⟩)) (λ_=>?_);rw[gk,bindU,ws];exact Ok.cond (λ_=>Ok.some (.inl ⟨_,_,rfl,λh=>by cases h⟩)) (λ_=>Ok.some nx)
theorem Veua(n:Int)(f v:Bool)(g:List Jl)(hg:g.length<=1000000)(c:Jn)(h0:0<=n)(h1:n<=1099511627776):Ok (Zdw_L0 (n,f,v,g,(c,()),n+1,())) λz=>(∃c2 e,z=Sum.inl ((c2,()),e,())/\(e=0->0<=c2.at_/\c2.at_<=1099511627776))\/z=Sum.inr ((c,()),()):=by
 unfold Zdw_L0 i6;refine Ok.iter (λs=>∃k:Int,n<=k/\k<=n+100/\s=(n,f,v,g,(c,()),k,())) (λs=>(n+1000-s.2.2.2.2.2.1).toNat) ⟨n+1,by omega,by omega,rfl⟩ (by rw[Vaa];dsimp only;omega) ?_;rintro s ⟨k,hk,hk2,rfl⟩;dsimp only;unfold Zdw_L0b;dsimp only;rw[wI (n+30) (by omega)];have hm:(bif decide ((1099511627776:Int)<n+30) then (1099511627776:Int) else n+30)<=1099511627776/\(bif decide ((1099511627776:Int)<n+30) then (1099511627776:Int) else n+30)<=n+30:=by
  by_cases h:(1099511627776:Int)<n+30
  ·rw[Um h,Ui];omega
  ·rw[Un h,Uj];omega
 refine Ok.cond (λhc=>?_) (λ_=>Ok.some (.inr rfl));have hc:=Uo hc;refine Ok.bm (Veta n f v g hg c k) ?_;rintro q (⟨c2,e,rfl,h⟩|rfl)
 ·exact Ok.some (.inl ⟨c2,e,rfl,λhe=>by have:=h he;omega⟩)
 ·simp only[Sum.elim_inr];rw[wI (k+1) (by omega)];exact Ok.some ⟨⟨k+1,by omega,by omega,rfl⟩,by dsimp only;omega⟩
theorem Vz3(n:Int)(f v:Bool)(g:List Jl)(hg:g.length<=1000000)(h0:0<=n)(h1:n<=1099511627776):Ok (Zdw n f v g) λr=>r.2.2.1=0->0<=r.2.1.at_/\r.2.1.at_<=1099511627776:=by
 unfold Zdw;rw[Un (by omega:¬ n<0),Uj,Un (by omega:¬ 1099511627776<n),Uj,bindU];simp only[Sum.elim_inl];have hl:Ok ((Zdw_L0 (n,f,v,g,((⟨false,false,(0:Int)⟩:Jn),()),Qh .i64 (n+1),())).bind (Sum.elim (λ(z4:((Jn×Unit)×Int×Unit))=>(some ((),(z4.1.1,z4.2.1,())))) (λ(z5:((Jn×Unit)×Unit))=>(some ((),((⟨false,false,(0:Int)⟩:Jn),(19:Int),())):Option (Unit×(Jn×Int×Unit)))))) λr=>r.2.2.1=0->0<=r.2.1.at_/\r.2.1.at_<=1099511627776:=by
  rw[wI (n+1) (by omega)];refine Ok.bm (Veua n f v g hg _ h0 h1) ?_;rintro q (⟨c2,e,rfl,h⟩|rfl)
  ·exact Ok.some h
  ·exact Ok.some λh=>by cases h
 cases v
 ·rw[Uj,bindU];exact hl
 ·rw[Ui];cases f
  ·exact Ok.some λh=>by cases h
  ·rw[Bool.not_true,Uj,bindU];exact hl
end Go.Proofs.YtnfhkhlbdgbkjaaGreatDoor

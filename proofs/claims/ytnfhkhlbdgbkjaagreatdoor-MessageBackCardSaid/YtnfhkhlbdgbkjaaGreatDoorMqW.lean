/- Request and Spoil are total: a drawn request is sane. The laws on drawn requests, but for the decoder. -/
import Derived.Test.YtnfhkhlbdgbkjaaGreatDoorMqV
set_option linter.unusedVariables false
set_option linter.unusedSimpArgs false
set_option maxRecDepth 100000
namespace Go.Proofs.YtnfhkhlbdgbkjaaGreatDoor
open Go Go.Abs
open Go.IntKind renaming bits → Qa, wrap → Qf
open _root_.List renaming length_cons → Qb, length_nil → Qc, length_replicate → Qh, length_append → Qi, getElem?_eq_getElem → Qj, getElem_mem → Qk
open _root_.Int renaming toNat_natCast → Qd, fdiv → Qg, tmod → Ql
open _root_.BitVec renaming ofInt → Qe
theorem Vei(n:Int):in64 (Qf .i64 n):=by
 simp only[Qf,Qa,IntKind.signed];unfold in64;simp;omega
theorem tmodI(t:Nat)(N:Int)(m:Nat)(hN:N=(m:Int))(hm:0<m):∃j:Nat,j<m/\Ql (t:Int) N=(j:Int):=⟨t % m,Nat.mod_lt _ hm,by rw[hN,Int.tmod_eq_emod_of_nonneg (by omega)];omega⟩
theorem Ve8a(x:Int)(m:Nat)(hm:0<m)(h:m<=1000)(N:Int)(hN:N=(m:Int)):in64 (Ql x N):=by
 unfold in64;rcases Int.eq_nat_or_neg x with⟨k,rfl|rfl⟩
 ·obtain⟨j,hj,e⟩:=tmodI k N m hN hm;rw[e];omega
 ·obtain⟨j,hj,e⟩:=tmodI k N m hN hm;rw[Int.neg_tmod,e];omega
theorem Ok.getP{α β:Type}{P:α->Prop}{l:List α}{i:Nat}{f:α->Option β}{Q:β->Prop}(h:i<l.length)(hp:∀x∈l,P x)(h2:∀x,P x->Ok (f x) Q):Ok ((l[i]?).bind f) Q:=by
 rw[Qj h,bindU];exact h2 _ (hp _ (Qk h))
theorem inR{j:Nat}{N:Int}(h:(j:Int)<N):(decide ((0:Int)<=(j:Int))&&decide ((j:Int)<N))=true:=by
 rw[Um (by omega),Um h];rfl
theorem mkOk{c a:Int}(h0:0<=a)(h1:c*a<=281474976710656)(h2:a<=9223372036854775807):(decide ((0:Int)<=a)&&(decide (a<=a)&&decide (c*a<=281474976710656/\a<=9223372036854775807)))=true:=by
 rw[Um h0,Um (Int.le_refl a),Um ⟨h1,h2⟩];rfl
structure SaneR(k:Nat)(r:Jb):Prop where
 rp:r.rP.length<=100
 us:r.user.length<=100
 nm:r.name.length<=100
 li:r.list.length<=10+k
 bx:r.box.length<=1100
 pf:r.proof.length<=1100+k
 ii:r.iD.length<=10000
 i1:in64 r.jd
 i2:in64 r.je
 i3:in64 r.jk
 i4:in64 r.jb
 i5:in64 r.count
 i6:in64 r.kind
theorem SaneR.up{k:Nat}{r:Jb}(h:SaneR k r):SaneR (k+1) r:=⟨h.rp,h.us,h.nm,by have:=h.li;omega,h.bx,by have:=h.pf;omega,h.ii,h.i1,h.i2,h.i3,h.i4,h.i5,h.i6⟩
theorem SaneR.q{k:Nat}{r:Jb}(h:SaneR k r)(hk:k<=5):SaneQ r:=⟨by have:=h.rp;omega,by have:=h.us;omega,by have:=h.nm;omega,by have:=h.li;omega,by have:=h.bx;omega,by have:=h.pf;omega,by have:=h.ii;omega,h.i1,h.i2,h.i3,h.i4,h.i5,h.i6⟩
theorem Vqm(k:Nat)(hk:k<=5)(r:Jb)(h:SaneR k r)(n:Int):Ok (Zey r n) λq=>SaneR (k+1) q.2.1:=by
 unfold Zey;obtain⟨t,ht,et⟩:=mask (Qg n (2^(min 5 (Qa .i64)))) 65535 (by omega);rw[show ((65535:Nat):Int)=(65535:Int) from rfl]at et;dsimp only;rw[et];obtain⟨rp,us,nm,li,bx,pf,ii,i1,i2,i3,i4,i5,i6⟩:=h.up;obtain⟨m3,hm3,e3⟩:=tmodI t 3 3 rfl (by omega);obtain⟨m6,hm6,e6⟩:=tmodI t 6 6 rfl (by omega);obtain⟨m5,hm5,e5⟩:=tmodI t 5 5 rfl (by omega);obtain⟨m10,hm10,e10⟩:=tmodI t 10 10 rfl (by omega);obtain⟨a3,ha3,f3⟩:=mask (t:Int) 3 (by omega);rw[show ((3:Nat):Int)=(3:Int) from rfl]at f3;have w3:Qf .i64 ((175:Int)+(m3:Int))=175+(m3:Int):=Va1 (by omega) (by omega);have hl:=h.li;rw[e3,e6,e5,e10,f3,w3];refine Ok.cond (λ_=>Ok.some ⟨rp,us,nm,li,bx,pf,ii,i1,i2,i3,i4,i5,Vei _⟩) λ_=>?_;refine Ok.cond (λ_=>?_) λ_=>?_
 ·rw[inR (by omega),Ui,Qd];refine Ok.getP (P:=λx=>x.length<=100) (by simp only[Qb,Qc];omega) (by simp) λx hx=>Ok.some ⟨hx,us,nm,li,bx,pf,ii,i1,i2,i3,i4,i5,i6⟩
 refine Ok.cond (λ_=>?_) λ_=>?_
 ·rw[inR (by omega),Ui,Qd];refine Ok.getP (P:=λx=>x.length<=100) (by simp only[Qb,Qc];omega) (by simp) λx hx=>Ok.some ⟨rp,hx,nm,li,bx,pf,ii,i1,i2,i3,i4,i5,i6⟩
 refine Ok.cond (λ_=>?_) λ_=>?_
 ·rw[inR (by omega),Ui,Qd];refine Ok.getP (P:=λx=>x.length<=100) (by simp only[Qb,Qc];omega) (by simp) λx hx=>Ok.some ⟨rp,us,hx,li,bx,pf,ii,i1,i2,i3,i4,i5,i6⟩
 refine Ok.cond (λ_=>Ok.some ⟨rp,us,nm,li,bx,pf,ii,Vei _,i2,i3,i4,i5,i6⟩) λ_=>?_;refine Ok.cond (λ_=>Ok.some ⟨rp,us,nm,li,bx,pf,ii,i1,Vei _,i3,i4,i5,i6⟩) λ_=>?_;refine Ok.cond (λ_=>?_) λ_=>?_
 ·rw[Vab (by omega) (by omega),Ui,mkOk (by omega) (by omega) (by omega),Ui,Vab (by simp only[Qb,Qc];omega) (by omega),Ui];exact Ok.some ⟨rp,us,nm,by dsimp only;rw[Qi];simp only[Qb,Qc];omega,bx,pf,ii,i1,i2,i3,i4,i5,i6⟩
 refine Ok.cond (λ_=>?_) λ_=>?_
 ·rw[mkOk (by omega) (by omega) (by omega),Ui];exact Ok.some ⟨rp,us,nm,by dsimp only;rw[Qh];omega,bx,pf,ii,i1,i2,i3,i4,i5,i6⟩
 refine Ok.cond (λ_=>Ok.some ⟨rp,us,nm,li,bx,pf,ii,i1,i2,Vei _,i4,i5,i6⟩) λ_=>?_;refine Ok.cond (λ_=>Ok.some ⟨rp,us,nm,li,bx,pf,ii,i1,i2,i3,i4,i5,i6⟩) λ_=>?_;refine Ok.cond (λ_=>Ok.some ⟨rp,us,nm,li,bx,pf,ii,i1,i2,i3,i4,i5,i6⟩) λ_=>?_;refine Ok.cond (λ_=>?_) λ_=>?_
 ·rw[inR (by omega),Ui,Qd];exact Ok.get (by simp only[Qb,Qc];omega) λx=>Ok.some ⟨rp,us,nm,li,bx,pf,ii,i1,i2,i3,i4,i5,i6⟩
 refine Ok.cond (λ_=>?_) λ_=>?_
 ·rw[inR (by omega),Ui,Qd];refine Ok.getP (P:=λx=>0<=x/\x<=1100) (by simp only[Qb,Qc];omega) (by simp) λx hx=>?_;rw[mkOk (by omega) (by omega) (by omega),Ui];exact Ok.some ⟨rp,us,nm,li,by dsimp only;rw[Qh];omega,pf,ii,i1,i2,i3,i4,i5,i6⟩
 refine Ok.cond (λ_=>?_) λ_=>?_
 ·have:=h.pf;rw[Vab (by omega) (by omega),Ui,Vab (by simp only[Qb,Qc];omega) (by omega),Ui];exact Ok.some ⟨rp,us,nm,li,bx,by dsimp only;rw[Qi];simp only[Qb,Qc];omega,ii,i1,i2,i3,i4,i5,i6⟩
 refine Ok.cond (λ_=>?_) λ_=>?_
 ·rw[inR (by omega),Ui,Qd];exact Ok.getP (P:=in64) (by simp only[Qb,Qc];omega) (by simp[in64]) λx hx=>Ok.some ⟨rp,us,nm,li,bx,pf,ii,i1,i2,i3,hx,i5,i6⟩
 refine Ok.cond (λ_=>?_) λ_=>?_
 ·rw[mkOk (by omega) (by omega) (by omega),Ui];exact Ok.some ⟨rp,us,nm,li,bx,pf,by dsimp only;rw[Qh];omega,i1,i2,i3,i4,i5,i6⟩
 refine Ok.cond (λ_=>?_) λ_=>?_
 ·rw[inR (by omega),Ui,Qd];exact Ok.getP (P:=in64) (by simp only[Qb,Qc];omega) (by simp[in64]) λx hx=>Ok.some ⟨rp,us,nm,li,bx,pf,ii,i1,i2,i3,i4,hx,i6⟩
 refine Ok.cond (λ_=>Ok.some ⟨rp,us,nm,li,bx,pf,ii,i1,i2,i3,i4,i5,i6⟩) λ_=>?_;refine Ok.cond (λ_=>Ok.some ⟨rp,us,nm,li,bx,pf,ii,i1,i2,i3,i4,i5,i6⟩) λ_=>?_;refine Ok.cond (λ_=>?_) λ_=>?_
 ·refine Ok.cond (λhc=>?_) λ_=>Ok.some ⟨rp,us,nm,li,bx,pf,ii,i1,i2,i3,i4,i5,i6⟩;have hc:=Uo hc;obtain⟨mb,hmb,eb⟩:=tmodI t (r.box.length:Int) r.box.length rfl (by omega);rw[Vab (by omega) (by omega),Ui,Un (by omega),Uj,eb,inR (by omega),Ui,Qd];refine Ok.get hmb λx=>?_;rw[Ui];refine Ok.get hmb λy=>?_;exact Ok.some ⟨rp,us,nm,li,by dsimp only;rw[List.length_set];exact bx,pf,ii,i1,i2,i3,i4,i5,i6⟩
 refine Ok.cond (λ_=>Ok.some ⟨rp,us,nm,li,bx,pf,ii,i1,i2,i3,i4,i5,i6⟩) λ_=>?_;exact Ok.cond (λ_=>Ok.some ⟨rp,us,nm,li,bx,pf,ii,i1,i2,i3,i4,i5,i6⟩) λ_=>Ok.some ⟨rp,us,nm,li,bx,pf,ii,i1,i2,i3,i4,i5,i6⟩
theorem ID_ok(n:Int):Ok (Zic n) λr=>r.2.1.length<=10000:=by
 unfold Zic;refine Ok.bm (Vin _ _ _) ?_;rintro⟨_,l,_⟩ hl;exact Ok.some (by dsimp only at *;omega)
theorem Vb1(p:Ji)(h:PlayOk p)(n:Int):Ok (Zcx p n) λr=>r.2.1.length<=10000:=by
 unfold Zcx;refine Ok.cond (λ_=>?_) λhc=>?_
 ·refine Ok.bm (ID_ok n) ?_;rintro⟨_,l,_⟩ hl;exact Ok.some hl
 have hc:=Up hc;obtain⟨k,hk,e⟩:=mask n 15 (by omega);rw[show ((15:Nat):Int)=(15:Int) from rfl]at e;dsimp only;rw[e];refine Ok.cond (λ_=>?_) λ_=>?_
 ·refine Ok.bm (ID_ok n) ?_;rintro⟨_,l,_⟩ hl;exact Ok.some hl
 obtain⟨j,hj,ej⟩:=tmodI k (p.iDs.length:Int) p.iDs.length rfl (by omega);rw[Un (by omega),Uj,ej,gIn (Qj hj),bindU];exact Ok.some (h.i _ (Qk hj))
theorem Vaha(n:Int):Ok (Zbf n) λr=>CLt r.2.1:=by
 unfold Zbf;obtain⟨rp,e1,r1,r2,r3⟩:=RP_ok n;rw[e1,bindU];obtain⟨us,e2,u1,u2⟩:=Vol (Qg n (2^(min 2 (Qa .i64))));rw[e2,bindU];obtain⟨a,b,e3⟩:=Vxr (Qg n (2^(min 4 (Qa .i64))));rw[e3,bindU];obtain⟨t1,t2⟩:=Vjw a b;have H:∀(s:Ub) (h p:Int) (q1 q2 q3:Bool),CLt ⟨rp,us,words.getD a.val []++words.getD b.val [],s,h,q1,p,q2,q3⟩:=λs h p q1 q2 q3=>⟨by dsimp only;omega,by dsimp only;omega⟩;dsimp only;refine Ok.cond (λ_=>Ok.cond (λ_=>?_) λ_=>?_) λ_=>?_;all_goals exact Ok.some (H _ _ _ _ _ _)
theorem Vaia(c:Jg)(h:CLt c)(a b:Int):Ok (Zao c a b) λ_=>True:=by
 unfold Zao;refine Ok.bm (Vop c h) ?_;rintro⟨_,l,e,_⟩ hl;dsimp only at *;refine Ok.cond (λ_=>Ok.some trivial) λ_=>Ok.cond (λ_=>Ok.some trivial) λ_=>Ok.cond (λ_=>Ok.some trivial) λ_=>Ok.cond (λ_=>Ok.some trivial) λ_=>Ok.cond (λ_=>Ok.some trivial) λ_=>?_;rw[Vab (by simp only[Qb,Qc];omega) (by omega),Ui];exact Ok.some trivial
abbrev RQ:=Int×Ua×Ua×Ua×Ub×Int×Int×(List Ua)×Bool×Bool×Bool×Bool×Int×Ub×Bool×Ub×Ua×Ua×Int×Ua×Int×Unit
def mkR(t:RQ):Jb:=⟨t.1,t.2.1,t.2.2.1,t.2.2.2.1,t.2.2.2.2.1,t.2.2.2.2.2.1,t.2.2.2.2.2.2.1,t.2.2.2.2.2.2.2.1,t.2.2.2.2.2.2.2.2.1,t.2.2.2.2.2.2.2.2.2.1,t.2.2.2.2.2.2.2.2.2.2.1,t.2.2.2.2.2.2.2.2.2.2.2.1,t.2.2.2.2.2.2.2.2.2.2.2.2.1,t.2.2.2.2.2.2.2.2.2.2.2.2.2.1,t.2.2.2.2.2.2.2.2.2.2.2.2.2.2.1,t.2.2.2.2.2.2.2.2.2.2.2.2.2.2.2.1,t.2.2.2.2.2.2.2.2.2.2.2.2.2.2.2.2.1,t.2.2.2.2.2.2.2.2.2.2.2.2.2.2.2.2.2.1,t.2.2.2.2.2.2.2.2.2.2.2.2.2.2.2.2.2.2.1,t.2.2.2.2.2.2.2.2.2.2.2.2.2.2.2.2.2.2.2.1,t.2.2.2.2.2.2.2.2.2.2.2.2.2.2.2.2.2.2.2.2.1⟩
def J17(n m:Int)(p:Ji)(k z:Ub)(w b:Ua)(v:Int)(j:Int×Int×(Ji×Unit)×RQ×(Jd×Unit)×Ub×Ub×Ua×Ua×RQ×Int×Bool×Unit):Prop:=
 ∃c:Bool,j=(n,m,(p,()),((0:Int),([]:Ua),([]:Ua),([]:Ua),0#64,(0:Int),(0:Int),[],false,false,false,false,(0:Int),0#64,false,0#64,[],[],(0:Int),[],(0:Int),()),(p.jh,()),k,z,w,b,((0:Int),([]:Ua),([]:Ua),([]:Ua),0#64,(0:Int),(0:Int),[],false,false,false,false,(0:Int),0#64,false,0#64,[],[],(0:Int),[],(0:Int),()),v,c,())
def J56(n m:Int)(d:Jd)(j:Int×Int×RQ×(Jd×Unit)×(Jb×Unit)×Unit):Prop:=∃q r,SaneR 0 r/\j=(n,m,q,(d,()),(r,()),())
def J62(n m:Int)(j:Int×Int×RQ×RQ×Unit):Prop:=∃q t,SaneR 0 (mkR t)/\j=(n,m,q,t,())
theorem Vaja(n m:Int)(p:Ji)(h:PlayOk p)(q:RQ)(rp:Ua)(w:Ub)(b1 b2:Bool):Ok (Zcy_L1 (n,m,(p,()),q,(p.jh,()),((3:Int),rp,([]:Ua),([]:Ua),w,(0:Int),(0:Int),[],false,b1,b2,false,(0:Int),0#64,false,0#64,[],[],(0:Int),[],(0:Int),()),(0:Int),())) λz=>∃l:List Ua,l.length<=3/\z=(n,m,q,(p.jh,()),((3:Int),rp,([]:Ua),([]:Ua),w,(0:Int),(0:Int),l,false,b1,b2,false,(0:Int),0#64,false,0#64,[],[],(0:Int),[],(0:Int),()),()):=by
 obtain⟨k3,h3,e3⟩:=mask (Qg m (2^(min 7 (Qa .i64)))) 3 (by omega);rw[show ((3:Nat):Int)=(3:Int) from rfl]at e3;unfold Zcy_L1 i7;refine Ok.iter (λs=>∃(k:Nat) (l:List Ua),k<=3/\l.length<=k/\s=(n,m,(p,()),q,(p.jh,()),((3:Int),rp,([]:Ua),([]:Ua),w,(0:Int),(0:Int),l,false,b1,b2,false,(0:Int),0#64,false,0#64,[],[],(0:Int),[],(0:Int),()),(k:Int),())) (λs=>(3-s.2.2.2.2.2.2.1).toNat) ⟨0,[],by omega,by simp,rfl⟩ (by rw[Vaa];dsimp only;omega) ?_;rintro s ⟨k,l,hk,hl,rfl⟩;dsimp only;unfold Zcy_L1b;dsimp only;rw[e3];refine Ok.cond (λhc=>?_) (λhc=>Ok.some ⟨l,by omega,rfl⟩);have hc:=Uo hc;refine Ok.bm (Vb1 p h _) ?_;rintro⟨_,x,_⟩ hx;dsimp only;rw[Vab (by simp only[Qb,Qc];omega) (by omega),Ui,wI ((k:Int)+1) (by omega)];exact Ok.some ⟨⟨k+1,l++[x],by omega,by rw[Qi];simp only[Qb,Qc];omega,rfl⟩,by dsimp only;omega⟩
theorem Vrv(p:Ji)(h:PlayOk p)(n m:Int):Ok (Zcy p n m) λr=>SaneR 1 r.2.1:=by
 unfold Zcy;refine Ok.bm (Vor _) ?_;rintro⟨_,k,_⟩ _;refine Ok.bm (Vfw _) ?_;rintro⟨_,z,_⟩ _;dsimp only;obtain⟨l1,e1,hl1⟩:=Vgh (Qf .i64 ((Qe (Qa .i64) (Qg m (2^(min 3 (Qa .i64))))&&&Qe (Qa .i64) (1:Int)).toNat:Int));rw[e1,bindU];refine Ok.bm (Vgg _ (by dsimp only;omega)) ?_;rintro⟨_,y,_⟩ _;refine Ok.bm (Ve8 _ _ _) ?_;rintro⟨_,w,_⟩ hw;dsimp only at *;obtain⟨l2,e2,hl2⟩:=Vgh (Qf .i64 ((Qe (Qa .i64) (Qg m (2^(min 4 (Qa .i64))))&&&Qe (Qa .i64) (1:Int)).toNat:Int));rw[e2,bindU];obtain⟨l3,e3,hl3⟩:=Vgh (Qf .i64 ((Qe (Qa .i64) (Qg m (2^(min 5 (Qa .i64))))&&&Qe (Qa .i64) (3:Int)).toNat:Int));rw[e3,bindU];obtain⟨l4,e4,hl4⟩:=Vgh 0;rw[e4,bindU];obtain⟨k7,h7,e7⟩:=mask (Qg m (2^(min 7 (Qa .i64)))) 3 (by omega);rw[show ((3:Nat):Int)=(3:Int) from rfl]at e7;dsimp only;rw[e7,inR (by omega),Ui,Qd];refine Ok.get (by simp only[Qb,Qc];omega) λx=>?_;refine Ok.bm (Vjv _ _ _) ?_;rintro⟨_,b,c,_⟩ ⟨hb,_⟩;dsimp only at *;have ni:∀x:Nat,x<=100->in64 (x:Int):=λx hx=>by unfold in64;omega
 refine Ok.bm (Q:=J56 n m p.jh) ?_ ?_
 ·refine Ok.bm (Q:=J17 n m p k z w b (Qf .i64 ((Qe (Qa .i64) n&&&Qe (Qa .i64) (15:Int)).toNat:Int))) (Ok.cond (λ_=>Ok.some ⟨_,rfl⟩) λ_=>Ok.cond (λ_=>Ok.some ⟨_,rfl⟩) λ_=>Ok.some ⟨_,rfl⟩) ?_;rintro j ⟨c1,rfl⟩;dsimp only;refine Ok.cond (λ_=>?_) λ_=>?_
  ·obtain⟨rp,f1,r1,r2,r3⟩:=RP_ok m;rw[f1,bindU];obtain⟨us,f2,u1,u2⟩:=Vol (Qg m (2^(min 2 (Qa .i64))));rw[f2,bindU];obtain⟨ta,tb,f3⟩:=Vxr (Qg m (2^(min 4 (Qa .i64))));rw[f3,bindU];obtain⟨t1,t2⟩:=Vjw ta tb;refine Ok.bm (Vli _) ?_;rintro⟨_,wd,_⟩ _;dsimp only;have H:∀(l:List Ua) (h1 h2:Int) (b1 b2 b3 b4:Bool) (x:Ub),l.length<=2->SaneR 0 ⟨2,rp,us,words.getD ta.val []++words.getD tb.val [],wd,Qf .i64 h1,Qf .i64 h2,l,b1,false,b2,b3,Ql (Qg m (2^(min 11 (Qa .i64)))) 3,0#64,false,0#64,[],[],0,[],0⟩:=λl h1 h2 b1 b2 b3 b4 x hl=>⟨by dsimp only;omega,by dsimp only;omega,by dsimp only;omega,by dsimp only;omega,by simp,by simp,by simp,Vei _,Vei _,Ve8a _ 3 (by omega) (by omega) _ rfl,z64,z64,ni 2 (by omega)⟩;refine Ok.cond (λ_=>?_) λ_=>?_
   ·refine Ok.cond (λ_=>?_) λ_=>Ok.some ⟨_,_,H _ _ _ _ _ _ true 0 (by simp),rfl⟩;refine Ok.bm (Vb1 p h _) ?_;rintro⟨_,x1,_⟩ _;refine Ok.bm (Vb1 p h _) ?_;rintro⟨_,x2,_⟩ _;exact Ok.some ⟨_,_,H _ _ _ _ _ _ true 0 (by simp),rfl⟩
   ·refine Ok.cond (λ_=>?_) λ_=>Ok.some ⟨_,_,H _ _ _ _ _ _ true 0 (by simp),rfl⟩;refine Ok.bm (Vb1 p h _) ?_;rintro⟨_,x1,_⟩ _;refine Ok.bm (Vb1 p h _) ?_;rintro⟨_,x2,_⟩ _;exact Ok.some ⟨_,_,H _ _ _ _ _ _ true 0 (by simp),rfl⟩
  refine Ok.bm (Q:=J17 n m p k z w b (Qf .i64 ((Qe (Qa .i64) n&&&Qe (Qa .i64) (15:Int)).toNat:Int))) (Ok.cond (λ_=>Ok.some ⟨_,rfl⟩) λ_=>Ok.cond (λ_=>Ok.some ⟨_,rfl⟩) λ_=>Ok.some ⟨_,rfl⟩) ?_;rintro j ⟨c2,rfl⟩;dsimp only;refine Ok.cond (λ_=>?_) λ_=>?_
  ·obtain⟨rp,f1,r1,r2,r3⟩:=RP_ok m;rw[f1,bindU];refine Ok.bm (Vli _) ?_;rintro⟨_,wd,_⟩ _;dsimp only;refine Ok.bm (Vaja n m p h _ rp wd _ _) ?_;rintro j ⟨l,hl,rfl⟩;exact Ok.some ⟨_,_,⟨by dsimp only;omega,by simp,by simp,by dsimp only;omega,by simp,by simp,by simp,z64,z64,z64,z64,z64,ni 3 (by omega)⟩,rfl⟩
  have B:∀(q:Int) (b1:Bool) (x:Ub) (l1 l2:Ua) (i c:Int) (l3 l4:Ua),in64 q->in64 i->in64 c->l1.length<=1100->l2.length<=1100->l3.length<=10000->l4.length<=100->SaneR 0 ⟨q,l4,[],[],0#64,0,0,[],false,false,false,false,0,0#64,false,x,l1,l2,i,l3,c⟩:=λq b1 x l1 l2 i c l3 l4 g1 g2 g3 g4 g5 g6 g7=>⟨g7,by simp,by simp,by simp,g4,g5,g6,z64,z64,z64,g2,g3,g1⟩;refine Ok.cond (λ_=>Ok.some ⟨_,_,B _ true _ _ _ _ _ _ _ (ni 4 (by omega)) z64 z64 (by simp) (by simp) (by simp) (by simp),rfl⟩) λ_=>?_;refine Ok.cond (λ_=>Ok.some ⟨_,_,B _ true _ _ _ _ _ _ _ (ni 7 (by omega)) z64 z64 (by omega) (by simp) (by simp) (by simp),rfl⟩) λ_=>?_;refine Ok.bm (Q:=J17 n m p k z w b (Qf .i64 ((Qe (Qa .i64) n&&&Qe (Qa .i64) (15:Int)).toNat:Int))) (Ok.cond (λ_=>Ok.some ⟨_,rfl⟩) λ_=>Ok.some ⟨_,rfl⟩) ?_;rintro j ⟨c3,rfl⟩;dsimp only;refine Ok.cond (λ_=>?_) λ_=>?_
  ·obtain⟨rp,f1,r1,r2,r3⟩:=RP_ok (Qg m (2^(min 1 (Qa .i64))));rw[f1,bindU];obtain⟨k2,h2,g2⟩:=mask (Qg m (2^(min 2 (Qa .i64)))) 1 (by omega);rw[show ((1:Nat):Int)=(1:Int) from rfl]at g2;dsimp only;rw[g2,inR (by omega),Ui,Qd];refine Ok.getP (P:=λx=>x.length<=100) (by simp only[Qb,Qc];omega) (by simp;omega) λx hx=>?_;exact Ok.some ⟨_,_,B _ true _ _ _ _ _ _ _ (ni 9 (by omega)) (Vei _) z64 (by simp) (by omega) (by simp) hx,rfl⟩
  refine Ok.cond (λ_=>Ok.some ⟨_,_,B _ true _ _ _ _ _ _ _ (ni 8 (by omega)) z64 z64 (by omega) (by omega) (by simp) (by simp),rfl⟩) λ_=>?_;refine Ok.cond (λ_=>?_) λ_=>?_
  ·obtain⟨k2,h2,g2⟩:=mask m 3 (by omega);rw[show ((3:Nat):Int)=(3:Int) from rfl]at g2;rw[g2,inR (by omega),Ui,Qd];refine Ok.getP (P:=in64) (by simp only[Qb,Qc];omega) (by simp[in64]) λx hx=>?_;exact Ok.some ⟨_,_,B _ true _ _ _ _ _ _ _ hx z64 z64 (by simp) (by simp) (by simp) (by simp),rfl⟩
  refine Ok.cond (λ_=>Ok.some ⟨_,_,B _ true _ _ _ _ _ _ _ (ni 11 (by omega)) z64 z64 (by simp) (by simp) (by simp) (by simp),rfl⟩) λ_=>?_;refine Ok.cond (λ_=>?_) λ_=>?_
  ·refine Ok.bm (Vb1 p h _) ?_;rintro⟨_,x1,_⟩ hx;exact Ok.some ⟨_,_,B _ true _ _ _ _ _ _ _ (ni 12 (by omega)) z64 z64 (by simp) (by simp) hx (by simp),rfl⟩
  refine Ok.cond (λ_=>?_) λ_=>?_
  ·refine Ok.bm (Vb1 p h _) ?_;rintro⟨_,x1,_⟩ hx;exact Ok.some ⟨_,_,B _ true _ _ _ _ _ _ _ (ni 13 (by omega)) z64 (Vei _) (by simp) (by simp) hx (by simp),rfl⟩
  refine Ok.cond (λ_=>?_) λ_=>?_
  ·refine Ok.bm (Vaha _) ?_;rintro⟨_,cr,_⟩ hcr;refine Ok.bm (Vaia cr hcr _ _) ?_;rintro⟨_,gr,ge,_⟩ _;refine Ok.bm (Vlc _ _ _ _) ?_;rintro⟨_,sl,se,_⟩ ⟨hs,_⟩;dsimp only at *;exact Ok.some ⟨_,_,B _ true _ _ _ _ _ _ _ (ni 14 (by omega)) z64 z64 (by omega) (by simp) (by simp) (by simp),rfl⟩
  exact Ok.some ⟨_,_,B _ true _ _ _ _ _ _ _ z64 z64 z64 (by simp) (by simp) (by simp) (by simp),rfl⟩
 rintro j ⟨q,r,hr,rfl⟩;have au:Ok (Zbs p.jh r) λq=>SaneR 0 q.2.1:=Ok.mono (Vgo p.jh r (hr.q (by omega))) (by
  rintro⟨_,a,_⟩ ⟨x,hx⟩;dsimp only at hx;subst hx;exact⟨hr.rp,hr.us,hr.nm,hr.li,hr.bx,hr.pf,hr.ii,hr.i1,hr.i2,hr.i3,hr.i4,hr.i5,hr.i6⟩)
 have tu:∀a:Jb,SaneR 0 a->J62 n m (n,m,q,(a.kind,a.rP,a.user,a.name,a.jz,a.jd,a.je,a.list,a.jg,a.js,a.jt,a.jo,a.jk,a.auth,a.jl,a.jv,a.box,a.proof,a.jb,a.iD,a.count,()),()):=λa ha=>⟨q,(a.kind,a.rP,a.user,a.name,a.jz,a.jd,a.je,a.list,a.jg,a.js,a.jt,a.jo,a.jk,a.auth,a.jl,a.jv,a.box,a.proof,a.jb,a.iD,a.count,()),ha,rfl⟩;refine Ok.bm (Q:=J62 n m) ?_ ?_
 ·dsimp only;refine Ok.cond (λ_=>?_) λ_=>Ok.cond (λ_=>Ok.cond (λ_=>?_) λ_=>Ok.some (tu _ hr)) λ_=>Ok.some (tu _ hr)
  ·refine Ok.bm au ?_;rintro⟨_,a,_⟩ ha;exact Ok.some (tu a ha)
  ·refine Ok.bm au ?_;rintro⟨_,a,_⟩ ha;exact Ok.some (tu a ha)
 rintro j ⟨q2,t,ht,rfl⟩;refine Ok.bm (Q:=λj=>SaneR 1 (mkR j.2.1)) ?_ ?_
 ·dsimp only;refine Ok.cond (λ_=>?_) λ_=>Ok.some ht.up;refine Ok.bm (Vqm 0 (by omega) (mkR t) ht m) ?_;rintro⟨_,a,_⟩ ha;exact Ok.some ha
 rintro⟨j1,j2,_⟩ hj;exact Ok.some hj
theorem Vrw(a b:Int):Ok (Zce a b) λr=>SaneQ r.2.1:=by
 unfold Zce;dsimp only;refine Ok.bm (Ve7a _ _) ?_;rintro⟨_,p,_⟩ ⟨hp,_⟩;refine Ok.bm (Vrv p hp _ _) ?_;rintro⟨_,r,_⟩ hr;refine Ok.cond (λ_=>?_) λ_=>Ok.some (hr.q (by omega));refine Ok.bm (Vqm 1 (by omega) r hr _) ?_;rintro⟨_,q,_⟩ hq;exact Ok.some (hq.q (by omega))
end Go.Proofs.YtnfhkhlbdgbkjaaGreatDoor

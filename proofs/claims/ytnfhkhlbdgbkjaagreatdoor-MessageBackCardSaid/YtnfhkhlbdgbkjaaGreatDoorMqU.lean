/- The device of the reference: Make is total; a device with a PIN and credentials. -/
import Derived.Test.YtnfhkhlbdgbkjaaGreatDoorMqT
set_option linter.unusedVariables false
set_option linter.unusedSimpArgs false
set_option maxRecDepth 100000
namespace Go.Proofs.YtnfhkhlbdgbkjaaGreatDoor
open Go Go.Abs
open _root_.List renaming length_cons → Qa, length_nil → Qb, length_append → Qc
theorem Ve1a(d:Jd)(h:DevOk d)(now:Int)(h0:0<=now)(h1:now<=1099511627776)(r:Jb)(hs:SaneQ r)(g:List Jl)(hg:g.length<=1000000)(hk:r.kind=2)(hv:Zbw r=some ((),0,()))(hl:r.list=[])(hf:r.jk=0):Ok (Zfi d now r g (-1)) λq=>DevOk q.2.1/\RepOk q.2.2.1:=by
 unfold Zfi;refine Ok.bm (Vlh d h now h0 h1 r g 2 hk (by decide) hv) ?_;rintro⟨_,w,e,_⟩ ⟨hw,he⟩;dsimp only at *;subst he;rw[show (!decide ((0:Int)=0))=false from rfl,Uj];have hc:∀x:Ub,CLt ⟨r.rP,r.user,r.name,x,r.jd,r.jg,r.je,r.jo,false⟩:=λx=>⟨hs.rp,hs.nm⟩;rw[Vds _ (hc _).r (hc _).n,bindU,Vbd,bindU];refine Ok.cond (λ_=>Vcz (hw.fl _)) λ_=>?_;rw[hf,show decide ((2:Int)<0)=false from rfl,Uj];refine Ok.bm (Vlg (hw.fl _) hs _ _) ?_;rintro⟨⟨⟨w2,_⟩,_⟩,tr,_⟩ hw2;dsimp only at *;refine Ok.bm (Q:=λ(j:(Jd×Unit)×(Jb×Unit)×(Jd×Unit)×(Jj×Unit)×(Je×Unit)×(Jg×Unit)×Bool×Unit)=>∃z1 z2 w,WOk r g w/\j=((d,()),(r,()),(z1,()),(z2,()),(w,()),(⟨r.rP,r.user,r.name,0#64,r.jd,r.jg,r.je,r.jo,false⟩,()),tr,())) ?_ ?_
 ·refine Ok.cond (λ_=>Ok.cond (λ_=>?_) λ_=>Ok.some ⟨_,_,_,hw2,rfl⟩) λ_=>Ok.some ⟨_,_,_,hw2,rfl⟩;refine Ok.bm (Vqf _ hw2.d.v) λp _=>?_;refine Ok.cond (λ_=>?_) λ_=>Ok.some ⟨_,_,_,hw2,rfl⟩;rw[Vbd,bindU];exact Ok.some ⟨_,_,_,hw2.fl _,rfl⟩
 rintro j ⟨z1,z2,w3,hw3,rfl⟩;dsimp only;refine Ok.bm (Q:=λ(j:(Jd×Unit)×(Jb×Unit)×(Jd×Unit)×(Jj×Unit)×(Je×Unit)×(Jg×Unit)×Bool×(Jn×Unit)×Unit)=>∃w cs,WOk r g w/\j=((d,()),(r,()),(z1,()),(z2,()),(w,()),(⟨r.rP,r.user,r.name,0#64,r.jd,r.jg,r.je,r.jo,false⟩,()),tr,(cs,()),())) ?_ ?_
 ·refine Ok.cond (λ_=>?_) λ_=>?_;all_goals
   refine Ok.bm (Vxs hw3 hg _) ?_;rintro⟨⟨⟨w4,_⟩,_⟩,cs,_⟩ hw4;exact Ok.some ⟨_,_,hw4,rfl⟩
 rintro j ⟨w4,cs,hw4,rfl⟩;dsimp only;have lp:∀c,Zfi_L0 ((d,()),(r,()),(z1,()),(z2,()),(w4,()),(c,()),tr,(cs,()),(0:Int),())=some ((d,()),(r,()),(z1,()),(z2,()),(w4,()),(c,()),tr,(cs,()),()):=by
  intro c;unfold Zfi_L0 i9;rw[Vaa,show (1180591620717411303424:Nat)=1180591620717411303423+1 from rfl,Vac];unfold Zfi_L0b;rw[hl];rfl
 rw[lp,bindU];dsimp only;rw[hf];refine Ok.bm (Q:=λ(j:(Jd×Unit)×(Jb×Unit)×(Jd×Unit)×(Jj×Unit)×(Je×Unit)×(Jg×Unit)×Bool×(Jn×Unit)×Int×Unit)=>j=((d,()),(r,()),(z1,()),(z2,()),(w4,()),(⟨r.rP,r.user,r.name,0#64,r.jd,r.jg,r.je,r.jo,false⟩,()),tr,(cs,()),0,())) (Ok.bind (Ok.cond (λ_=>Ok.some (Ok.some rfl)) λ_=>Ok.some (Ok.some rfl))) ?_;rintro j rfl;dsimp only;refine Ok.cond (λ_=>Vcz hw4) λ_=>?_;refine Ok.bm (Vfx hw4) ?_;rintro⟨⟨⟨w5,_⟩,_⟩,x5,_⟩ hw5;dsimp only at *;refine Ok.bm (Vfx hw5) ?_;rintro⟨⟨⟨w6,_⟩,_⟩,x6,_⟩ hw6;dsimp only at *;refine Ok.bm (Vfv _ hw6.d.v) λq6 _=>?_;refine Ok.bm (id_ok _ _ _ (hc _)) ?_;rintro⟨_,id,e7,_⟩ hid;dsimp only at *;rw[hf,show decide ((0:Int)=1)=false from rfl,Uj,bindU];dsimp only;rw[hw6.b];refine Ok.bm (Vgya _ hw6.d _ (hc _) id (by omega) _ _ _) ?_;rintro⟨_,d8,c8,e8,_⟩ ⟨k1,k2,k3⟩;dsimp only at *;refine Ok.bm (Von hw6 d8 c8 e8 k1 k2 k3) ?_;rintro⟨⟨⟨w9,_⟩,_⟩,_⟩ hw9;refine Ok.cond (λ_=>Vcz hw9) λ_=>?_;dsimp only at *;refine Ok.bm (Q:=λ(j:(Jd×Unit)×(Jb×Unit)×(Jd×Unit)×(Jj×Unit)×(Je×Unit)×(Jg×Unit)×Int×Ua×Int×Int×Unit)=>∃c n1 n2 n3,CLt c/\j=((d,()),(r,()),(z1,()),(z2,()),(w9,()),(c,()),n1,id,n2,n3,())) (Ok.cond (λ_=>Ok.some ⟨_,_,_,_,hc x5,rfl⟩) λ_=>Ok.cond (λ_=>Ok.some ⟨_,_,_,_,hc x5,rfl⟩) λ_=>Ok.some ⟨_,_,_,_,hc x5,rfl⟩) ?_;rintro j ⟨c10,n1,n2,n3,hc10,rfl⟩;dsimp only;refine Ok.bm (Q:=λ(j:(Jd×Unit)×(Jb×Unit)×(Jd×Unit)×(Jj×Unit)×(Je×Unit)×(Jg×Unit)×Int×Ua×Int×Int×Unit)=>∃n3,j=((d,()),(r,()),(z1,()),(z2,()),(w9,()),(c10,()),n1,id,n2,n3,())) (Ok.cond (λ_=>Ok.some ⟨_,rfl⟩) λ_=>Ok.some ⟨_,rfl⟩) ?_;rintro j ⟨n4,rfl⟩;dsimp only;refine Ok.bm (Vgza _ hc10) λq11 _=>?_;refine Ok.bm (Vne _ hs.rp) λq12 _=>?_;refine Ok.bm (Vrr _ (by dsimp only;omega)) ?_;rintro⟨_,ad,e13,_⟩ had;dsimp only at *;refine Ok.bm (Vrs _ (by omega) _) λq14 _=>?_;rw[hf,show decide ((0:Int)=1)=false from rfl,Uj,show decide ((0:Int)=2)=false from rfl,Uj,bindU];dsimp only;refine Ok.bm (Vz9 (r:=r) (g:=g) (w:=⟨w9.d,w9.r,w9.g,w9.jaa,⟨w9.jc.err,ad,w9.jc.jac,w9.jc.jq,0,w9.jc.iD,w9.jc.user,w9.jc.name,w9.jc.count,w9.jc.jv,w9.jc.box,w9.jc.jaf,w9.jc.jx,w9.jc.jay,w9.jc.jau,w9.jc.jax,w9.jc.jaj,w9.jc.jy⟩,w9.err⟩) ⟨hw9.d,hw9.b,⟨by dsimp only;omega,hw9.p.i⟩,hw9.r,hw9.g⟩ _) ?_;rintro⟨⟨⟨w15,_⟩,_⟩,_⟩ hw15;exact Vcz hw15
structure PlayOk(p:Ji):Prop where
 d:DevOk p.jh
 i:∀x∈p.iDs,x.length<=10000
 n:p.iDs.length<=1000
theorem Vaca(p:Ji)(a:Jj)(n:Nat)(hd:DevOk p.jh)(hi:∀x∈p.iDs,x.length<=10000)(hn:p.iDs.length<=n)(hn2:n<=900)(ha:RepOk a):Ok (Zex p a) λr=>DevOk r.2.1.jh/\r.2.1.jh=p.jh/\(∀x∈r.2.1.iDs,x.length<=10000)/\r.2.1.iDs.length<=n+2:=by
 unfold Zex;refine Ok.bm (Vrt _) ?_;rintro⟨_,ad,e,_⟩ had;dsimp only at *;have app:∀(l:List Ua) (x:Ua),(∀y∈l,y.length<=10000)->x.length<=10000->∀y∈l++[x],y.length<=10000:=λl x h1 h2 y hy=>by
  rcases List.mem_append.1 hy with hy|hy
  ·exact h1 y hy
  ·rw[List.mem_singleton]at hy;subst hy;exact h2
 refine Ok.bm (Q:=λ(j:(Ji×Unit)×(Jj×Unit)×(Ji×Unit)×Unit)=>∃l z,(∀x∈l,x.length<=10000)/\l.length<=n+1/\j=((⟨p.jh,l⟩,()),(a,()),(z,()),())) ?_ ?_
 ·refine Ok.cond (λ_=>Ok.cond (λ_=>?_) λ_=>Ok.some ⟨p.iDs,_,hi,by omega,rfl⟩) λ_=>Ok.some ⟨p.iDs,_,hi,by omega,rfl⟩;rw[Vab (by omega) (by omega),Ui,Vab (by simp only[Qa,Qb];omega) (by omega),Ui];exact Ok.some ⟨_,_,app _ _ hi (by omega),by rw[Qc];simp only[Qa,Qb];omega,rfl⟩
 rintro j ⟨l,z,hl,hln,rfl⟩;dsimp only;refine Ok.cond (λ_=>Ok.cond (λ_=>?_) λ_=>Ok.some ⟨hd,rfl,hl,by dsimp only;omega⟩) λ_=>Ok.some ⟨hd,rfl,hl,by dsimp only;omega⟩;rw[Vab (by omega) (by omega),Ui,Vab (by simp only[Qa,Qb];omega) (by omega),Ui];exact Ok.some ⟨hd,rfl,app _ _ hl ha.i,by dsimp only;rw[Qc];simp only[Qa,Qb];omega⟩
structure ReqOk(r:Jb):Prop where
 s:SaneQ r
 v:valQ r=0
 k:r.kind=7\/r.kind=9\/r.kind=2/\r.list=[]/\r.jk=0
theorem Vg0a(d:Jd)(h:DevOk d)(now:Int)(h0:0<=now)(h1:now<=1099511627776)(r:Jb)(hr:ReqOk r)(g:List Jl)(hg:g.length<=1000000):Ok (Zgn d now r g (-1)) λq=>DevOk q.2.1/\RepOk q.2.2.1:=by
 have hv:Zbw r=some ((),0,()):=by rw[Vcc r hr.s,hr.v]
 unfold Zgn;rcases hr.k with k|k|⟨k,k2,k3⟩
 ·rw[k];simp only[show decide ((7:Int)=1)=false from rfl,show decide ((7:Int)=2)=false from rfl,show decide ((7:Int)=3)=false from rfl,show decide ((7:Int)=4)=false from rfl,show decide ((7:Int)=5)=false from rfl,show decide ((7:Int)=6)=false from rfl,show decide ((7:Int)=7)=true from rfl,Uj,Ui];refine Ok.bm (Vxu d h now h0 h1 r g k hv) ?_;rintro⟨_,d2,p,b,_⟩ hq;exact Ok.some hq
 ·rw[k];simp only[show decide ((9:Int)=1)=false from rfl,show decide ((9:Int)=2)=false from rfl,show decide ((9:Int)=3)=false from rfl,show decide ((9:Int)=4)=false from rfl,show decide ((9:Int)=5)=false from rfl,show decide ((9:Int)=6)=false from rfl,show decide ((9:Int)=7)=false from rfl,show decide ((9:Int)=8)=false from rfl,show decide ((9:Int)=9)=true from rfl,Uj,Ui];refine Ok.bm (Vaaa d h now h0 h1 r g k hv) ?_;rintro⟨_,d2,p,b,_⟩ hq;exact Ok.some hq
 ·rw[k];simp only[show decide ((2:Int)=1)=false from rfl,show decide ((2:Int)=2)=true from rfl,Uj,Ui];refine Ok.bm (Ve1a d h now h0 h1 r hr.s g hg k hv k2 k3) ?_;rintro⟨_,d2,p,b,_⟩ hq;exact Ok.some hq
theorem Do_ok(p:Ji)(h:PlayOk p)(n:Nat)(hn:p.iDs.length<=n)(hn2:n<=900)(r:Jb)(hr:ReqOk r)(g:List Jl)(hg:g.length<=1000000):Ok (Zib p ⟨false,p.jh.now,r,g,-1⟩) λq=>PlayOk q.2.1/\q.2.1.iDs.length<=n+2:=by
 unfold Zib;dsimp only;rw[Uj];refine Ok.bm (Vg0a p.jh h.d _ h.d.n0 h.d.n1 r hr g hg) ?_;rintro⟨_,d,rp,b,_⟩ ⟨h1,h2⟩;dsimp only at *;refine Ok.bm (Vaca ⟨d,p.iDs⟩ rp n h1 h.i hn hn2 h2) ?_;rintro⟨_,q,_⟩ ⟨k1,k2,k3,k4⟩;exact Ok.some ⟨⟨k1,k3,by dsimp only at *;omega⟩,k4⟩
end Go.Proofs.YtnfhkhlbdgbkjaaGreatDoor

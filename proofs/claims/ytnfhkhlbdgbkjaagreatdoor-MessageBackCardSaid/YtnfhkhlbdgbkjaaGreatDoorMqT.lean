/- The device of the reference: credentials, Add and Make are total. -/
import Derived.Test.YtnfhkhlbdgbkjaaGreatDoorMqS
set_option linter.unusedVariables false
set_option linter.unusedSimpArgs false
set_option maxRecDepth 100000
namespace Go.Proofs.YtnfhkhlbdgbkjaaGreatDoor
open Go Go.Abs
open _root_.List renaming getElem?_eq_getElem → Qa, length_cons → Qd, length_nil → Qe
open Go.IntKind renaming wrap → Qb, bits → Qf
open _root_.Nat renaming zero_le → Qc
open _root_.BitVec renaming ofInt → Qg
structure CLt(c:Jg):Prop where
 r:c.rP.length<1000000
 n:c.name.length<1000000
theorem Vop(c:Jg)(h:CLt c):Ok (Zad c) λr=>r.2.1.length<=160:=by
 rw[Vir c h.r h.n];exact Ok.some (Vql c)
theorem Vaba(b:Ua)(hb:b.length<1000000):Ok (Zfd b) λr=>CLt r.2.1:=by
 unfold Zfd;refine Ok.bm (Vz5 b hb) ?_;rintro⟨_,l,n,e,_⟩ ⟨n0,n1,hd⟩;dsimp only at n0 n1 hd |-;refine Ok.cond (λ_=>Ok.some ⟨by simp,by simp⟩) λhe=>?_;refine Ok.cond (λ_=>Ok.some ⟨by simp,by simp⟩) λh19=>?_;have hlen:l.length=19:=by
  have:decide ((l.length:Int)=19)=true:=by revert h19;cases decide ((l.length:Int)=19)<;>simp
  have:=Uo this;omega
 have g:∀i,i<19->∃x,l[i]? = some x/\x.data.length<1000000:=λi h=>⟨l[i],Qa (by omega),hd _ (List.getElem_mem (by omega))⟩;obtain⟨x2,f2,d2⟩:=g 2 (by omega);obtain⟨x4,f4,d4⟩:=g 4 (by omega);obtain⟨x6,f6,d6⟩:=g 6 (by omega);obtain⟨x8,f8,d8⟩:=g 8 (by omega);obtain⟨x10,f10,d10⟩:=g 10 (by omega);obtain⟨x12,f12,d12⟩:=g 12 (by omega);obtain⟨x14,f14,d14⟩:=g 14 (by omega);obtain⟨x16,f16,d16⟩:=g 16 (by omega);obtain⟨x18,f18,d18⟩:=g 18 (by omega);rw[f2,f4,f6,f8,f10,f12,f14,f16,f18,hlen];simp only[bindU,Vz8,show decide ((2:Int)<((19:Nat):Int))=true from rfl,show decide ((4:Int)<((19:Nat):Int))=true from rfl,show decide ((6:Int)<((19:Nat):Int))=true from rfl,show decide ((8:Int)<((19:Nat):Int))=true from rfl,show decide ((10:Int)<((19:Nat):Int))=true from rfl,show decide ((12:Int)<((19:Nat):Int))=true from rfl,show decide ((14:Int)<((19:Nat):Int))=true from rfl,show decide ((16:Int)<((19:Nat):Int))=true from rfl,show decide ((18:Int)<((19:Nat):Int))=true from rfl,Ui];refine Ok.bm (Vop _ ⟨by dsimp only;omega,by dsimp only;omega⟩) λq _=>?_;refine Ok.cond (λ_=>?_) λ_=>Ok.some ⟨by dsimp only;omega,by dsimp only;omega⟩;rw[Um n0,Um n1,show (true&&true)=true from rfl,Ui];exact Ok.some ⟨by dsimp only;omega,by dsimp only;omega⟩
theorem decC_ok(b:Ua)(hb:b.length<1000000):Ok (Zac b) λr=>CLt r.2.1:=by
 unfold Zac;refine Ok.bm (Vaba b hb) ?_;rintro⟨_,c,n,ok,_⟩ hc;exact Ok.cond (λ_=>Ok.some ⟨by simp,by simp⟩) λ_=>Ok.cond (λ_=>Ok.some ⟨by simp,by simp⟩) λ_=>Ok.some hc
theorem Vxv(d:Jd)(h:VOk d.jp)(k:Int):Ok (Zfl d k) λr=>CLt r.2.1:=by
 unfold Zfl;refine Ok.bm (Vju 256 (by omega) _ h.vl (by have:=h.ln;omega) _) ?_;rintro⟨_,l,_⟩ hl;refine Ok.bm (decC_ok l (by dsimp only at *;omega)) ?_;rintro⟨_,c,e,_⟩ hc;exact Ok.some hc
theorem Vne(l:Ua)(h:l.length<1000000):Ok (Zdc l) λ_=>True:=by
 unfold Zdc;rw[rHash _ _ (by omega),bindU];exact Ok.some trivial
theorem id_ok(a b:Ub)(c:Jg)(h:CLt c):Ok (Zhp a b c) λr=>r.2.1.length<=1040:=by
 unfold Zhp;refine Ok.bm (Vop c h) ?_;rintro⟨_,l,e,_⟩ hl;dsimp only at *;refine Ok.cond (λ_=>Ok.some (Qc _)) λ_=>Ok.cond (λ_=>?_) λ_=>?_
 ·refine Ok.bm (Vfu _ _ _ (by decide)) λq _=>?_;refine Ok.bm (Vin _ _ _) ?_;rintro⟨_,s,_⟩ hs;exact Ok.some (by dsimp only at *;omega)
 ·rw[Um (by simp;omega),Ui];unfold Zck;refine Ok.bind (Ok.bm (Vfu _ _ _ (by decide)) λq _=>Ok.some ?_);refine Ok.bm (Vne _ h.r) λq _=>?_;rw[rW1,bindU];refine Ok.bm (Vlc _ _ _ _) ?_;rintro⟨_,s,e,_⟩ ⟨hs,_⟩;exact Ok.some hs
theorem Veya(c:Jg)(h:CLt c):Ok (Zfj c) λr=>r.2.1.length<=1040:=by
 unfold Zfj;refine Ok.bm (id_ok _ _ c h) ?_;rintro⟨_,l,e,_⟩ hl;exact Ok.some hl
theorem addL0(l:Ua)(b:Int)(d z:Jd)(c:Jg)(e:Ua)(x:Jp)(h:VOk d.jp)(p n:Int):Ok (Zgj_L0 (l,b,(d,()),(c,()),(z,()),e,(x,()),p,n,7,())) λq=>∃p2:Int,q=(l,b,(d,()),(c,()),(z,()),e,(x,()),p2,n,()):=by
 unfold Zgj_L0 i10;refine Ok.iter (λs=>∃(p2 k:Int),-1<=k/\k<=7/\s=(l,b,(d,()),(c,()),(z,()),e,(x,()),p2,n,k,())) (λs=>(s.2.2.2.2.2.2.2.2.2.1+1).toNat) ⟨p,7,by omega,by omega,rfl⟩ (by rw[Vaa];dsimp only;omega) ?_;rintro s ⟨p2,k,hk,hk2,rfl⟩;dsimp only;unfold Zgj_L0b;refine Ok.cond (λhc=>Ok.cond (λ_=>?_) λ_=>Ok.some ⟨p2,rfl⟩) λ_=>Ok.some ⟨p2,rfl⟩;have hc:=Uo hc;refine Ok.bm (Vxv d h _) λq _=>?_;rw[wI (k-1) (by omega)];exact Ok.cond (λ_=>Ok.some ⟨⟨_,_,by omega,by omega,rfl⟩,by dsimp only;omega⟩) λ_=>Ok.some ⟨⟨_,_,by omega,by omega,rfl⟩,by dsimp only;omega⟩
theorem addL2(l:Ua)(b:Int)(d z:Jd)(c:Jg)(e:Ua)(x:Jp)(h:VOk d.jp)(p n:Int):Ok (Zgj_L2 (l,b,(d,()),(c,()),(z,()),e,(x,()),p,n,7,())) λq=>∃p2 n2:Int,q=(l,b,(d,()),(c,()),(z,()),e,(x,()),p2,n2,()):=by
 unfold Zgj_L2 i10;refine Ok.iter (λs=>∃(p2 n2 k:Int),-1<=k/\k<=7/\s=(l,b,(d,()),(c,()),(z,()),e,(x,()),p2,n2,k,())) (λs=>(s.2.2.2.2.2.2.2.2.2.1+1).toNat) ⟨p,n,7,by omega,by omega,rfl⟩ (by rw[Vaa];dsimp only;omega) ?_;rintro s ⟨p2,n2,k,hk,hk2,rfl⟩;dsimp only;unfold Zgj_L2b;refine Ok.cond (λhc=>Ok.cond (λ_=>?_) λ_=>Ok.some ⟨p2,n2,rfl⟩) λ_=>Ok.some ⟨p2,n2,rfl⟩;have hc:=Uo hc;refine Ok.bm (Vxv d h _) ?_;rintro⟨_,c2,ok,_⟩ hc2;rw[wI (k-1) (by omega)];dsimp only at *;refine Ok.cond (λ_=>Ok.cond (λ_=>Ok.cond (λ_=>?_) λ_=>?_) λ_=>?_) λ_=>?_
 ·refine Ok.bm (Veya c2 hc2) ?_;rintro⟨_,i,_⟩ hi;refine Ok.bm (Vm7 d h i (by dsimp only at *;omega)) λq _=>?_;exact Ok.some ⟨⟨_,_,_,by omega,by omega,rfl⟩,by dsimp only;omega⟩
 all_goals exact Ok.some ⟨⟨_,_,_,by omega,by omega,rfl⟩,by dsimp only;omega⟩
theorem addL4(b:Int)(d z:Jd)(c:Jg)(e:Ua)(x:Jp)(h:VOk d.jp)(p n:Int):Ok (Zgj_L4 (b,(d,()),(c,()),(z,()),e,(x,()),p,n,0,15,())) λq=>∃m:Int,q=(b,(d,()),(c,()),(z,()),e,(x,()),p,n,m,()):=by
 unfold Zgj_L4 i10;refine Ok.iter (λs=>∃(m k:Int),0<=k/\k<=15/\s=(b,(d,()),(c,()),(z,()),e,(x,()),p,n,m,k,())) (λs=>s.2.2.2.2.2.2.2.2.2.1.toNat) ⟨0,15,by omega,by omega,rfl⟩ (by rw[Vaa];dsimp only;omega) ?_;rintro s ⟨m,k,hk,hk2,rfl⟩;dsimp only;unfold Zgj_L4b;refine Ok.cond (λhc=>?_) λ_=>Ok.some ⟨m,rfl⟩;have hc:=Uo hc;refine Ok.bm (Vqe d h _) λq _=>?_;rw[wI (k-1) (by omega)];refine Ok.cond (λ_=>?_) λ_=>Ok.cond (λ_=>?_) λ_=>?_;all_goals exact Ok.some ⟨⟨_,_,by omega,by omega,rfl⟩,by dsimp only;omega⟩
def DChg(r:Unit×(Jd×Int×Int×Unit)):Prop:=DevOk r.2.1/\r.2.2.2.1≠16/\(r.2.2.2.1=0->r.2.2.1 = -1)
theorem Vit(d:Jd)(h:DevOk d)(l:List Jf)(hv:Vals 1000 l)(hl:l.length<=1000):Ok ((Zea d l (-1)).bind λr26=>(some ((),(r26.2.1,r26.2.2.1,r26.2.2.2.1,())):Option (Unit×(Jd×Int×Int×Unit)))) DChg:=by
 refine Ok.bm (Vqd d h.on h.v 1000 (by omega) l hv (by omega) (-1) (by omega) (by omega)) ?_;rintro⟨_,d2,c,e,_⟩ (⟨rfl,he⟩|⟨v,k1,rfl,k2,k3⟩)
 ·exact Ok.some ⟨h,he.2,λh0=>absurd h0 he.1⟩
 ·dsimp only at *;subst k2;subst k3;exact Ok.some ⟨⟨h.on,k1,h.n0,h.n1⟩,by dsimp only;decide,λ_=>rfl⟩
theorem Veza(c:Jg):valC c≠16:=by
 unfold valC;generalize rngC c=a;generalize (Lib.validD c.rP&&Lib.validD c.name)=b;generalize ((c.jo&&!c.jg)||(c.jag&&!c.jo))=e;cases a<;>cases b<;>cases e<;>decide
theorem Ve0a(c:Jg):(encP c).2≠16:=by
 unfold encP;cases decide (valC c=0)
 ·exact Veza c
 ·exact (by decide:(0:Int)≠16)
theorem Vgya(d:Jd)(h:DevOk d)(c:Jg)(hc:CLt c)(id:Ua)(hi:id.length<=1000000)(a b n:Int):Ok (Zgj d c id a b n (-1)) DChg:=by
  unfold Zgj;have bad:∀e:Int,NoE e->Ok (some ((),(d,(0:Int),e,())):Option (Unit×(Jd×Int×Int×Unit))) DChg:=λe he=>Ok.some ⟨h,he.2,λh0=>absurd h0 he.1⟩;rw[h.on,Bool.not_true,Uj,Vir c hc.r hc.n,bindU];have hel:=Vql c;refine Ok.cond (λh0=>bad _ ⟨?_,Ve0a c⟩) λ_=>?_
  · have:decide ((encP c).2=0)=false:=by revert h0;dsimp only;cases decide ((encP c).2=0) <;> simp
    exact Up this
  refine Ok.bm (Vb6a id hi) λq _=>?_;refine Ok.bm (Vgf _) λq2 _=>?_;refine Ok.cond (λ_=>bad _ ⟨by decide,by decide⟩) λ_=>?_;refine Ok.bm (addL0 _ _ d _ _ _ _ h.v _ _) ?_;rintro z ⟨p2,rfl⟩;refine Ok.bm (addL2 _ _ d _ _ _ _ h.v _ _) ?_;rintro z ⟨p3,n3,rfl⟩;dsimp only;refine Ok.bm (Vm7 d h.v id hi) λq3 _=>?_;refine Ok.cond (λ_=>bad _ ⟨by decide,by decide⟩) λ_=>?_;refine Ok.bm (addL4 _ d _ _ _ _ h.v _ _) ?_;rintro z ⟨m,rfl⟩;dsimp only;refine Ok.cond (λ_=>bad _ ⟨by decide,by decide⟩) λ_=>?_;have el:∀x:Jp,Ok (Zam x) λr=>r.2.1.length<=11:=Vi0;have vl:Vals 1000 ([]:List Jf):=λp hp=>by cases hp
  have tail:∀(zz:Jd) (x:Jp) (l:List Jf),Vals 1000 l->l.length<=1->Ok ((Zam x).bind λr15=>(let v16:List (Jf):=([(⟨(Qb .i64 ((16:Int)+m)),r15.2.1⟩:Jf)]:List (Jf))
 (bif small (l.length+(v16:List (Jf)).length) 32 then ((bif (!decide (n3=(0:Int))) then (bif (!decide (n3=m)) then (let v17:List (Jf):=([(⟨(Qb .i64 ((16:Int)+n3)),[]⟩:Jf)]:List (Jf))
 (bif small ((l++v16).length+(v17:List (Jf)).length) 32 then (some ((-1:Int),(d,()),(zz,()),((l++v16)++v17),()))
 else none))
 else (some ((-1:Int),(d,()),(zz,()),(l++v16),())))
 else (some ((-1:Int),(d,()),(zz,()),(l++v16),()))).bind (λ(j18:(Int×(Jd×Unit)×(Jd×Unit)×(List (Jf))×Unit))=>((Zea j18.2.1.1 j18.2.2.2.1 j18.1).bind λr19=>(some ((),(r19.2.1,r19.2.2.1,r19.2.2.2.1,())):Option (Unit×(Jd×Int×Int×Unit))))))
 else none))) DChg:=by
    intro zz x l hl hl1;refine Ok.bm (el x) ?_;rintro⟨_,eb,_⟩ heb;dsimp only at *;have hv:Vals 1000 (l++[⟨Qb .i64 (16+m),eb⟩]):=hl.app (Vals.one (by dsimp only;omega));have hln:(l++[(⟨Qb .i64 (16+m),eb⟩:Jf)]).length<=1000:=by simp;omega
    rw[Vab (by simp only[Qd,Qe];omega) (by omega),Ui];refine Ok.bind (Ok.cond (λ_=>Ok.cond (λ_=>?_) λ_=>Ok.some (Vit d h _ hv hln)) λ_=>Ok.some (Vit d h _ hv hln));rw[Vab (by simp only[List.length_append,Qd,Qe];omega) (by omega),Ui];exact Ok.some (Vit d h _ (hv.app (Vals.one (by simp))) (by simp;omega))
  have one:Vals 1000 [(⟨Qb .i64 (64+p3),(encP c).1⟩:Jf)]:=Vals.one (by dsimp only;omega);refine Ok.cond (λ_=>Ok.cond (λ_=>bad _ ⟨by decide,by decide⟩) λ_=>?_) λ_=>?_
  · refine Ok.bind (Ok.cond (λ_=>?_) λ_=>Ok.some (tail _ _ _ vl (by simp)))
    rw[Vab (by simp) (by omega),Ui];exact Ok.some (tail _ _ _ one (by simp))
  · refine Ok.bind (Ok.cond (λ_=>?_) λ_=>Ok.some (tail _ _ _ vl (by simp)))
    rw[Vab (by simp) (by omega),Ui];exact Ok.some (tail _ _ _ one (by simp))
theorem Vgza(c:Jg)(hc:CLt c):Ok (Zgh c) λ_=>True:=by
 unfold Zgh;rw[Vds c hc.r hc.n,bindU];exact Ok.cond (λ_=>Ok.some trivial) λ_=>Ok.bm (Vxn _ _) λ_ _=>Ok.some trivial
theorem Viu(a b c:Int):Zdf a b c=some ((),(decide (b<=a)&&decide (a<=c)),()):=by
 unfold Zdf;cases decide (b<=a)<;>rfl
theorem Vjy(a:Jr):Ok (Zag a) λr=>r.2.1=0->a.iD.length<=176:=by
  unfold Zag;dsimp only;have bad:∀e:Int,e≠0->Ok (some ((),(e,())):Option (Unit×(Int×Unit))) λr=>r.2.1=0->a.iD.length<=176:=λe he=>Ok.some λh=>absurd h he;have ek:∀(f:Int->Int),a.iD.length=176->Ok ((Zbz a.key).bind λr=>(some ((),(r.2.2.1,())):Option (Unit×(Int×Unit)))) λr=>r.2.1=0->a.iD.length<=176:=λf h=>Ok.bm (Vgm _) λq _=>Ok.some λ_=>by omega
  have not0:∀ {n:Int},(decide ((0:Int)<n))=false->n<=0:=λh=>by have:=Up h;omega
  have is176:(!decide ((a.iD.length:Int)=176))=false->a.iD.length=176:=λh=>by
    have:decide ((a.iD.length:Int)=176)=true:=by revert h;cases decide ((a.iD.length:Int)=176) <;> simp
    have:=Uo this;omega
  rw[Viu,Viu];refine Ok.cond (λ_=>bad _ (by decide)) λ_=>?_;rw[bindU];refine Ok.cond (λ_=>bad _ (by decide)) λ_=>?_;rw[bindU];refine Ok.cond (λ_=>bad _ (by decide)) λ_=>?_;have fin:Ok (bif (decide (Qb .i64 ((Qg (Qf .i64) a.jan&&&Qg (Qf .i64) (64:Int)).toNat:Int)=(0:Int))) then (bif (!decide (a.jaf=0#64)) then (some ((),((4:Int),())))
 else (bif (decide ((0:Int)<((a.iD).length:Int))) then (some ((),((4:Int),())))
 else (bif (!(decide (a.key.jd=(0:Int))&&(decide (a.key.jbb=0#64)&&true))) then (some ((),((4:Int),())))
 else (some ((),((0:Int),()))))))
 else (bif (!decide (((a.iD).length:Int)=(176:Int))) then (some ((),((4:Int),())))
 else ((Zbz a.key).bind λr7=>(some ((),(r7.2.2.1,())):Option (Unit×(Int×Unit)))))) λr=>r.2.1=0->a.iD.length<=176:=
    Ok.cond (λ_=>Ok.cond (λ_=>bad _ (by decide)) λ_=>Ok.cond (λ_=>bad _ (by decide)) λh=>Ok.cond (λ_=>bad _ (by decide)) λ_=>Ok.some λ_=>by have:=not0 h;omega) λ_=>Ok.cond (λ_=>bad _ (by decide)) λh=>ek id (is176 h)
  refine Ok.cond (λ_=>Ok.cond (λ_=>bad _ (by decide)) λ_=>fin) λ_=>fin
theorem Vrr(a:Jr)(h:a.iD.length<=2000):Ok (Zav a) λr=>r.2.1.length<=5000:=by
 unfold Zav;refine Ok.bm (Vjy a) λq _=>?_;refine Ok.cond (λ_=>Ok.some (Qc _)) λ_=>?_;rw[rW1,bindU];dsimp only;rw[Vab (by simp[w8]) (by omega),Ui];refine Ok.cond (λ_=>?_) λ_=>Ok.some (by simp[w8]);refine Ok.bm (Vgm _) ?_;rintro⟨_,k,e,_⟩ hk;rw[rW1,bindU];dsimp only at *;rw[Vab (by simp[w8]) (by omega),Ui,Vab (by simp[w8];omega) (by omega),Ui,Vab (by simp[w8];omega) (by omega),Ui];exact Ok.some (by simp[w8];omega)
theorem Vrs(l:Ua)(h:l.length<=100000)(x:Ub):Ok (Zci l x) λ_=>True:=by
 unfold Zci;rw[Vab (by omega) (by omega),Ui,rW1,bindU];dsimp only;rw[Vab (by simp[w8];omega) (by omega),Ui,rHash _ _ (by simp[w8];omega),bindU];exact Ok.some trivial
theorem Vrt(l:Ua):Ok (Zau l) λr=>r.2.1.iD.length<=176:=by
 unfold Zau;refine Ok.bm (Q:=λz=>(∃e q,z=Sum.inr ((),(⟨0#64,0,0,0,0#64,[],⟨0,0#64⟩⟩:Jr),e,q))\/(∃w,z=Sum.inl (l,w,())/\(l.length=11\/l.length=204))) ?_ ?_
 ·refine Ok.cond (λ_=>Ok.cond (λ_=>Ok.some (.inl ⟨_,_,rfl⟩)) λh=>Ok.some (.inr ⟨_,rfl,.inr ?_⟩)) λh=>Ok.some (.inr ⟨_,rfl,.inl ?_⟩)
  ·have:decide ((l.length:Int)=204)=true:=by revert h;cases decide ((l.length:Int)=204)<;>simp
   have:=Uo this;omega
  ·have:decide ((l.length:Int)=11)=true:=by revert h;cases decide ((l.length:Int)=11)<;>simp
   have:=Uo this;omega
 rintro z (⟨e,q,rfl⟩|⟨w,rfl,hl⟩)
 ·exact Ok.some (Qc _)
 simp only[Sum.elim_inl];rw[Um (by omega:(8:Int)<=(l.length:Int)),Ui];refine Ok.bm (Vc4 _) λq _=>?_;have g8:getI l 8=some (l[8]'(by omega)):=gIn (i:=8) (Qa (by omega));have g9:getI l 9=some (l[9]'(by omega)):=gIn (i:=9) (Qa (by omega));have g10:getI l 10=some (l[10]'(by omega)):=gIn (i:=10) (Qa (by omega));rw[g8,bindU,g9,bindU,g10,bindU];refine Ok.bm (Q:=λz=>(∃e q,z=Sum.inr ((),(⟨0#64,0,0,0,0#64,[],⟨0,0#64⟩⟩:Jr),e,q))\/(∃w x,z=Sum.inl (l,w,x,()))) ?_ ?_
 ·refine Ok.cond (λh=>?_) λ_=>Ok.some (.inr ⟨_,_,rfl⟩);have h:=Uo h;have hl:l.length=204:=by omega
  rw[Um (by omega:(195:Int)<=(l.length:Int)),Ui];refine Ok.bm (Vna _) λq _=>?_;refine Ok.cond (λ_=>Ok.some (.inl ⟨_,_,rfl⟩)) λ_=>?_;rw[Um (by omega:(19:Int)<=(l.length:Int)),Ui];refine Ok.bm (Vc4 _) λq _=>?_;rw[Ui,Vab (by rw[List.length_drop,List.length_take];omega) (by omega),Ui];exact Ok.some (.inr ⟨_,_,rfl⟩)
 rintro z (⟨e,q,rfl⟩|⟨w,x,rfl⟩)
 ·exact Ok.some (Qc _)
 simp only[Sum.elim_inl];refine Ok.bm (Vjy _) λq hq=>?_;refine Ok.cond (λ_=>Ok.some (Qc _)) λhe=>Ok.cond (λ_=>Ok.some (Qc _)) λ_=>Ok.some (hq ?_);have:decide (q.2.1=0)=true:=by revert he;cases decide (q.2.1=0)<;>simp
 exact Uo this
end Go.Proofs.YtnfhkhlbdgbkjaaGreatDoor

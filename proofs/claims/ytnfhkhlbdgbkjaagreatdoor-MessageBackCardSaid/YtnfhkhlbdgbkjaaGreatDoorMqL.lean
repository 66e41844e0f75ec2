/- The device's vault: what is total (begun). -/
import Derived.Test.YtnfhkhlbdgbkjaaGreatDoorMqK
set_option linter.unusedVariables false
set_option linter.unusedSimpArgs false
set_option maxRecDepth 100000
namespace Go.Proofs.YtnfhkhlbdgbkjaaGreatDoor
open Go Go.Abs
open _root_.List renaming getElem?_eq_getElem → Qa, length_cons → Qb, length_nil → Qc, length_append → Qe, getElem_mem → Qh, length_drop → Qi, mem_singleton → Qj, take → Qk, drop → Ql, length_take → Qo
open Go.IntKind renaming bits → Qd, wrap → Qg
open _root_.BitVec renaming ofInt → Qf, ofInt_natCast → Qm, toNat_ofNat → Qn
open _root_.Bool renaming eq_iff_iff → Qp, not_false → Qq, not_true → Qr
theorem Vm4(a b:Jk):Zca a b=some ((),decide (a=b),()):=by
 have e:decide (a=b)=(decide (a.ja=b.ja)&&decide (a.bytes=b.bytes)):=by
  rw[Qp];cases a;cases b;simp
 unfold Zca;rw[e];cases decide (a.ja=b.ja)<;>rfl
theorem Vex(a b:Jh):Zbc a b=some ((),decide (a=b),()):=by
 have e:decide (a=b)=(decide (a.jf=b.jf)&&(decide (a.jal=b.jal)&&(decide (a.jr=b.jr)&&(decide (a.tail=b.tail)&&(a.jat==b.jat))))):=by
  rw[Qp];cases a;cases b;simp
 unfold Zbc;rw[Vm4,bindU,e];dsimp only;cases decide (a.jf=b.jf)
 ·rfl
 cases decide (a.jal=b.jal)
 ·rfl
 cases decide (a.jr=b.jr)
 ·rfl
 cases decide (a.tail=b.tail)<;>rfl
theorem Vdc(j:Jh)(h:FOk j.jf):Ok (Zdl j) λr=>r.2.1=true->JOk j:=by
 unfold Zdl;refine Ok.bm (Vzw j.jf h) ?_;rintro⟨_,k,e,_⟩ hk;dsimp only at *;refine Ok.cond (λhc=>?_) (λ_=>Ok.some λh=>by cases h);have hc:=Uo hc;rw[Vex,bindU];refine Ok.some λhs=>?_;have hs:j=k:=Uo hs;rcases hk with⟨_,hk,_⟩|⟨h1,_⟩
 ·rw[hs];exact hk
 ·omega
theorem Vri(j:Jh)(h:FOk j.jf):Ok (Zdn j) λr=>Recs r.2.1/\r.2.1.length<=800:=by
 have a2:=h.hi;unfold Zdn;refine Ok.bm (Vdc j h) ?_;rintro⟨_,g,_⟩ hg;dsimp only at *;refine Ok.cond (λ_=>Ok.some ⟨(λx hx=>by cases hx),by simp⟩) λhc=>?_;have hj:=hg (by revert hc;cases g<;>simp);refine Ok.bm (Vw3 j.jf h j.jal j.jr hj.p0 hj.p1) ?_;rintro⟨_,l,t,_⟩ ⟨h1,h2,h3,h4⟩;dsimp only at *;exact Ok.some ⟨h1,by dsimp only;omega⟩
theorem word2(x y:UInt8):0<=Qg .i64 ((Qf (Qd .i64) (Qg .i64 ((x.toBitVec.toNat:Int)*2^(min 8 (Qd .i64))))|||Qf (Qd .i64) (y.toBitVec.toNat:Int)).toNat:Int)/\Qg .i64 ((Qf (Qd .i64) (Qg .i64 ((x.toBitVec.toNat:Int)*2^(min 8 (Qd .i64))))|||Qf (Qd .i64) (y.toBitVec.toNat:Int)).toNat:Int)<=65535:=by
 have hx:x.toBitVec.toNat<256:=x.toBitVec.isLt;have hy:y.toBitVec.toNat<256:=y.toBitVec.isLt;generalize x.toBitVec.toNat=a at hx;generalize y.toBitVec.toNat=c at hy;have e:(2:Int)^(min 8 (Qd .i64))=256:=rfl;rw[e,wI ((a:Int)*256) (by omega)];have h1:(Qf (Qd .i64) ((a:Int)*256)).toNat=a*256:=by
  show (Qf 64 ((a:Int)*256)).toNat=_;rw[show (a:Int)*256=((a*256:Nat):Int) by omega,Qm,Qn];omega
 have h2:(Qf (Qd .i64) (c:Int)).toNat=c:=by
  show (Qf 64 (c:Int)).toNat=_;rw[Qm,Qn];omega
 rw[BitVec.toNat_or,h1,h2];have h3:a*256|||c<2^16:=Nat.or_lt_two_pow (by omega) (by omega);rw[Va1 (by omega) (by omega)];omega
theorem Vzy(l:Ua)(hl:l.length<=100000):Ok (Zfu l) λr=>r.2.1.length*3<=l.length/\∀p∈r.2.1,p.value.length<=l.length:=by
 unfold Zfu Zfu_L0 i2;refine Ok.bm (Ok.iter (Q:=λz=>(∃b,z=Sum.inl ([],b,()))\/∃q:List Jf,z=Sum.inr (q,())/\q.length*3<=l.length/\∀p∈q,p.value.length<=l.length) (λs=>∃(r:Ua) (q:List Jf),q.length*3+r.length<=l.length/\(∀p∈q,p.value.length<=l.length)/\s=(r,q,())) (λs=>s.1.length) ⟨l,[],by simp,(λp hp=>by cases hp),rfl⟩ (by rw[Vaa];dsimp only;omega) ?_) ?_
 ·rintro s ⟨r,q,hq,hv,rfl⟩;dsimp only;unfold Zfu_L0b;refine Ok.cond (λhc=>?_) (λ_=>Ok.some (.inr ⟨q,rfl,by omega,hv⟩));refine Ok.cond (λ_=>Ok.some (.inl ⟨false,rfl⟩)) (λhd=>?_);have hd:=Up hd;have g0:getI r 0=some (r[0]'(by omega)):=gIn (i:=0) (Qa (by omega));have g1:getI r 1=some (r[1]'(by omega)):=gIn (i:=1) (Qa (by omega));have g2:getI r 2=some (r[2]'(by omega)):=gIn (i:=2) (Qa (by omega));simp only[g0,g1,g2,bindU];have hw:=word2 r[1] r[2];generalize Qg .i64 ((Qf (Qd .i64) (Qg .i64 ((r[1].toBitVec.toNat:Int)*2^(min 8 (Qd .i64))))|||Qf (Qd .i64) (r[2].toBitVec.toNat:Int)).toNat:Int)=n at hw |-;rw[wI ((r.length:Int)-3) (by omega),wI ((3:Int)+n) (by omega)];refine Ok.cond (λ_=>Ok.some (.inl ⟨false,rfl⟩)) (λhn=>?_);have hn:=Up hn;rw[Um (by omega:0<=(3:Int)+n),Um (by omega:(3:Int)+n<=(r.length:Int)),Um (by omega:(3:Int)<=(((3:Int)+n).toNat:Int)),show (true&&true)=true from rfl];simp only[Ui];have hlen:(Ql 3 (Qk ((3:Int)+n).toNat r)).length=n.toNat:=by
   rw[Qi,Qo];omega
  generalize Ql 3 (Qk ((3:Int)+n).toNat r)=v at hlen;rw[Vab (by omega) (by omega),Ui,Vab (by simp;omega) (by omega),Ui];refine Ok.some ⟨⟨_,_,?_,?_,rfl⟩,?_⟩
  ·rw[Qe,Qi];simp only[Qb,Qc];omega
  ·intro p hp;rcases List.mem_append.1 hp with hp|hp
   ·exact hv p hp
   ·rw[Qj]at hp;subst hp;show v.length<=l.length;omega
  ·dsimp only;rw[Qi];omega
 ·rintro z (⟨b,rfl⟩|⟨q,rfl,h1,h2⟩)
  ·exact Ok.some ⟨by simp,λp hp=>by cases hp⟩
  ·exact Ok.some ⟨h1,h2⟩
def Vals(n:Nat)(l:List Jf):Prop:=∀p∈l,p.value.length<=n
theorem Vals.app{n:Nat}{l m:List Jf}(h:Vals n l)(h2:Vals n m):Vals n (l++m):=λp hp=>(List.mem_append.1 hp).elim (h p) (h2 p)
theorem Vals.one{n:Nat}{p:Jf}(h:p.value.length<=n):Vals n [p]:=λq hq=>by rw[Qj]at hq;subst hq;exact h
theorem Vgsa(n:Nat)(y0 y1:List Jf)(k:Nat)(hk:k<y1.length)(h0:Vals n y0)(h1:Vals n y1)(hl:y0.length<=200000)(b:Bool):Ok (Zhb_L2 (y0,y1,(k:Int),[],b,(0:Int),())) λz=>∃(q:List Jf) (c:Bool),z=(y1,(k:Int),q,c,())/\Vals n q/\q.length<=y0.length+(bif c then 1 else 0):=by
 unfold Zhb_L2 i6;refine Ok.iter (λs=>∃(q:List Jf) (c:Bool) (j:Nat),j<=y0.length/\Vals n q/\q.length<=j+(bif c then 1 else 0)/\s=(y0,y1,(k:Int),q,c,(j:Int),())) (λs=>((y0.length:Int)-s.2.2.2.2.2.1).toNat) ⟨[],b,0,by omega,(λp hp=>by cases hp),by simp,rfl⟩ (by rw[Vaa];dsimp only;omega) ?_;rintro s ⟨q,c,j,hj,hv,hq,rfl⟩;dsimp only;unfold Zhb_L2b;refine Ok.cond (λhc=>?_) (λhc=>Ok.some ⟨q,c,rfl,hv,by have:=Up hc;omega⟩);have hc:=Uo hc;have hjl:j<y0.length:=by omega
 have gj:getI y0 (j:Int)=some y0[j]:=gIn (Qa hjl);have gk:getI y1 (k:Int)=some y1[k]:=gIn (Qa hk);have fin:∀(q:List Jf) (c:Bool),Vals n q->q.length<=j+(bif c then 1 else 0)->Ok ((some (y0,y1,(k:Int),q,c,(j:Int),()):Option (List Jf×List Jf×Int×List Jf×Bool×Int×Unit)).bind (λ(j5:((List (Jf))×(List (Jf))×Int×(List (Jf))×Bool×Int×Unit))=>((getI j5.1 j5.2.2.2.2.2.1).bind λx6=>((getI j5.2.1 j5.2.2.1).bind λx7=>(bif (!decide (x6.key=x7.key)) then ((getI j5.1 j5.2.2.2.2.2.1).bind λx8=>(bif small ((j5.2.2.2.1).length+(([x8]:List (Jf)):List (Jf)).length) 32 then (some (Sum.inl (j5.1,j5.2.1,j5.2.2.1,(j5.2.2.2.1++([x8]:List (Jf))),j5.2.2.2.2.1,(Qg .i64 (j5.2.2.2.2.2.1+(1:Int))),())):Option (Y_Zhb_L2⊕Z_Zhb_L2)) else none)) else (some (Sum.inl (j5.1,j5.2.1,j5.2.2.1,j5.2.2.2.1,j5.2.2.2.2.1,(Qg .i64 (j5.2.2.2.2.2.1+(1:Int))),())))))))) (λr=>match r with|.inl t=>(∃(q:List Jf) (c:Bool) (j:Nat),j<=y0.length/\Vals n q/\q.length<=j+(bif c then 1 else 0)/\t=(y0,y1,(k:Int),q,c,(j:Int),()))/\((y0.length:Int)-t.2.2.2.2.2.1).toNat<((y0.length:Int)-(j:Int)).toNat|.inr z=>∃(q:List Jf) (c:Bool),z=(y1,(k:Int),q,c,())/\Vals n q/\q.length<=y0.length+(bif c then 1 else 0)):=by
  intro q c hv hq;rw[bindU];dsimp only;have hb:(bif c then 1 else 0)<=1:=by cases c<;>decide
  rw[gj,bindU,gk,bindU,bindU,wI ((j:Int)+1) (by omega)];rw[Vab (by simp;omega) (by omega),Ui];refine Ok.cond (λ_=>Ok.some ⟨⟨q++[y0[j]],c,j+1,hjl,hv.app (Vals.one (h0 _ (Qh hjl))),by rw[Qe];simp only[Qb,Qc];omega,rfl⟩,by dsimp only;omega⟩) (λ_=>Ok.some ⟨⟨q,c,j+1,hjl,hv,by omega,rfl⟩,by dsimp only;omega⟩)
 cases c
 ·rw[Qq,Ui,gj,bindU,gk,bindU];cases hd:decide (y1[k].key<=y0[j].key)
  ·rw[Uj];exact Ok.mono (fin q false hv hq) (by rintro (t|z) h<;>exact h)
  ·rw[Ui,bindU,Vab (by simp only[Qb,Qc];simp only[Uj]at hq;omega) (by omega),Ui];exact Ok.mono (fin (q++[y1[k]]) true (hv.app (Vals.one (h1 _ (Qh hk)))) (by rw[Qe];simp only[Qb,Qc,Ui];simp only[Uj]at hq;omega)) (by rintro (t|z) h<;>exact h)
 ·rw[Qr,Uj];exact Ok.mono (fin q true hv hq) (by rintro (t|z) h<;>exact h)
theorem Vw4(n:Nat)(a b:List Jf)(ha:Vals n a)(hb:Vals n b)(hl:a.length+b.length<=200000):Ok (Zhb a b) λr=>Vals n r.2.1/\r.2.1.length<=a.length+b.length:=by
 unfold Zhb Zhb_L0 i3;refine Ok.bm (Ok.iter (Q:=λz=>Vals n z.1/\z.1.length<=a.length+b.length) (λs=>∃(q:List Jf) (k:Nat),k<=b.length/\Vals n q/\q.length<=a.length+k/\s=(q,b,(k:Int),())) (λs=>((b.length:Int)-s.2.2.1).toNat) ⟨a,0,by omega,ha,by omega,rfl⟩ (by rw[Vaa];dsimp only;omega) ?_) ?_
 ·rintro s ⟨q,k,hk,hv,hq,rfl⟩;dsimp only;unfold Zhb_L0b;refine Ok.cond (λhc=>?_) (λ_=>Ok.some ⟨hv,by dsimp only;omega⟩);have hc:=Uo hc;have hkl:k<b.length:=by omega
  have gk:getI b (k:Int)=some b[k]:=gIn (Qa hkl);rw[gk,bindU];refine Ok.bm (Vgsa n q b k hkl hv hb (by omega) _) ?_;rintro z ⟨q2,c,rfl,hv2,hq2⟩;dsimp only;rw[gk,wI ((k:Int)+1) (by omega)];cases c
  ·simp only[Uj]at hq2;rw[Qq,Ui,bindU,Vab (by simp only[Qb,Qc];omega) (by omega),Ui];refine Ok.some ⟨⟨q2++[b[k]],k+1,hkl,hv2.app (Vals.one (hb _ (Qh hkl))),by rw[Qe];simp only[Qb,Qc];omega,rfl⟩,?_⟩;dsimp only;omega
  ·simp only[Ui]at hq2;rw[Qr,Uj];refine Ok.some ⟨⟨q2,k+1,hkl,hv2,by omega,rfl⟩,?_⟩;dsimp only;omega
 ·rintro⟨q,_⟩ h;exact Ok.some h
theorem Vik(j:Jh)(h:FOk j.jf):Ok (Zer j) λr=>Vals 256 r.2.1/\r.2.1.length<=69000:=by
 unfold Zer;refine Ok.bm (Vri j h) ?_;rintro⟨_,l,_⟩ ⟨hr,hl⟩;dsimp only at *;unfold Zer_L0 i3;refine Ok.bm (Ok.iter (Q:=λz=>Vals 256 z.1/\z.1.length<=69000) (λs=>∃(q:List Jf) (k:Nat),k<=l.length/\Vals 256 q/\q.length<=86*k/\s=(q,l,(k:Int),())) (λs=>((l.length:Int)-s.2.2.1).toNat) ⟨[],0,by omega,(λp hp=>by cases hp),by simp,rfl⟩ (by rw[Vaa];dsimp only;omega) ?_) ?_
 ·rintro s ⟨q,k,hk,hv,hq,rfl⟩;dsimp only;unfold Zer_L0b;refine Ok.cond (λhc=>?_) (λ_=>Ok.some ⟨hv,by dsimp only;omega⟩);have hc:=Uo hc;have hkl:k<l.length:=by omega
  rw[Um (by omega:0<=(k:Int)),Um hc,show (true&&true)=true from rfl,Ui,Int.toNat_natCast,Qa hkl,bindU];have hx:=hr _ (Qh hkl);refine Ok.bm (Vzy l[k] (by omega)) ?_;rintro⟨_,ps,c,_⟩ ⟨h1,h2⟩;dsimp only at *;rw[wI ((k:Int)+1) (by omega)];refine Ok.cond (λ_=>?_) (λ_=>Ok.some ⟨⟨q,k+1,hkl,hv,by omega,rfl⟩,by dsimp only;omega⟩);refine Ok.bm (Vw4 256 q ps hv (λp hp=>Nat.le_trans (h2 p hp) hx.2) (by omega)) ?_;rintro⟨_,w,_⟩ ⟨w1,w2⟩;dsimp only at *;exact Ok.some ⟨⟨w,k+1,hkl,w1,by omega,rfl⟩,by dsimp only;omega⟩
 ·rintro⟨q,_⟩ hq;exact Ok.some hq
theorem Vm5(n:Nat)(hn:n<=1000)(l:List Jf)(h:Vals n l)(hl:l.length<=500):Ok (Zev l) λr=>r.2.1.length<=(n+3)*l.length:=by
 unfold Zev Zev_L0 i3;refine Ok.bm (Ok.iter (Q:=λz=>z.1.length<=(n+3)*l.length) (λs=>∃(q:Ua) (k:Nat),k<=l.length/\q.length<=(n+3)*k/\s=(l,q,(k:Int),())) (λs=>((l.length:Int)-s.2.2.1).toNat) ⟨[],0,by omega,by simp,rfl⟩ (by rw[Vaa];dsimp only;omega) ?_) ?_
 ·rintro s ⟨q,k,hk,hq,rfl⟩;dsimp only;unfold Zev_L0b;refine Ok.cond (λhc=>?_) (λhc=>Ok.some (by
   have:=Up hc;dsimp only;rw[show l.length=k by omega];exact hq))
  have hc:=Uo hc;have hkl:k<l.length:=by omega
  have gk:getI l (k:Int)=some l[k]:=gIn (Qa hkl);have hv:=h _ (Qh hkl);have hb:(n+3)*k<=1003*500:=Nat.mul_le_mul (by omega) (by omega);have hs:(n+3)*(k+1)=(n+3)*k+(n+3):=Nat.mul_succ _ _;simp only[gk,bindU];rw[Vab (by simp only[Qb,Qc];omega) (by omega),Ui,Vab (by rw[Qe];simp only[Qb,Qc];omega) (by omega),Ui,wI ((k:Int)+1) (by omega)];refine Ok.some ⟨⟨_,k+1,hkl,?_,rfl⟩,by dsimp only;omega⟩;rw[Qe,Qe,hs];simp only[Qb,Qc];omega
 ·rintro⟨q,_⟩ hq;exact Ok.some hq
theorem Voi(n:Nat)(hn:n<=1000)(l:List Jf)(h:Vals n l)(hl:l.length<=200000):Ok (Zco l) λr=>r.2.1.length<=l.length/\∀x∈r.2.1,x.length<=n+3:=by
 unfold Zco Zco_L0 i3;refine Ok.bm (Ok.iter (Q:=λz=>z.1.length<=l.length/\∀x∈z.1,x.length<=n+3) (λs=>∃(q:List Ua) (k:Nat),k<=l.length/\q.length<=k/\(∀x∈q,x.length<=n+3)/\s=(l,q,(k:Int),())) (λs=>((l.length:Int)-s.2.2.1).toNat) ⟨[],0,by omega,by simp,(λx hx=>by cases hx),rfl⟩ (by rw[Vaa];dsimp only;omega) ?_) ?_
 ·rintro s ⟨q,k,hk,hq,hv,rfl⟩;dsimp only;unfold Zco_L0b;refine Ok.cond (λhc=>?_) (λhc=>Ok.some ⟨by dsimp only;omega,hv⟩);have hc:=Uo hc;rw[wI ((k:Int)+1) (by omega),Um (by omega:0<=(k:Int)+1),Um (by omega:(k:Int)+1<=(l.length:Int)),Um (by omega:0<=(k:Int)),Um (by omega:(k:Int)<=(((k:Int)+1).toNat:Int)),show (true&&true)=true from rfl];simp only[Ui];have hlen:(Ql (k:Int).toNat (Qk ((k:Int)+1).toNat l)).length=1:=by
   rw[Qi,Qo];omega
  have hvv:Vals n (Ql (k:Int).toNat (Qk ((k:Int)+1).toNat l)):=λp hp=>h p (List.mem_of_mem_take (List.mem_of_mem_drop hp));refine Ok.bm (Vm5 n hn _ hvv (by omega)) ?_;rintro⟨_,w,_⟩ hw;dsimp only at *;rw[hlen,Nat.mul_one]at hw;rw[Vab (by simp only[Qb,Qc];omega) (by omega),Ui];refine Ok.some ⟨⟨_,k+1,by omega,by rw[Qe];simp only[Qb,Qc];omega,?_,rfl⟩,by dsimp only;omega⟩;intro x hx;rcases List.mem_append.1 hx with hx|hx
  ·exact hv x hx
  ·rw[Qj]at hx;subst hx;exact hw
 ·rintro⟨q,_⟩ hq;exact Ok.some hq
end Go.Proofs.YtnfhkhlbdgbkjaaGreatDoor

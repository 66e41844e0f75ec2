/- The graft of other seats' texts. -/
import Derived.Test.YtnfhkhlbdgbkjaaGreatDoorFns
import Derived.Test.YtnfhkhlbdgbkjaaGreatDoorMbC

set_option linter.unusedVariables false
set_option linter.unusedSimpArgs false
set_option maxRecDepth 100000
namespace Go.Proofs.YtnfhkhlbdgbkjaaGreatDoor
open Go Go.Abs
open _root_.BitVec renaming ofInt → Qa, getLsbD_and → Qj, getLsbD_shiftLeft → Qp, eq_of_getLsbD_eq → Qq, getLsbD_one → Qt, getLsbD_not → Qu
open _root_.List renaming getD_eq_getElem?_getD → Qb, range → Qc, replicate → Qf, getElem?_eq_getElem → Qg, length_range → Qk, all_eq_true → Qm, mem_range → Qo, getElem?_eq_none → Qr, flatten_cons → Qw, length_cons → Qy, length_map → Q1
open _root_.Bool renaming not_true → Qd, and_eq_true → Qh, eq_iff_iff → Qi, not_eq_true' → Qx, and_self → Q2, or_comm → Q3
open _root_.Sum renaming inl → Qe, elim_inr → Ql, inr → Qn
open _root_.Nat renaming eq_of_beq_eq_true → Qs
open _root_.Option renaming bind_some → Qv
open _root_.Int renaming toNat_natCast → Qz
open _root_.UInt8 renaming ofBitVec → Q0
theorem bindU{α β:Type}(x:α)(f:α->Option β):(some x).bind f=f x:=by cases h:f x<;>exact h
def in64(n:Int):Prop:=-9223372036854775808<=n/\n<9223372036854775808
structure SaneQ(r:Jb):Prop where
 rp:r.rP.length<1000000
 us:r.user.length<1000000
 nm:r.name.length<1000000
 li:r.list.length<900
 bx:r.box.length<1000000
 pf:r.proof.length<1000000
 ii:r.iD.length<1000000
 i1:in64 r.jc
 i2:in64 r.jd
 i3:in64 r.jk
 i4:in64 r.jb
 i5:in64 r.count
 i6:in64 r.kind
def useQ(r:Jb):List Bool:=[(!decide (r.rP=([]:Ua))),(!decide (r.user=([]:Ua))),(!decide (r.name=([]:Ua))),(!decide (r.jx=0#64)),(!decide (r.jc=(0:Int))),(!decide (r.jd=(0:Int))),(decide ((0:Int)<((r.list).length:Int))),r.je,r.jq,r.jt,r.jm,(!decide (r.jk=(0:Int))),(r.jj||!decide (r.auth=0#64)),(!decide (r.jv=0#64)),(decide ((0:Int)<((r.box).length:Int))),(decide ((0:Int)<((r.proof).length:Int))),(!decide (r.jb=(0:Int))),(decide ((0:Int)<((r.iD).length:Int))),(!decide (r.count=(0:Int)))]
theorem Vc2a(r:Jb):∃t:BitVec 32,Zin r=some ((),t,())/\∀k,t.getLsbD k=(decide (1<=k)&&(useQ r).getD (k-1) false):=by
 obtain⟨t,h1,h2⟩:=Veua (useQ r) (by simp[useQ]);refine⟨t,?_,h2⟩;unfold Zin
 unfold useQ at h1;cases ha:r.jj
 ·rw[ha,Bool.false_or]at h1;rw[Uj];dsimp only;rw[h1];rfl
 ·rw[ha,Bool.true_or]at h1;rw[Ui];dsimp only;rw[h1];rfl
def maskT:List (BitVec 32):=[0#32,0#32,15870#32,9874#32,0#32,0#32,0#32,49152#32,114688#32,212994#32,0#32,8192#32,270336#32,811008#32,57344#32]
def mkQ(k:Int):BitVec 32:=maskT.getD k.toNat 0#32
def fitQ(m:BitVec 32)(u:List Bool):Bool:=(Qc 19).all λi=>!(u.getD i false)||m.getLsbD (i+1)
theorem Vhpa{u:List Bool}{t m:BitVec 32}(hl:u.length=19)(h:∀k,t.getLsbD k=(decide (1<=k)&&u.getD (k-1) false)):decide ((t &&& ~~~m)=0#32)=fitQ m u:=by
 rw[Qi];simp only[Uq,fitQ,Qm,Qo];constructor
 ·intro e i hi;have hb:(t &&& ~~~m).getLsbD (i+1)=false:=by rw[e];simp
  rw[Qj,Qu,h (i+1)]at hb;rw[dT (1<=i+1) (by omega),Nat.add_sub_cancel,dT (i+1<32) (by omega)]at hb;revert hb;cases u.getD i false<;>cases m.getLsbD (i+1)<;>decide
 ·intro e;apply Qq;intro k hk;rw[Qj,Qu,h k];by_cases h1:1<=k
  ·by_cases h2:k-1<19
   ·have:=e (k-1) h2;rw[show k-1+1=k by omega]at this;revert this;rw[Um h1,Um hk];cases u.getD (k-1) false<;>cases m.getLsbD k<;>simp
   ·have:u.getD (k-1) false=false:=by rw[Qb,Qr (by omega)];rfl
    rw[this];simp
  ·rw[Un h1];simp
def numQ(r:Jb):Bool:=smallI r.jc&&(smallI r.jd&&(smallI r.jk&&(smallI r.jb&&smallI r.count)))
def bigQ(r:Jb):Bool:=decide ((64:Int)<(r.rP.length:Int))||(decide ((16:Int)<(r.user.length:Int))||(decide ((32:Int)<(r.name.length:Int))||(decide ((8:Int)<(r.list.length:Int))||(decide ((1024:Int)<(r.box.length:Int))||decide ((1024:Int)<(r.proof.length:Int))))))
def idl(x:Ua):Bool:=decide ((x.length:Int)=176)
def idsQ(r:Jb):Int:=bif !r.list.all idl then 4 else bif (mkQ r.kind).getLsbD 18&&!decide ((r.iD.length:Int)=176) then 4 else 0
def valQ(r:Jb):Int:=bif !(decide (1<=r.kind)&&decide (r.kind<=14)) then 3 else bif !fitQ (mkQ r.kind) (useQ r) then 4 else bif !decide (r.auth=0#64)&&!r.jj then 4 else bif !numQ r then 9 else bif bigQ r then 8 else bif !(Lib.validD r.rP&&Lib.validD r.name) then 6 else idsQ r
theorem valL1(r:Jb)(m:BitVec 32)(h:SaneQ r):Zge_L1 ((r,()),m,r.list,(r.list.length:Int),(0:Int),())=some (bif r.list.all idl then Qn ((r,()),m,()) else Qe (4,())):=by
 unfold Zge_L1 Yi5;rw[show ((0:Int))=((0:Nat):Int) from rfl,Vln r.list idl (λi=>((r,()),m,r.list,(r.list.length:Int),(i:Int),())) (Qe (4,())) (Qn ((r,()),m,())) (by have:=h.li;omega)]
 ·intro i x hx;have h1:=Va9 hx;have h2:=h.li;simp only[Zge_L1b,Vil hx,gIn hx,Qv,Ui,Vbk (i:=i) (by omega),idl];cases decide ((x.length:Int)=176)<;>rfl
 ·simp[Zge_L1b]
theorem bit18(m:BitVec 32):decide ((m&&&262144#32)=0#32) = !m.getLsbD 18:=by
 have e:m&&&262144#32=bif m.getLsbD 18 then 262144#32 else 0#32:=by
  apply Qq;intro k hk;rw[Qj,show (262144#32:BitVec 32)=1#32<<<18 from rfl,Qp,Qt];by_cases h:k=18
  ·subst h;cases m.getLsbD 18<;>decide
  ·cases m.getLsbD 18
   ·by_cases h2:k<18
    ·simp[h2]
    ·simp[h2,show k-18≠0 by omega,show ¬ (0=k-18) by omega]
   ·simp only[Ui];rw[Qp,Qt];by_cases h2:k<18
    ·simp[h2]
    ·simp[h2,show k-18≠0 by omega,show ¬ (0=k-18) by omega]
 rw[e];cases m.getLsbD 18<;>decide
theorem tailQ(r:Jb)(h:SaneQ r):(Zge_L1 ((r,()),mkQ r.kind,r.list,(r.list.length:Int),(0:Int),())).bind (Sum.elim (λ(z47:(Int×Unit))=>(some ((),(z47.1,())))) (λ(z48:((Jb×Unit)×(BitVec 32)×Unit))=>(bif (!decide ((z48.2.1&&&262144#32)=0#32)) then (bif (!decide (((z48.1.1.iD).length:Int)=(176:Int))) then (some ((),((4:Int),()))) else (some ((),((0:Int),())))) else (some ((),((0:Int),()))))))=some ((),(idsQ r,())):=by
 rw[valL1 r _ h,bindU];unfold idsQ;cases r.list.all idl
 ·rfl
 ·rw[Ui,Ql];dsimp only;rw[bit18,Bool.not_not];cases (mkQ r.kind).getLsbD 18<;>cases decide ((r.iD.length:Int)=176)<;>rfl
theorem Ve9a(r:Jb):Zgf [r.jc,r.jd,r.jk,r.jb,r.count]=some ((),numQ r,()):=by
 rw[Vow _ (by simp)];simp[numQ]
theorem Vnj(r:Jb)(h:SaneQ r):Zge r=some ((),valQ r,()):=by
 obtain⟨t,u1,u2⟩:=Vc2a r;have hf:=Vhpa (m:=mkQ r.kind) rfl u2;have tl:=tailQ r h;unfold Zge valQ;by_cases k1:r.kind<1
 ·rw[Um k1,Un (by omega:¬ 1<=r.kind)];rfl
 by_cases k2:14<r.kind
 ·rw[Un k1,Um k2,Um (by omega:1<=r.kind),Un (by omega:¬ r.kind<=14)];rfl
 have hm:([0#32,0#32,15870#32,9874#32,0#32,0#32,0#32,49152#32,114688#32,212994#32,0#32,8192#32,270336#32,811008#32,57344#32]:List (BitVec 32))[(r.kind).toNat]? = some (mkQ r.kind):=by
  unfold mkQ;rw[Qb];have:r.kind.toNat<maskT.length:=by simp[maskT];omega
  show maskT[r.kind.toNat]? = _;rw[Qg this];rfl
 rw[Un k1,Un k2,Um (by omega:1<=r.kind),Um (by omega:r.kind<=14),Um (by omega:0<=r.kind),Um (by omega:r.kind<15)];simp only[Ui,Uj,Bool.and_true,Qd,hm,bindU,u1,hf,Ve9a,Vhc h.rp,Vhc h.nm];unfold bigQ;cases fitQ (mkQ r.kind) (useQ r)
 ·rfl
 cases decide (r.auth=0#64)<;>cases r.jj<;>cases numQ r<;>(try rfl)<;>cases decide ((64:Int)<(r.rP.length:Int))<;>(try rfl)<;>cases decide ((16:Int)<(r.user.length:Int))<;>(try rfl)<;>cases decide ((32:Int)<(r.name.length:Int))<;>(try rfl)<;>cases decide ((8:Int)<(r.list.length:Int))<;>(try rfl)<;>cases decide ((1024:Int)<(r.box.length:Int))<;>(try rfl)<;>cases decide ((1024:Int)<(r.proof.length:Int))<;>(try rfl)<;>cases Lib.validD r.rP<;>(try rfl)<;>cases Lib.validD r.name<;>first|rfl|exact tl
def arrQ(m:BitVec 32):Jz:=⟨false,m.getLsbD 1,m.getLsbD 2,m.getLsbD 3,m.getLsbD 4,m.getLsbD 5,m.getLsbD 6,m.getLsbD 7,m.getLsbD 8,m.getLsbD 9,m.getLsbD 10,m.getLsbD 11,m.getLsbD 12,m.getLsbD 13,m.getLsbD 14,m.getLsbD 15,m.getLsbD 16,m.getLsbD 17,m.getLsbD 18,m.getLsbD 19⟩
theorem Vfaa(k:Int)(h1:1<=k)(h2:k<=14):Zfj k=some ((),arrQ (mkQ k),()):=by
 rcases (by omega:k=1\/k=2\/k=3\/k=4\/k=5\/k=6\/k=7\/k=8\/k=9\/k=10\/k=11\/k=12\/k=13\/k=14) with rfl|rfl|rfl|rfl|rfl|rfl|rfl|rfl|rfl|rfl|rfl|rfl|rfl|rfl<;>kernel_rfl
def fv(n:Ub)(s:Ua)(b:Bool)(li:List Ja)(au:List Ja)(k:Nat):List Ja:=
 bif !decide (n=0#64) then [⟨1,n,[]⟩] else bif !decide (s=([]:Ua)) then (bif Nat.beq k 1||Nat.beq k 3 then [⟨4,0#64,s⟩] else [⟨3,0#64,s⟩]) else bif b then [⟨7,1#64,[]⟩] else bif Nat.beq k 7 then li else bif Nat.beq k 13 then au else []
def numsQ(a0:Jb):List Ub:=[0#64,0#64,0#64,0#64,a0.jx,(Qa 64 a0.jc),(Qa 64 a0.jd),0#64,0#64,0#64,0#64,0#64,(Qa 64 a0.jk),0#64,a0.jv,0#64,0#64,(Qa 64 a0.jb),0#64,(Qa 64 a0.count)]
def strsQ(a0:Jb):List Ua:=[([]:Ua),a0.rP,a0.user,a0.name,([]:Ua),([]:Ua),([]:Ua),([]:Ua),([]:Ua),([]:Ua),([]:Ua),([]:Ua),([]:Ua),([]:Ua),([]:Ua),a0.box,a0.proof,([]:Ua),a0.iD,([]:Ua)]
def flagsQ(a0:Jb):List Bool:=[false,false,false,false,false,false,false,false,a0.je,a0.jq,a0.jt,a0.jm,false,false,false,false,false,false,false,false]
theorem Vaqa{α:Type}{l:List α}{k:Nat}{x:α}(h:l[k]? = some x):l.set k x=l:=by
 apply List.ext_getElem?;intro j;rw[List.getElem?_set];by_cases e:k=j
 ·subst e;have:=Va9 h;simp[this,(List.getElem?_eq_some_iff.mp h).2]
 ·simp[e]
theorem eqn(k j:Nat):decide ((k:Int)=(j:Int))=Nat.beq k j:=by
 rw[Qi,Uq];constructor
 ·intro h;obtain rfl:k=j:=by omega
  exact Nat.beq_refl k
 ·intro h;rw[Qs h]
def liQ(r:Jb)(li:List Ja):List Ja:=bif decide ((0:Int)<(r.list.length:Int)) then li else []
def auQ(r:Jb):List Ja:=bif r.jj then [⟨1,r.auth,[]⟩] else []
theorem Vfba(r:Jb){li:List Ja}(hli:Zfg r.list=some ((),li,()))(y1 y2:List (List Ja))(y3:List Ub)(y4:List Ua)(y5:List Bool){k:Nat}(hk:k<20){n:Ub}{s:Ua}{b:Bool}(h2:y2[k]? = some [])(h3:y3[k]? = some n)(h4:y4[k]? = some s)(h5:y5[k]? = some b) :
  Zdf_L0b (r,()) y1 y2 y3 y4 y5 (k:Int)=some (.inl ((r,()),y1,y2.set k (fv n s b (liQ r li) (auQ r) k),y3,y4,y5,((k+1:Nat):Int),())):=by
 have hs:y2.set k []=y2:=Vaqa h2;unfold Zdf_L0b fv liQ auQ;rw[Um (by omega:(k:Int)<20),Um (by omega:(0:Int)<=(k:Int))];simp only[Q2,Ui,Qz,h2,h3,h4,h5,bindU,hli,Vbk (i:=k) (by omega)];rw[show (1:Int)=((1:Nat):Int) from rfl,show (3:Int)=((3:Nat):Int) from rfl,show (7:Int)=((7:Nat):Int) from rfl,show (13:Int)=((13:Nat):Int) from rfl,eqn,eqn,eqn,eqn];cases decide (n=0#64)
 ·rfl
 cases decide (s=([]:Ua))
 ·cases Nat.beq k 1
  ·cases Nat.beq k 3<;>rfl
  ·rfl
 cases b
 ·by_cases e7:k=7
  ·subst e7;cases decide (((0:Nat):Int)<(r.list.length:Int))
   ·show some (Qe ((r,()),y1,y2,y3,y4,y5,_))=some (Qe ((r,()),y1,y2.set 7 [],y3,y4,y5,_));rw[hs]
   ·rfl
  ·have e:Nat.beq k 7=false:=by
    cases h:Nat.beq k 7
    ·rfl
    ·exact absurd (Qs h) e7
   rw[e];cases Nat.beq k 13
   ·show some (Qe ((r,()),y1,y2,y3,y4,y5,_))=some (Qe ((r,()),y1,y2.set k [],y3,y4,y5,_));rw[hs]
   ·cases r.jj
    ·show some (Qe ((r,()),y1,y2,y3,y4,y5,_))=some (Qe ((r,()),y1,y2.set k [],y3,y4,y5,_));rw[hs]
    ·rfl
 ·rfl
theorem iter_mk'{σ β:Type}{f:σ->Option (σ⊕β)}(mk:Nat->σ)(n:Nat)(b:β){s0:σ}(h0:mk 0=s0)(hn:n<1000)(h:∀k,k<n->f (mk k)=some (.inl (mk (k+1))))(he:f (mk n)=some (.inr b)):iter f rounds s0=some b:=by
 subst h0;have key:∀(d k fuel:Nat),k+d=n->d<fuel->iter f fuel (mk k)=some b:=by
  intro d;induction d with
  |zero=>
   intro k fuel e hf;obtain⟨m,rfl⟩:∃m,fuel=m+1:=⟨fuel-1,by omega⟩;obtain rfl:k=n:=by omega
   show (f (mk k)).bind _=_;rw[he];rfl
  |succ d ih=>
   intro k fuel e hf;obtain⟨m,rfl⟩:∃m,fuel=m+1:=⟨fuel-1,by omega⟩;show (f (mk k)).bind _=_;rw[h k (by omega),bindU];exact ih (k+1) m (by omega) (by omega)
 exact key n 0 rounds (by omega) (by rw[Vaa];omega)
theorem Vara{α:Type}(g:Nat->α)(d x:α)(k n:Nat)(h:k<n)(hx:x=g k):List.set ((Qc k).map g++Qf (n-k) d) k x=(Qc (k+1)).map g++Qf (n-(k+1)) d:=by
 subst hx;obtain⟨m,rfl⟩:∃m,n=k+1+m:=⟨n-(k+1),by omega⟩;rw[show k+1+m-k=m+1 by omega,show k+1+m-(k+1)=m by omega,List.set_append_right _ _ (by simp)];simp[List.replicate_succ,List.range_succ]
theorem Vasa{α:Type}(g:Nat->α)(d:α)(k n:Nat)(h:k<n):((Qc k).map g++Qf (n-k) d)[k]? = some d:=by
 obtain⟨m,rfl⟩:∃m,n=k+1+m:=⟨n-(k+1),by omega⟩;rw[List.getElem?_append_right (by simp),show k+1+m-k=m+1 by omega,Q1,Qk,Nat.sub_self];rfl
theorem Vata{n w:Nat}(h1:n<=1000)(h2:w<=100):small n w=true:=by
 unfold small;have:=Nat.mul_le_mul (show 2*n+192<=2192 by omega) h2;simp;omega
theorem gd{α:Type}{l:List α}{i:Nat}(d:α)(h:i<l.length):l[i]? = some (l.getD i d):=by
 rw[Qb,Qg h];rfl
def liI(l:List Ua):List Ja:=⟨5,Qa 64 (l.length:Int),[]⟩::l.map λx=>⟨3,0#64,x⟩
theorem Vfca(l:List Ua)(hl:l.length<900):Zfg l=some ((),liI l,()):=by
 unfold Zfg Zfg_L0 Yi3;dsimp only;rw[iter_mk' (λi=>(l,(⟨5,Qa 64 (l.length:Int),[]⟩:Ja)::(l.take i).map (λx=>(⟨3,0#64,x⟩:Ja)),(i:Int),())) l.length (liI l,()) ?_ (by omega) (λk hk=>?_) ?_,bindU]
 ·simp
 ·show Zfg_L0b l ((⟨5,Qa 64 (l.length:Int),[]⟩:Ja)::(l.take l.length).map (λx=>(⟨3,0#64,x⟩:Ja))) (l.length:Int)=_;unfold Zfg_L0b;rw[Un (by omega),Uj,List.take_length];rfl
 ·show Zfg_L0b l ((⟨5,Qa 64 (l.length:Int),[]⟩:Ja)::(l.take k).map (λx=>(⟨3,0#64,x⟩:Ja))) (k:Int)=_;unfold Zfg_L0b Zff;have hx:l[k]? = some l[k]:=Qg hk;rw[Um (by omega),Ui,gIn hx,bindU,bindU];dsimp only;rw[Vata (by simp;omega) (by omega),Ui,Vbk (by omega),List.take_add_one,hx,List.map_append];rfl
def FQ(r:Jb)(k:Nat):List Ja:=bif Nat.beq k 0 then [] else fv ((numsQ r).getD k 0#64) ((strsQ r).getD k []) ((flagsQ r).getD k false) (liQ r (liI r.list)) (auQ r) k
def z20:List (List Ja):=[[],[],[],[],[],[],[],[],[],[],[],[],[],[],[],[],[],[],[],[]]
theorem Vfda(r:Jb)(hl:r.list.length<900):Zdf_L0 ((r,()),z20,z20,numsQ r,strsQ r,flagsQ r,(1:Int),())=some (z20,(Qc 20).map (FQ r),()):=by
 unfold Zdf_L0 Yi7;rw[iter_mk' (λk=>((r,()),z20,(Qc (k+1)).map (FQ r)++Qf (20-(k+1)) [],numsQ r,strsQ r,flagsQ r,((k+1:Nat):Int),())) 19 (z20,(Qc 20).map (FQ r),()) ?_ (by omega) (λk hk=>?_) ?_]
 ·rfl
 ·show Zdf_L0b (r,()) z20 ((Qc 20).map (FQ r)++[]) (numsQ r) (strsQ r) (flagsQ r) ((20:Nat):Int)=_;rw[List.append_nil];rfl
 ·show Zdf_L0b (r,()) z20 ((Qc (k+1)).map (FQ r)++Qf (20-(k+1)) []) (numsQ r) (strsQ r) (flagsQ r) ((k+1:Nat):Int)=_;rw[Vfba r (Vfca r.list hl) z20 _ _ _ _ (by omega) (Vasa _ _ _ _ (by omega)) (gd 0#64 (by simp[numsQ];omega)) (gd [] (by simp[strsQ];omega)) (gd false (by simp[flagsQ];omega))];rw[show fv ((numsQ r).getD (k+1) 0#64) ((strsQ r).getD (k+1) []) ((flagsQ r).getD (k+1) false) (liQ r (liI r.list)) (auQ r) (k+1)=FQ r (k+1) from rfl,Vara (FQ r) [] _ (k+1) 20 (by omega) rfl]
theorem Vnk(r:Jb)(hl:r.list.length<900):Zdf r=some ((),⟨FQ r 0,FQ r 1,FQ r 2,FQ r 3,FQ r 4,FQ r 5,FQ r 6,FQ r 7,FQ r 8,FQ r 9,FQ r 10,FQ r 11,FQ r 12,FQ r 13,FQ r 14,FQ r 15,FQ r 16,FQ r 17,FQ r 18,FQ r 19⟩,()):=by
 unfold Zdf;have h:=Vfda r hl;unfold z20 numsQ strsQ flagsQ at h;rw[h];rfl
def okk(U:List Bool)(G:List (List Ja))(k:Nat):Bool:=U.getD k false||!decide ((0:Int)<((G.getD k []).length:Int))
theorem vL0(r:Jb)(U:List Bool)(G:List (List Ja))(hU:U.length=20)(hG:G.length=20):Zbx_L0 ((r,()),U,G,(1:Int),())=some (bif ((Qc 20).drop 1).all (okk U G) then Qn ((r,()),U,()) else Qe (4,())):=by
 unfold Zbx_L0 Yi4;rw[show ((1:Int))=((1:Nat):Int) from rfl];refine Vim (l:=Qc 20) (p:=okk U G) (mk:=λk=>((r,()),U,G,(k:Int),())) (bad:=Qe (4,())) (good:=Qn ((r,()),U,())) (λi x hx=>?_) ?_ 19 rounds 1 rfl (by rw[Vaa];omega)
 ·obtain⟨hi,hx⟩:=List.getElem?_eq_some_iff.1 hx;rw[Qk]at hi;rw[List.getElem_range]at hx;subst hx;show Zbx_L0b (r,()) U G (i:Int)=_;unfold Zbx_L0b okk;rw[Um (by omega:(i:Int)<20),Um (by omega:(0:Int)<=(i:Int)),Qz,gd false (by omega:i<U.length),gd [] (by omega:i<G.length),Vbk (by omega)];simp only[Q2,Ui,bindU];cases U.getD i false<;>cases decide ((0:Int)<((G.getD i []).length:Int))<;>rfl
 ·show Zbx_L0b (r,()) U G (((Qc 20).length:Nat):Int)=_;unfold Zbx_L0b;rw[Qk,Un (by omega)];rfl
theorem vL2(r:Jb)(U:List Bool)(h:SaneQ r):Zbx_L2 ((r,()),U,(0:Int),())=some (bif r.list.all idl then Qn ((r,()),U,()) else Qe (4,())):=by
 unfold Zbx_L2 Yi3;rw[show ((0:Int))=((0:Nat):Int) from rfl,Vln r.list idl (λi=>((r,()),U,(i:Int),())) (Qe (4,())) (Qn ((r,()),U,())) (by have:=h.li;omega)]
 ·intro i x hx;have h1:=Va9 hx;have h2:=h.li;simp only[Zbx_L2b,Vil hx,gIn hx,Qv,Ui,Vbk (i:=i) (by omega),idl];cases decide ((x.length:Int)=176)<;>rfl
 ·simp[Zbx_L2b]
theorem fv_n(n:Ub)(li au:List Ja)(k:Nat)(h7:Nat.beq k 7=false)(h13:Nat.beq k 13=false):decide ((0:Int)<((fv n [] false li au k).length:Int)) = !decide (n=0#64):=by
 unfold fv;rw[h7,h13];cases decide (n=0#64)<;>simp
theorem fv_s(s:Ua)(li au:List Ja)(k:Nat)(h7:Nat.beq k 7=false)(h13:Nat.beq k 13=false):decide ((0:Int)<((fv 0#64 s false li au k).length:Int)) = !decide (s=[]):=by
 unfold fv;rw[h7,h13];cases decide (s=[])<;>cases Nat.beq k 1<;>cases Nat.beq k 3<;>simp
theorem fv_b(b:Bool)(li au:List Ja)(k:Nat)(h7:Nat.beq k 7=false)(h13:Nat.beq k 13=false):decide ((0:Int)<((fv 0#64 [] b li au k).length:Int))=b:=by
 unfold fv;rw[h7,h13];cases b<;>simp
theorem Ve3{n:Int}(h:in64 n):decide (Qa 64 n=0#64)=decide (n=0):=by
 unfold in64 at h;rw[Qi,Uq,Uq];constructor
 ·intro e;have:=congrArg BitVec.toInt e;rw[BitVec.toInt_ofInt]at this;simp[Int.bmod]at this;split at this<;>omega
 ·rintro rfl;rfl
theorem posl{α:Type}[DecidableEq α](l:List α):decide ((0:Int)<(l.length:Int)) = !decide (l=[]):=by
 cases l with
 |nil=>rfl
 |cons a l=>simp
theorem uq(r:Jb)(h:SaneQ r)(ha:(!decide (r.auth=0#64)&&!r.jj)=false):(Qc 19).map (λi=>decide ((0:Int)<((FQ r (i+1)).length:Int)))=useQ r:=by
 have e1:decide ((0:Int)<((FQ r 1).length:Int)) = !decide (r.rP=[]):=fv_s _ _ _ 1 rfl rfl;have e2:decide ((0:Int)<((FQ r 2).length:Int)) = !decide (r.user=[]):=fv_s _ _ _ 2 rfl rfl;have e3:decide ((0:Int)<((FQ r 3).length:Int)) = !decide (r.name=[]):=fv_s _ _ _ 3 rfl rfl;have e4:decide ((0:Int)<((FQ r 4).length:Int)) = !decide (r.jx=0#64):=fv_n _ _ _ 4 rfl rfl;have e5:decide ((0:Int)<((FQ r 5).length:Int)) = !decide (r.jc=0):=(fv_n _ _ _ 5 rfl rfl).trans (by rw[show (numsQ r).getD 5 0#64=Qa 64 r.jc from rfl,Ve3 h.i1]);have e6:decide ((0:Int)<((FQ r 6).length:Int)) = !decide (r.jd=0):=(fv_n _ _ _ 6 rfl rfl).trans (by rw[show (numsQ r).getD 6 0#64=Qa 64 r.jd from rfl,Ve3 h.i2]);have e7:decide ((0:Int)<((FQ r 7).length:Int))=decide ((0:Int)<(r.list.length:Int)):=by
  show decide ((0:Int)<((liQ r (liI r.list)).length:Int))=_;unfold liQ;cases hc:decide ((0:Int)<(r.list.length:Int))
  ·rfl
  ·rw[Ui];exact Um (by simp[liI])
 have e8:decide ((0:Int)<((FQ r 8).length:Int))=r.je:=fv_b _ _ _ 8 rfl rfl;have e9:decide ((0:Int)<((FQ r 9).length:Int))=r.jq:=fv_b _ _ _ 9 rfl rfl;have e10:decide ((0:Int)<((FQ r 10).length:Int))=r.jt:=fv_b _ _ _ 10 rfl rfl;have e11:decide ((0:Int)<((FQ r 11).length:Int))=r.jm:=fv_b _ _ _ 11 rfl rfl;have e12:decide ((0:Int)<((FQ r 12).length:Int)) = !decide (r.jk=0):=(fv_n _ _ _ 12 rfl rfl).trans (by rw[show (numsQ r).getD 12 0#64=Qa 64 r.jk from rfl,Ve3 h.i3]);have e13:decide ((0:Int)<((FQ r 13).length:Int))=(r.jj||!decide (r.auth=0#64)):=by
  show decide ((0:Int)<((auQ r).length:Int))=_;unfold auQ;revert ha;cases r.jj<;>cases decide (r.auth=0#64)<;>simp
 have e14:decide ((0:Int)<((FQ r 14).length:Int)) = !decide (r.jv=0#64):=fv_n _ _ _ 14 rfl rfl;have e15:decide ((0:Int)<((FQ r 15).length:Int))=decide ((0:Int)<(r.box.length:Int)):=(fv_s _ _ _ 15 rfl rfl).trans (posl _).symm;have e16:decide ((0:Int)<((FQ r 16).length:Int))=decide ((0:Int)<(r.proof.length:Int)):=(fv_s _ _ _ 16 rfl rfl).trans (posl _).symm;have e17:decide ((0:Int)<((FQ r 17).length:Int)) = !decide (r.jb=0):=(fv_n _ _ _ 17 rfl rfl).trans (by rw[show (numsQ r).getD 17 0#64=Qa 64 r.jb from rfl,Ve3 h.i4]);have e18:decide ((0:Int)<((FQ r 18).length:Int))=decide ((0:Int)<(r.iD.length:Int)):=(fv_s _ _ _ 18 rfl rfl).trans (posl _).symm;have e19:decide ((0:Int)<((FQ r 19).length:Int)) = !decide (r.count=0):=(fv_n _ _ _ 19 rfl rfl).trans (by rw[show (numsQ r).getD 19 0#64=Qa 64 r.count from rfl,Ve3 h.i5]);unfold useQ;rw[<-e1,<-e2,<-e3,<-e4,<-e5,<-e6,<-e7,<-e8,<-e9,<-e10,<-e11,<-e12,<-e13,<-e14,<-e15,<-e16,<-e17,<-e18,<-e19];rfl
theorem Vfea(r:Jb)(h:SaneQ r)(ha:(!decide (r.auth=0#64)&&!r.jj)=false)(m:BitVec 32){U:List Bool}(hU:∀i,i<19->U.getD (i+1) false=m.getLsbD (i+1)){G:List (List Ja)}(hG:∀i,i<19->G.getD (i+1) []=FQ r (i+1)):((Qc 20).drop 1).all (okk U G)=fitQ m (useQ r):=by
 have hu:∀i,i<19->(useQ r).getD i false=decide ((0:Int)<((FQ r (i+1)).length:Int)):=λi hi=>by
  rw[<-uq r h ha,Qb,List.getElem?_map,List.getElem?_range hi];rfl
 rw[show (Qc 20).drop 1=(Qc 19).map (·+1) from rfl,List.all_map,Qi];unfold fitQ;rw[Qm,Qm];constructor
 ·intro e i hi;have:=e i hi;rw[Qo]at hi;rw[hu i hi];simp only[Function.comp,okk,hU i hi,hG i hi]at this;rw[Q3];exact this
 ·intro e i hi;have:=e i hi;rw[Qo]at hi;rw[hu i hi]at this;simp only[Function.comp,okk,hU i hi,hG i hi];rw[Q3];exact this
def UQ(m:BitVec 32):List Bool:=[false,m.getLsbD 1,m.getLsbD 2,m.getLsbD 3,m.getLsbD 4,m.getLsbD 5,m.getLsbD 6,m.getLsbD 7,m.getLsbD 8,m.getLsbD 9,m.getLsbD 10,m.getLsbD 11,m.getLsbD 12,m.getLsbD 13,m.getLsbD 14,m.getLsbD 15,m.getLsbD 16,m.getLsbD 17,m.getLsbD 18,m.getLsbD 19]
def GQ(r:Jb):List (List Ja):=[FQ r 0,FQ r 1,FQ r 2,FQ r 3,FQ r 4,FQ r 5,FQ r 6,FQ r 7,FQ r 8,FQ r 9,FQ r 10,FQ r 11,FQ r 12,FQ r 13,FQ r 14,FQ r 15,FQ r 16,FQ r 17,FQ r 18,FQ r 19]
theorem UQ_at(m:BitVec 32)(i:Nat)(hi:i<19):(UQ m).getD (i+1) false=m.getLsbD (i+1):=by
 have e:(UQ m).drop 1=(Qc 19).map λj=>m.getLsbD (j+1):=rfl;have:=congrArg (λl=>l.getD i false) e;simpa[Qb,hi,Nat.add_comm]using this
theorem GQ_at(r:Jb)(i:Nat)(hi:i<19):(GQ r).getD (i+1) []=FQ r (i+1):=by
 have e:(GQ r).drop 1=(Qc 19).map λj=>FQ r (j+1):=rfl;have:=congrArg (λl=>l.getD i []) e;simpa[Qb,hi,Nat.add_comm]using this
theorem rtail(r:Jb)(h:SaneQ r):(Zbx_L2 ((r,()),UQ (mkQ r.kind),(0:Int),())).bind (Sum.elim (λ(z16:(Int×Unit))=>(some ((),(z16.1,())))) (λ(z17:((Jb×Unit)×(List (Bool))×Unit))=>(((z17.2.1)[18]?).bind λx18=>(bif x18 then (bif (!decide (((z17.1.1.iD).length:Int)=(176:Int))) then (some ((),((4:Int),()))) else (some ((),((0:Int),())))) else (some ((),((0:Int),())))))))=some ((),idsQ r,()):=by
 rw[vL2 r _ h,bindU];unfold idsQ;cases r.list.all idl
 ·rfl
 ·rw[Ui,Ql];dsimp only;rw[show (UQ (mkQ r.kind))[18]? = some ((mkQ r.kind).getLsbD 18) from rfl,bindU];cases (mkQ r.kind).getLsbD 18<;>cases decide ((r.iD.length:Int)=176)<;>rfl
theorem Vdu(r:Jb)(h:SaneQ r):Zbx r=some ((),valQ r,()):=by
 have tl:=rtail r h;unfold Zbx valQ;simp only[Vfc,bindU];cases hk:(decide (1<=r.kind)&&decide (r.kind<=14))
 ·rfl
 simp only[Qh,Uq]at hk;rw[Vfaa _ hk.1 hk.2,Vnk r h.li];simp only[bindU,Qd,Uj];change (Zbx_L0 ((r,()),UQ (mkQ r.kind),GQ r,(1:Int),())).bind _=_;rw[vL0 r _ _ rfl rfl,bindU];have hal:=Vfea r h (m:=mkQ r.kind) (U:=UQ (mkQ r.kind)) (G:=GQ r);generalize ((Qc 20).drop 1).all (okk (UQ (mkQ r.kind)) (GQ r))=A at hal;cases ha:(!decide (r.auth=0#64)&&!r.jj)
 ·obtain rfl:=hal ha (UQ_at _) (GQ_at r);cases fitQ (mkQ r.kind) (useQ r)
  ·rfl
  simp only[Ui,Ql,Qd,Uj,Vhc h.rp,Vhc h.nm,bindU];rw[show numQ r=((decide (0<=r.jc)&&decide (r.jc<=255))&&((decide (0<=r.jd)&&decide (r.jd<=255))&&((decide (0<=r.jk)&&decide (r.jk<=255))&&((decide (0<=r.jb)&&decide (r.jb<=255))&&(decide (0<=r.count)&&decide (r.count<=255)))))) from rfl];unfold bigQ;cases hb:decide (r.auth=0#64)<;>cases hc:r.jj<;>first
   |exact absurd ha (by rw[hb,hc];decide)
   |(cases (decide (0<=r.jc)&&decide (r.jc<=255))<;>(try rfl)<;>cases (decide (0<=r.jd)&&decide (r.jd<=255))<;>(try rfl)<;>cases (decide (0<=r.jk)&&decide (r.jk<=255))<;>(try rfl)<;>cases (decide (0<=r.jb)&&decide (r.jb<=255))<;>(try rfl)<;>cases (decide (0<=r.count)&&decide (r.count<=255))<;>(try rfl)<;>cases decide ((64:Int)<(r.rP.length:Int))<;>(try rfl)<;>cases decide ((16:Int)<(r.user.length:Int))<;>(try rfl)<;>cases decide ((32:Int)<(r.name.length:Int))<;>(try rfl)<;>cases decide ((8:Int)<(r.list.length:Int))<;>(try rfl)<;>cases decide ((1024:Int)<(r.box.length:Int))<;>(try rfl)<;>cases decide ((1024:Int)<(r.proof.length:Int))<;>(try rfl)<;>cases Lib.validD r.rP<;>(try rfl)<;>cases Lib.validD r.name<;>first|rfl|exact tl)
 ·rw[Qh,Qx,Qx]at ha;cases A
  ·cases fitQ (mkQ r.kind) (useQ r)<;>rfl
  ·rw[Ui,Ql];dsimp only;rw[ha.1,ha.2];cases fitQ (mkQ r.kind) (useQ r)<;>rfl
structure GoodQ(r:Jb):Prop where
 k1:1<=r.kind
 k2:r.kind<=14
 ft:fitQ (mkQ r.kind) (useQ r)=true
 au:(!decide (r.auth=0#64)&&!r.jj)=false
 nu:numQ r=true
 rp:r.rP.length<=64
 us:r.user.length<=16
 nm:r.name.length<=32
 li:r.list.length<=8
 bx:r.box.length<=1024
 pf:r.proof.length<=1024
 vr:Lib.validD r.rP=true
 vn:Lib.validD r.name=true
 id:idsQ r=0
 el:∀x∈r.list,x.length=176
theorem Vit{r:Jb}(hv:valQ r=0):GoodQ r:=by
 unfold valQ at hv;cases h1:(decide (1<=r.kind)&&decide (r.kind<=14))
 ·rw[h1]at hv;simp at hv
 rw[h1]at hv;cases h2:fitQ (mkQ r.kind) (useQ r)
 ·rw[h2]at hv;simp at hv
 rw[h2]at hv;cases h3:(!decide (r.auth=0#64)&&!r.jj)
 case true=>rw[h3]at hv;simp at hv
 rw[h3]at hv;cases h4:numQ r
 ·rw[h4]at hv;simp at hv
 rw[h4]at hv;cases h5:bigQ r
 case true=>rw[h5]at hv;simp at hv
 rw[h5]at hv;cases h6:(Lib.validD r.rP&&Lib.validD r.name)
 ·rw[h6]at hv;simp at hv
 rw[h6]at hv;simp only[Qd,Uj]at hv;unfold bigQ at h5;simp only[Bool.or_eq_false_iff,decide_eq_false_iff_not]at h5;obtain⟨b1,b2,b3,b4,b5,b6⟩:=h5;simp only[Qh,Uq]at h1;rw[Qh]at h6;have h7:r.list.all idl=true:=by
  cases h7:r.list.all idl
  ·unfold idsQ at hv;rw[h7]at hv;simp at hv
  ·rfl
 exact⟨h1.1,h1.2,h2,h3,h4,by omega,by omega,by omega,by omega,by omega,by omega,h6.1,h6.2,hv,λx hx=>by
  have:=List.all_eq_true.1 h7 x hx;unfold idl at this;have:=Uo this;omega⟩
theorem Vqs:∀(l:List Bool) (i:Nat),(selN i l).length=l.count true
 |[],i=>by unfold selN;rfl
 |b::l,i=>by
  unfold selN;have:=Vqs l (i+1);cases b<;>simp[this]
theorem Vc3a:∀(l m:List Bool),l.length=m.length->(∀i,l.getD i false=true->m.getD i false=true)->l.count true<=m.count true
 |[],[],_,_=>Nat.le_refl _
 |a::l,b::m,hl,h=>by
  have ih:=Vc3a l m (by simpa using hl) λi hi=>by simpa using h (i+1) (by simpa using hi)
  have h0:=h 0;simp only[List.getD_cons_zero]at h0;cases a<;>cases b<;>simp_all<;>omega
def mskL(m:BitVec 32):List Bool:=(Qc 19).map λi=>m.getLsbD (i+1)
theorem Vffa{k:Int}(h1:1<=k)(h2:k<=14):(mskL (mkQ k)).count true<=12:=by
 rcases (by omega:k=1\/k=2\/k=3\/k=4\/k=5\/k=6\/k=7\/k=8\/k=9\/k=10\/k=11\/k=12\/k=13\/k=14) with rfl|rfl|rfl|rfl|rfl|rfl|rfl|rfl|rfl|rfl|rfl|rfl|rfl|rfl<;>decide +kernel
theorem Vfga{r:Jb}(h:GoodQ r):(selN 1 (useQ r)).length<=12:=by
 rw[Vqs];refine Nat.le_trans (Vc3a (useQ r) (mskL (mkQ r.kind)) rfl λi hi=>?_) (Vffa h.k1 h.k2);by_cases hlt:i<19
 ·have:=h.ft;unfold fitQ at this;have:=List.all_eq_true.1 this i (List.mem_range.2 hlt);rw[hi]at this;simpa[mskL,Qb,hlt]using this
 ·have:(useQ r).getD i false=false:=by
   rw[Qb,Qr (by simp[useQ];omega)];rfl
  rw[this]at hi;cases hi
def valsQ(r:Jb):List (List Ja):=[textI r.rP,bytesI r.user,textI r.name,uintI r.jx,uintI (Qa 64 r.jc),uintI (Qa 64 r.jd),certI r.list,boolI r.je,boolI r.jq,boolI r.jt,boolI r.jm,uintI (Qa 64 r.jk),uintI r.auth,uintI r.jv,bytesI r.box,bytesI r.proof,uintI (Qa 64 r.jb),bytesI r.iD,uintI (Qa 64 r.count)]
theorem PV_l{l:List Ua}(hl:l.length<=8)(h:∀x∈l,x.length=176):PV (certI l):=by
 have h2:=(Vj5 hl λc hc=>by rw[h c hc];omega).2;refine⟨Vwt (by omega) h2,⟨by rw[Vf1];omega,λx hx=>?_⟩,by unfold certI arrI;simp⟩;unfold certI arrI at hx;rcases List.mem_cons.1 hx with rfl|hx
 ·show ([]:Ua).length<100000;decide
 ·obtain⟨o,ho,hx⟩:=List.mem_flatten.1 hx;obtain⟨c,hc,rfl⟩:=List.mem_map.1 ho;simp only[bytesI,List.mem_singleton]at hx;subst hx;show c.length<100000;rw[h c hc];omega
theorem Vo0{r:Jb}(h:GoodQ r)(hid:r.iD.length<=1024):∀o∈valsQ r,PV o:=by
 intro o ho;have h1:=h.rp;have h2:=h.us;have h3:=h.nm;have h4:=h.bx;have h5:=h.pf;unfold valsQ at ho;simp only[List.mem_cons,List.not_mem_nil,or_false]at ho;rcases ho with rfl|rfl|rfl|rfl|rfl|rfl|rfl|rfl|rfl|rfl|rfl|rfl|rfl|rfl|rfl|rfl|rfl|rfl|rfl
 ·exact PV_t (by omega) h.vr
 ·exact PV_b (by omega)
 ·exact PV_t (by omega) h.vn
 ·exact PV_u _
 ·exact PV_u _
 ·exact PV_u _
 ·exact PV_l h.li h.el
 ·exact PV_o _
 ·exact PV_o _
 ·exact PV_o _
 ·exact PV_o _
 ·exact PV_u _
 ·exact PV_u _
 ·exact PV_u _
 ·exact PV_b (by omega)
 ·exact PV_b (by omega)
 ·exact PV_u _
 ·exact PV_b hid
 ·exact PV_u _
theorem Vxw{r:Jb}(h:GoodQ r):r.iD.length<=176:=by
 have hi:=h.id;unfold idsQ at hi;rw[show r.list.all idl=true from List.all_eq_true.2 λx hx=>Um (by rw[h.el x hx];rfl)]at hi;simp only[Qd,Uj]at hi;cases hb:(mkQ r.kind).getLsbD 18
 ·have hf:=h.ft;unfold fitQ at hf;have:=List.all_eq_true.1 hf 17 (by decide);rw[hb,show (useQ r).getD 17 false=decide ((0:Int)<(r.iD.length:Int)) from rfl]at this;simp at this;rw[this];simp
 ·rw[hb]at hi;cases hc:decide ((r.iD.length:Int)=176)
  ·rw[hc]at hi;simp at hi
  ·have:=Uo hc;omega
theorem Vxx{r:Jb}(h:GoodQ r):(valsQ r).flatten.length<=400:=by
 have:=Vf1 r.list;have:=h.li;unfold valsQ;simp only[Qw,List.flatten_nil,List.length_append,textI,bytesI,uintI,boolI,Qy,List.length_nil];omega
theorem fitF{r:Jb}(h:GoodQ r):Fit (useQ r) (valsQ r):=
 ⟨rfl,rfl,λo ho=>(Vo0 h (by have:=Vxw h;omega) o ho).1,Vxx h,λo ho=>(Vo0 h (by have:=Vxw h;omega) o ho).2.1,Vfga h⟩
theorem fv_s3(s:Ua)(li au:List Ja)(k:Nat)(h7:Nat.beq k 7=false)(h13:Nat.beq k 13=false)(h1:(Nat.beq k 1||Nat.beq k 3)=false):fv 0#64 s false li au k=bif !decide (s=[]) then bytesI s else []:=by
 unfold fv;rw[h7,h13,h1];cases decide (s=[])<;>rfl
theorem fv_s4(s:Ua)(li au:List Ja)(k:Nat)(h7:Nat.beq k 7=false)(h13:Nat.beq k 13=false)(h1:(Nat.beq k 1||Nat.beq k 3)=true):fv 0#64 s false li au k=bif !decide (s=[]) then textI s else []:=by
 unfold fv;rw[h7,h13,h1];cases decide (s=[])<;>rfl
theorem fv_n1(n:Ub)(li au:List Ja)(k:Nat)(h7:Nat.beq k 7=false)(h13:Nat.beq k 13=false):fv n [] false li au k=bif !decide (n=0#64) then uintI n else []:=by
 unfold fv;rw[h7,h13];cases decide (n=0#64)<;>rfl
theorem fv_b1(b:Bool)(li au:List Ja)(k:Nat)(h7:Nat.beq k 7=false)(h13:Nat.beq k 13=false):fv 0#64 [] b li au k=bif b then boolI b else []:=by
 unfold fv;rw[h7,h13];cases b<;>rfl
theorem Vhqa(l:List Ua):liI l=certI l:=by
 unfold liI certI arrI;have:(l.map bytesI).flatten=l.map λx=>(⟨3,0#64,x⟩:Ja):=by
  induction l with
  |nil=>rfl
  |cons a l ih=>simp only[List.map_cons,Qw,ih];rfl
 rw[this,Q1];rfl
theorem Vhra{r:Jb}(h:SaneQ r)(g:GoodQ r):GQ r=[]::fld (useQ r) (valsQ r):=by
 have e1:FQ r 1=bif !decide (r.rP=[]) then textI r.rP else []:=fv_s4 _ _ _ 1 rfl rfl rfl;have e2:FQ r 2=bif !decide (r.user=[]) then bytesI r.user else []:=fv_s3 _ _ _ 2 rfl rfl rfl;have e3:FQ r 3=bif !decide (r.name=[]) then textI r.name else []:=fv_s4 _ _ _ 3 rfl rfl rfl;have e4:FQ r 4=bif !decide (r.jx=0#64) then uintI r.jx else []:=fv_n1 _ _ _ 4 rfl rfl;have e5:FQ r 5=bif !decide (r.jc=0) then uintI (Qa 64 r.jc) else []:=(fv_n1 _ _ _ 5 rfl rfl).trans (by rw[show (numsQ r).getD 5 0#64=Qa 64 r.jc from rfl,Ve3 h.i1]);have e6:FQ r 6=bif !decide (r.jd=0) then uintI (Qa 64 r.jd) else []:=(fv_n1 _ _ _ 6 rfl rfl).trans (by rw[show (numsQ r).getD 6 0#64=Qa 64 r.jd from rfl,Ve3 h.i2]);have e7:FQ r 7=bif decide ((0:Int)<(r.list.length:Int)) then certI r.list else []:=by rw[<-Vhqa];rfl
 have e8:FQ r 8=bif r.je then boolI r.je else []:=fv_b1 _ _ _ 8 rfl rfl;have e9:FQ r 9=bif r.jq then boolI r.jq else []:=fv_b1 _ _ _ 9 rfl rfl;have e10:FQ r 10=bif r.jt then boolI r.jt else []:=fv_b1 _ _ _ 10 rfl rfl;have e11:FQ r 11=bif r.jm then boolI r.jm else []:=fv_b1 _ _ _ 11 rfl rfl;have e12:FQ r 12=bif !decide (r.jk=0) then uintI (Qa 64 r.jk) else []:=(fv_n1 _ _ _ 12 rfl rfl).trans (by rw[show (numsQ r).getD 12 0#64=Qa 64 r.jk from rfl,Ve3 h.i3]);have e13:FQ r 13=bif (r.jj||!decide (r.auth=0#64)) then uintI r.auth else []:=by
  show auQ r=_;unfold auQ;have ha:=g.au;revert ha;cases r.jj<;>cases decide (r.auth=0#64)<;>simp[uintI]
 have e14:FQ r 14=bif !decide (r.jv=0#64) then uintI r.jv else []:=fv_n1 _ _ _ 14 rfl rfl;have e15:FQ r 15=bif decide ((0:Int)<(r.box.length:Int)) then bytesI r.box else []:=(fv_s3 _ _ _ 15 rfl rfl rfl).trans (by rw[posl];rfl);have e16:FQ r 16=bif decide ((0:Int)<(r.proof.length:Int)) then bytesI r.proof else []:=(fv_s3 _ _ _ 16 rfl rfl rfl).trans (by rw[posl];rfl);have e17:FQ r 17=bif !decide (r.jb=0) then uintI (Qa 64 r.jb) else []:=(fv_n1 _ _ _ 17 rfl rfl).trans (by rw[show (numsQ r).getD 17 0#64=Qa 64 r.jb from rfl,Ve3 h.i4]);have e18:FQ r 18=bif decide ((0:Int)<(r.iD.length:Int)) then bytesI r.iD else []:=(fv_s3 _ _ _ 18 rfl rfl rfl).trans (by rw[posl];rfl);have e19:FQ r 19=bif !decide (r.count=0) then uintI (Qa 64 r.count) else []:=(fv_n1 _ _ _ 19 rfl rfl).trans (by rw[show (numsQ r).getD 19 0#64=Qa 64 r.count from rfl,Ve3 h.i5]);unfold GQ;rw[e1,e2,e3,e4,e5,e6,e7,e8,e9,e10,e11,e12,e13,e14,e15,e16,e17,e18,e19];rfl
def kindB(r:Jb):UInt8:=Q0 (Qa 8 r.kind)
def reqO(r:Jb):Ua×Int:=bif !decide (valQ r=0) then ([],valQ r) else (kindB r::encA (chosI (useQ r) (valsQ r)),0)
theorem Vry(r:Jb)(h:SaneQ r):Zbp r=some ((),(reqO r).1,(reqO r).2,()):=by
 unfold Zbp reqO;rw[Vnj r h];simp only[bindU];by_cases hv:valQ r=0
 ·have hg:=Vit hv;rw[Um hv];simp only[Qd,Uj];obtain⟨t,u1,u2⟩:=Vc2a r;rw[u1];simp only[bindU,Vcwa,Vhca,Vhda,Vhea];rw[(Vj5 hg.li (λc hc=>by rw[hg.el c hc];omega)).1];simp only[bindU];have e:=Vxi (fitF hg) (kindB r) u2;unfold valsQ kindB at e;rw[e];rfl
 ·rw[Un hv];rfl
theorem Vff(r:Jb)(h:SaneQ r):Zag r=some ((),(reqO r).1,(reqO r).2,()):=by
 unfold Zag reqO;rw[Vdu r h];simp only[bindU];by_cases hv:valQ r=0
 ·have hg:=Vit hv;rw[Um hv];simp only[Qd,Uj];rw[Vnk r h.li];simp only[bindU];have e:=Vrw (fitF hg) λo ho=>(Vo0 hg (by have:=Vxw hg;omega) o ho).2.2;rw[<-Vhra h hg]at e;unfold GQ at e;rw[e];simp only[bindU];have hle:=Vlp (chosI (useQ r) (valsQ r)) (fitF hg).data;have hl:=(fitF hg).len;rw[show small ([Q0 (Qa 8 r.kind)].length+(encA (chosI (useQ r) (valsQ r))).length) 1=true from by unfold small;simp;omega];rfl
 ·rw[Un hv];rfl
theorem Vgm(a:Jq):∃b,Zft a=some ((),b,()):=⟨_,rfl⟩
theorem Vxy(k0 k1:Ub)(l:Ua)(h:l.length<1000000000):∃v,Zhx k0 k1 l=some ((),v,()):=by
 have q:∀v0,Ok (Zhx_L0 (l,(v0,()),0,())) λ_=>True:=by
  intro v0;unfold Zhx_L0 Yi3;refine Ok.iter (λt=>∃(v:Jq) (i:Int),0<=i/\i<=l.length+8/\t=(l,(v,()),i,())) (λt=>(l.length+9-t.2.2.1).toNat) ⟨v0,0,by omega,by omega,rfl⟩ (by rw[Vaa];dsimp only;omega) ?_;rintro _ ⟨v,i,i0,i1,rfl⟩;dsimp only;unfold Zhx_L0b;refine Ok.cond (λhi=>?_) λ_=>Ok.some trivial;have hi:=Uo hi;refine Ok.bm (Q:=λz=>∃m,z=(l,(v,()),i,m,())) ?_ ?_
  ·unfold Zhx_L2 Yi5;refine Ok.iter (λt=>∃(m:Ub) (k:Int),-1<=k/\k<=7/\t=(l,(v,()),i,m,k,())) (λt=>(t.2.2.2.2.1+1).toNat) ⟨_,7,by omega,by omega,rfl⟩ (by rw[Vaa];dsimp only;omega) ?_;rintro _ ⟨m,k,k0,k1,rfl⟩;dsimp only;unfold Zhx_L2b;refine Ok.cond (λhk=>?_) λ_=>Ok.some ⟨m,rfl⟩;have hk:=Uo hk;rw[wI (i+k) (by omega),wI (k-1) (by omega)];refine Ok.cond (λhb=>?_) λ_=>Ok.cond (λ_=>Ok.some ⟨⟨_,_,by omega,by omega,rfl⟩,by dsimp only;omega⟩) λ_=>Ok.some ⟨⟨_,_,by omega,by omega,rfl⟩,by dsimp only;omega⟩;have hb:=Uo hb;rw[Vwh (by omega) (by omega),bindU];exact Ok.some ⟨⟨_,_,by omega,by omega,rfl⟩,by dsimp only;omega⟩
  ·rintro _ ⟨m,rfl⟩;dsimp only;obtain⟨b,hb⟩:=Vgm {v with a3:=v.a3^^^m};rw[hb,bindU];dsimp only;obtain⟨c,hc⟩:=Vgm b;rw[hc,bindU,wI (i+8) (by omega)];exact Ok.some ⟨⟨_,_,by omega,by omega,rfl⟩,by dsimp only;omega⟩
 unfold Zhx;obtain⟨z,hz,_⟩:=q ⟨k0^^^8317987319222330741#64,k1^^^7237128888997146477#64,k0^^^7816392313619706465#64,k1^^^8387220255154660723#64⟩;rw[hz,bindU];obtain⟨b,hb⟩:=Vgm {z.1.1 with a2:=z.1.1.a2^^^255#64};obtain⟨c,hc⟩:=Vgm b;obtain⟨d,hd⟩:=Vgm c;obtain⟨e,he⟩:=Vgm d;rw[hb,bindU];dsimp only;rw[hc,bindU];dsimp only;rw[hd,bindU];dsimp only;rw[he,bindU];exact⟨_,rfl⟩
def val1{α:Type}(d:α)(r:Option (Unit×(α×Unit))):α:=match r with
 |some (_,v,_)=>v
 |none=>d
theorem Vo1{α:Type}{d:α}{r:Option (Unit×(α×Unit))}(h:∃v,r=some ((),v,())):r=some ((),val1 d r,()):=by
 obtain⟨v,rfl⟩:=h;rfl
@[irreducible] def mac(k:Ub)(d:Int)(l:Ua):Ub:=val1 0 (Zhw k d l)
@[irreducible] def hsh(d:Int)(l:Ua):Ub:=val1 0 (Zgt d l)
theorem rMac(k:Ub)(d:Int)(l:Ua)(h:l.length<1000000000):Zhw k d l=some ((),mac k d l,()):=by
 unfold mac;refine Vo1 ?_;unfold Zhw;obtain⟨v,hv⟩:=Vxy k (1#64+Qa 64 d) l h;rw[hv];exact⟨_,rfl⟩
theorem rHash(d:Int)(l:Ua)(h:l.length<1000000000):Zgt d l=some ((),hsh d l,()):=by
 unfold hsh;refine Vo1 ?_;unfold Zgt;obtain⟨v,hv⟩:=Vxy (Qa 64 d) 0#64 l h;rw[hv];exact⟨_,rfl⟩
def bare(r:Jb):Jb:=⟨r.kind,r.rP,r.user,r.name,r.jx,r.jc,r.jd,r.list,r.je,r.jq,r.jt,r.jm,r.jk,0#64,false,r.jv,r.box,r.proof,r.jb,r.iD,r.count⟩
theorem Vxz{r:Jb}(h:SaneQ r):SaneQ (bare r):=⟨h.rp,h.us,h.nm,h.li,h.bx,h.pf,h.ii,h.i1,h.i2,h.i3,h.i4,h.i5,h.i6⟩
theorem Vnl(r:Jb):(reqO r).1.length<900000000:=by
 unfold reqO;by_cases hv:valQ r=0
 ·rw[Um hv];have hle:=Vlp (chosI (useQ r) (valsQ r)) (fitF (Vit hv)).data;have hl:=(fitF (Vit hv)).len;simp only[Qd,Uj,Qy];omega
 ·rw[Un hv];exact Nat.lt_of_le_of_lt (Nat.le_refl 0) (by omega)
theorem Vaua(r:Jb):(reqO r).1.length<1000000000:=Nat.lt_trans (Vnl r) (by omega)
theorem Vo2(r:Jb)(h:SaneQ r):Zdc r=some ((),val1 0 (Zdc r),()):=by
 refine Vo1 ?_;unfold Zdc;rw[Vdu r h,bindU];dsimp only;cases decide (valQ r=0)
 ·exact⟨_,rfl⟩
 ·simp only[Qd,Uj];have e:=Vff (bare r) (Vxz h);unfold bare at e;rw[e,bindU];have hh:=rHash 21 _ (Vaua (bare r));unfold bare at hh;rw[hh];exact⟨_,rfl⟩
theorem Vhsa:Zdx=some ((),true,()):=by kernel_rfl
end Go.Proofs.YtnfhkhlbdgbkjaaGreatDoor

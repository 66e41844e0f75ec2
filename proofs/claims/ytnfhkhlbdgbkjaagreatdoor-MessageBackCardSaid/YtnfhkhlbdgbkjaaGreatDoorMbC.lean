/- Out of the texts of other seats: what the laws of requests need. Written by a program. -/
import Derived.Test.YtnfhkhlbdgbkjaaGreatDoorMbB
set_option linter.unusedVariables false
set_option linter.unusedSimpArgs false
set_option maxRecDepth 100000
namespace Go.Proofs.YtnfhkhlbdgbkjaaGreatDoor
open Go Go.Abs
open _root_.List renaming length_cons → Qa, length_append → Qc, getElem?_eq_getElem → Qf, flatten_cons → Qg, mem_of_getElem? → Qh, range → Qk, take_add_one → Ql, getD_eq_getElem?_getD → Qn, replicate → Qo, length_singleton → Qp, length_take → Qr, cons_append → Qs, length_nil → Qt, take_of_length_le → Qx, map_cons → Qz, zip_cons_cons → Q1, take_length → Q2, take_append_drop → Q4, singleton_append → Q5, length_replicate → Q6, mem_cons_of_mem → Q7, getElem?_map → Q9, append_assoc → Qaa, mem_cons → Qac
open _root_.BitVec renaming ofNat → Qb, ofInt → Qd, toNat_ofNat → Qj, ofInt_natCast → Qm
open _root_.Int renaming toNat_natCast → Qe
open _root_.Bool renaming not_true → Qi, true_and → Qad
open _root_.Nat renaming ble_eq_true_of_le → Qq, ble → Qv, mod_eq_of_lt → Qw, le_of_ble_eq_true → Qy, add_comm → Q3, add_mul → Q8
open _root_.Option renaming toList_some → Qu
open Go.IntKind renaming wrap → Q0
open _root_.Sum renaming inl → Qab
def asc(keys:List Ub):Prop:=∀i j,i<j->j<keys.length->kk keys i<kk keys j
abbrev rg(n:Nat):List Int:=ci (Qk n)
theorem Vbva(n:Nat):(rg n).length=n:=by simp
theorem rg_at{n i:Nat}(h:i<n):(rg n)[i]? = some (i:Int):=by
 refine Vp3 ?_;rw[List.getElem?_range h]
theorem up_ok{keys:List Ub}(h:asc keys){i j:Nat}(hij:i<j)(hj:j<keys.length):Ziv (j:Int) (i:Int) keys=some ((),1,()):=by
 rw[Vdua keys j i hj (by omega)];unfold cmpI;have:=h i j hij hj;rw[dF (kk keys j<kk keys i) (by omega),Um this];rfl
theorem Vf7a{keys:List Ub}(h:asc keys){n:Nat}(hn:keys.length=n)(h31:n<=31){i:Nat}(h0:1<=i)(hi:i<n):Zab_L2 (rg n,0,(n:Int),(keys,()),(i:Int),(i:Int),())=some (rg n,0,(n:Int),(keys,()),(i:Int),()):=by
 unfold Zab_L2 i6;rw[Vaa,show (1180591620717411303424:Nat)=1180591620717411303423+1 from rfl,Vac];dsimp only;unfold Zab_L2b;rw[Vbva,dT ((0:Int)<(i:Int)) (by omega),Vjn (show (0:Int)<=(i:Int) by omega) (show (i:Int)<(n:Int) by omega),wI ((i:Int)-1) (by omega),show (i:Int)-1=((i-1:Nat):Int) by omega,Vjn (show (0:Int)<=((i-1:Nat):Int) by omega) (show ((i-1:Nat):Int)<(n:Int) by omega),Qe,Qe,rg_at hi,rg_at (show i-1<n by omega)];simp only[Ui,bindS];rw[up_ok h (show i-1<i by omega) (by omega)];rfl
theorem insA{keys:List Ub}(h:asc keys){n:Nat}(hn:keys.length=n)(h31:n<=31):Zab (rg n) 0 (n:Int) (keys,())=some ((rg n,()),()):=by
 unfold Zab Zab_L0 i5;rw[show Q0 .i64 ((0:Int)+1)=((0+1:Nat):Int) from rfl,Vre (Qo (n-1) ()) (λ(t:Unit) _=>t) (λi t=>(rg n,0,(n:Int),(keys,()),((i+1:Nat):Int),())) (λ_=>(rg n,())) (by simp;omega) ()]
 ·rfl
 ·intro i t x hx;have h1:=Va7 hx;rw[Q6]at h1;simp only[Zab_L0b];rw[dT (((i+1:Nat):Int)<(n:Int)) (by omega),Vf7a h hn h31 (by omega) (by omega)];simp only[Ui,bindS,Vb0 (i:=i+1) (by omega)]
 ·intro t;simp only[Zab_L0b,Q6];rw[dF (((n-1+1:Nat):Int)<(n:Int)) (by omega)];rfl
theorem sortA{keys:List Ub}(h:asc keys){n:Nat}(hn:keys.length=n)(h12:n<=12):Zbd (rg n) (keys,())=some ((rg n,()),()):=by
 unfold Zbd;obtain⟨k,hk⟩:=Vdva n h12;rw[Vbva,hk];simp only[bindS];unfold Zaj Zaj_L0 i7;rw[Vaa,show (1180591620717411303424:Nat)=1180591620717411303423+1 from rfl,Vac];dsimp only;unfold Zaj_L0b;rw[wI ((n:Int)-0) (by omega)];rw[dT ((n:Int)-0<=12) (by omega),insA h hn (by omega)];rfl
theorem MapA{keys:List Ub}(h:asc keys)(v:List (List Ja))(hk:keys.length<=12)(hl:keys.length=v.length)(hv:light1 v):cbor_Map keys v=some ((),(mapO keys v (Qk keys.length)).1,(mapO keys v (Qk keys.length)).2,()):=by
 unfold cbor_Map;rw[dT ((keys.length:Int)=(v.length:Int)) (by omega),show (decide ((0:Int)<=(keys.length:Int))&&(decide ((keys.length:Int)<=(keys.length:Int))&&decide ((8:Int)*(keys.length:Int)<=281474976710656/\(keys.length:Int)<=9223372036854775807)))=true by simp;omega];simp only[Qi,Uj,Ui,Qe]
 -- the indices
 have e0:cbor_Map_L0 (v,keys,Qo keys.length (0:Int),(keys.length:Int),0,())=some (v,keys,ci (Qk keys.length),()):=by
  obtain⟨z,h1,h2⟩:Ok (cbor_Map_L0 (v,keys,Qo keys.length (0:Int),(keys.length:Int),0,())) λz=>z=(v,keys,ci (Qk keys.length),()):=by
   unfold cbor_Map_L0 i5;refine Ok.iter (λq=>q.1=v/\q.2.1=keys/\q.2.2.2.1=(keys.length:Int)/\∃i:Nat,i<=keys.length/\q.2.2.2.2.1=(i:Int)/\q.2.2.1=ci (Qk i)++Qo (keys.length-i) 0) (λq=>(keys.length-q.2.2.2.2.1).toNat) ⟨rfl,rfl,rfl,0,by omega,rfl,by simp⟩ (by rw[Vaa];dsimp only;omega) ?_;rintro⟨q0,q1,q2,q3,q4,u⟩ ⟨e1,e2,e3,i,hi,e4,e5⟩;dsimp only at *;subst e1;subst e2;subst e3;subst e4;subst e5;simp only[cbor_Map_L0b];by_cases h:i<q1.length
   ·have hlen:(ci (Qk i)++Qo (q1.length-i) (0:Int)).length=q1.length:=by simp;omega
    rw[hlen,Vjn (by omega) (show (i:Int)<(q1.length:Int) by omega),dT ((i:Int)<(q1.length:Int)) (by omega),Qe,Qf (show i<(ci (Qk i)++Qo (q1.length-i) (0:Int)).length by omega),wI ((i:Int)+1) (by omega)];simp only[Ui,bindS];refine Ok.some ?_;dsimp only;refine⟨⟨rfl,rfl,rfl,i+1,by omega,rfl,?_⟩,by omega⟩;rw[List.set_append_right _ _ (by simp),show q1.length-i=(q1.length-(i+1))+1 by omega,List.replicate_succ,List.range_succ];simp[ci]
   ·rw[dF ((i:Int)<(q1.length:Int)) (by omega)];have:i=q1.length:=by omega
    subst this;refine Ok.some ?_;simp
  rw[h1,h2]
 rw[e0];simp only[bindS];have hs1:=sortA h rfl hk;rw[hs1];simp only[bindS];unfold rg;generalize hgo:Qk keys.length=o;have hol:o.length=keys.length:=by rw[<-hgo,List.length_range]
 have hor:∀i∈o,i<keys.length:=λi hi=>by rw[<-hgo]at hi;exact List.mem_range.1 hi
 -- duplicates
 have e2:∀(r:List Nat) (a:Nat) (j f:Nat),o.drop j=a::r->r.length<f->iter (λ(y:((List (List Ja))×(List Ub)×(List (Int))×Int×Unit))=>cbor_Map_L2b y.1 y.2.1 y.2.2.1 y.2.2.2.1) f (v,keys,ci o,((j+1:Nat):Int),())=some (bif adj keys (a::r) then .inl ([],10,()) else .inr (v,keys,ci o,())):=by
  intro r;induction r with
  |nil=>
   intro a j f hr hf;obtain⟨f,rfl⟩:∃g,f=g+1:=⟨f-1,by omega⟩;obtain⟨d1,d2,d3,d4⟩:=Vcq hr;rw[Vac];dsimp only;unfold cbor_Map_L2b;rw[Vp2,dF (((j+1:Nat):Int)<(o.length:Int)) (by simp at d4;omega)];rfl
  |cons b r ih=>
   intro a j f hr hf;obtain⟨f,rfl⟩:∃g,f=g+1:=⟨f-1,by omega⟩;obtain⟨d1,d2,d3,d4⟩:=Vcq hr;obtain⟨b1,b2,b3,b4⟩:=Vcq d2;have ha:=hor a (Qh d1);have hb:=hor b (Qh b1);have e1:cbor_Map_L2b v keys (ci o) ((j+1:Nat):Int)=bif decide (kk keys a=kk keys b) then some (Sum.inr (Qab ([],10,()))) else some (Qab (v,keys,ci o,((j+1+1:Nat):Int),())):=by
    unfold cbor_Map_L2b;rw[Vp2,wI (((j+1:Nat):Int)-1) (by omega),show ((j+1:Nat):Int)-1=(j:Int) by omega,Vjn (by omega) (show (j:Int)<(o.length:Int) by omega),Vjn (by omega) (show ((j+1:Nat):Int)<(o.length:Int) by omega),dT (((j+1:Nat):Int)<(o.length:Int)) (by omega),Qe,Qe,Vp3 d1,Vp3 b1,wI (((j+1:Nat):Int)+1) (by omega)];simp only[Ui,bindS];rw[Vmw ha,Vmw hb];simp only[bindS];rw[Vf6a];rfl
   rw[Vac];dsimp only;rw[e1];unfold adj;cases hq:decide (kk keys a=kk keys b)
   ·simp only[Uj,bindS,Sum.elim_inl,Bool.false_or];exact ih b (j+1) f d2 (by simp at hf;omega)
   ·rfl
 have e3:cbor_Map_L2 (v,keys,ci o,1,())=some (bif adj keys o then .inl ([],10,()) else .inr (v,keys,ci o,())):=by
  unfold cbor_Map_L2 i4;cases ho:o with
  |nil=>
   rw[Vaa,show (1180591620717411303424:Nat)=1180591620717411303423+1 from rfl,Vac];rfl
  |cons a r=>
   have:=e2 r a 0 rounds (by rw[ho];rfl) (by rw[Vaa];rw[ho]at hol;simp at hol;omega);rw[ho]at this;exact this
 rw[e3];unfold mapO;cases hadj:adj keys o
 ·simp only[Uj,bindS,Sum.elim_inr];rw[Vmu v hv (by omega)];simp only[bindS];by_cases h0:fau v=0
  ·rw[dT (fau v=0) h0];simp only[Qi,Uj]
   -- the collecting
   have e4 : ∀(r : List Nat) (j f : Nat) (out : List Ja), o.drop j=r->r.length<f->out.length<=j*601+1->iter (λ(y : ((List (List Ja))×(List Ub)×(List (Ja))×(List (Int))×Int×Int×Unit)) => cbor_Map_L4b y.1 y.2.1 y.2.2.1 y.2.2.2.1 y.2.2.2.2.1 y.2.2.2.2.2.1) f (v, keys, out, ci o, (o.length : Int), (j : Int), ())=some (gat out (prO keys v r), ()) := by
    intro r;induction r with
    |nil=>
     intro j f out hr hf ho;obtain⟨f,rfl⟩:∃g,f=g+1:=⟨f-1,by omega⟩;have hjl:o.length<=j:=by
      have:=congrArg List.length hr;simp at this;omega
     rw[Vac];dsimp only;unfold cbor_Map_L4b;rw[dF ((j:Int)<(o.length:Int)) (by omega)];rfl
    |cons b r ih=>
     intro j f out hr hf ho;obtain⟨f,rfl⟩:∃g,f=g+1:=⟨f-1,by omega⟩;obtain⟨d1,d2,d3,d4⟩:=Vcq hr;have hb:=hor b (Qh d1);obtain⟨l1,_⟩:=Vjp hv b;have e1:cbor_Map_L4b v keys out (ci o) (o.length:Int) (j:Int)=bif decide (512<out.length) then some (Sum.inr (out,())) else some (Qab (v,keys,out++(⟨1,keys.getD b 0#64,[]⟩::v.getD b []),ci o,(o.length:Int),((j+1:Nat):Int),())):=by
      unfold cbor_Map_L4b;rw[Vp2,Vjn (by omega) (show (j:Int)<(o.length:Int) by omega),dT ((j:Int)<(o.length:Int)) (by omega),Qe,Vp3 d1,wI ((j:Int)+1) (by omega)];simp only[Ui,bindS];rw[show decide ((512:Int)<(out.length:Int))=decide (512<out.length) by rw[decide_eq_decide];omega];cases decide (512<out.length)
      ·simp only[Uj];rw[Vmw hb];simp only[bindS,Ziz];rw[Vga (by simp only[Qa,Qt];omega),Vzf (show b<v.length by omega)];simp only[Ui,bindS];rw[Vga (by simp only[Qc,Qa,Qt];omega)];simp
      ·rfl
     rw[Vac];dsimp only;rw[e1];have hpr:prO keys v (b::r)=(⟨1,keys.getD b 0#64,[]⟩::v.getD b [])::prO keys v r:=rfl;rw[hpr];unfold gat
     cases decide (512<out.length)
     ·exact ih (j+1) f (out++(⟨1,keys.getD b 0#64,[]⟩::v.getD b [])) d2 (by simp at hf;omega) (by rw[Qc,Qa,Q8];omega)
     ·rfl
   have e5:=e4 o 0 rounds [⟨6,Qd 64 (keys.length:Int),[]⟩] rfl (by rw[Vaa];omega) (by simp);have e6:cbor_Map_L4 (v,keys,[⟨6,Qd 64 (keys.length:Int),[]⟩],ci o,((ci o).length:Int),0,())=some (gat [⟨6,Qd 64 (keys.length:Int),[]⟩] (prO keys v o),()):=by
    rw[Vp2];exact e5
   rw[e6];simp only[bindS];obtain⟨l1,l2⟩:=Vmx (keys:=keys) hv o;obtain⟨s1,s2⟩:=Vn9 (prO keys v o) [⟨6,Qd 64 (keys.length:Int),[]⟩];rw[Vjo _ (by rw[Qc,Qp]at s1;omega) (λx hx=>by
    rcases List.mem_append.1 (s2 x hx) with hx|hx
    ·simp at hx;subst hx;simp
    ·exact l2 x hx)]
   simp only[bindS];rw[Vwo,(Vk5 (prO keys v o) _).1,Q5];by_cases h1:valO (⟨6,Qd 64 (keys.length:Int),[]⟩::(prO keys v o).flatten)=0
   ·rw[h1];rfl
   ·rw[dF (valO (⟨6,Qd 64 (keys.length:Int),[]⟩::(prO keys v o).flatten)=0) h1];rfl
  ·rw[dF (fau v=0) h0];rfl
 ·rfl
theorem LA_ok{h g dd:Nat}(hg:h<=g)(hd:dd+1+h<=9):∀(os:List (List Ja)) (r:List Ja) (n:Nat),(∀o∈os,VT h o)->n+os.flatten.length<=512->LA (λs n=>W getL g s n (dd+1) false []) os.length (os.flatten++r) n=(0,os.flatten,r)
 |[],r,n,_,_=>rfl
 |o::os,r,n,H,hn=>by
  simp only[Qg,Qc]at hn;have h1:=H o (by simp) g n (dd+1) (os.flatten++r) [] hg (by omega) (by omega);have h2:=LA_ok hg hd os r (n+o.length) (λp hp=>H p (by simp[hp])) (by omega);simp only[Qa,LA,Qg,Qaa];rw[h1];simp only[Uk,Ui];rw[h2]
theorem Vzg{h k:Nat}{os:List (List Ja)}(hk:os.length=k)(hk3:k<=512)(H:∀o∈os,VT h o):VT (h+1) (⟨5,Qb 64 k,[]⟩::os.flatten):=by
 intro g n dd r b hg hn hd;obtain⟨g,rfl⟩:∃q,g=q+1:=⟨g-1,by omega⟩;simp only[Qa]at hn;have hkn:(Qb 64 k).toNat=k:=by rw[Qj,Qw (by omega)]
 have hc:chk ⟨5,Qb 64 k,[]⟩ n dd false b=0:=by
  unfold chk adm bad big acc;dsimp only;rw[hkn,show decide (512<=n)=false by simp;omega,show decide (8<dd)=false by simp;omega,show decide (512<k)=false by simp;omega];rfl
 have:=LA_ok (g:=g) (dd:=dd) (by omega) (by omega) os r (n+1) H (by omega);rw[hk]at this;unfold W;simp only[Qs,getL,hc,Uk,Ui,hkn,this]
theorem Vk7{n:Nat}(h:n<1000000):small n 24=true:=by
 unfold small;simp;omega
theorem Voc{l:List Ja}{r:List (List Ja)}(h:light1 (l::r)):(l.length<=600/\∀x∈l,x.data.length<100000)/\light1 r:=⟨h l (by simp),λq hq=>h q (by simp[hq])⟩
theorem Vic:∀ {v:List (List Ja)},light1 v->v.flatten.length<=v.length*600/\∀x∈v.flatten,x.data.length<100000
 |[],_=>by simp
 |l::r,h=>by
  obtain⟨h1,h2⟩:=Voc h;obtain⟨i1,i2⟩:=Vic h2;refine⟨?_,?_⟩
  ·simp only[Qg,Qc,Qa,Q8];omega
  ·intro x hx;simp only[Qg,List.mem_append]at hx;rcases hx with hx|hx
   ·exact h1.2 x hx
   ·exact i2 x hx
def arrO(v:List (List Ja)):List Ja×Int:=
 bif !decide (fau v=0) then ([],fau v) else
 bif decide (valO (⟨5,Qd 64 (v.length:Int),[]⟩::v.flatten)=0) then (⟨5,Qd 64 (v.length:Int),[]⟩::v.flatten,0) else ([],valO (⟨5,Qd 64 (v.length:Int),[]⟩::v.flatten))
theorem Vzh(v:List (List Ja))(hv:light1 v)(hl:v.length<=1000):Zit v=some ((),(arrO v).1,(arrO v).2,()):=by
 unfold Zit arrO;rw[Vmu v hv hl];simp only[bindS];by_cases h0:fau v=0
 ·rw[dT (fau v=0) h0];simp only[Qi,Uj];have key:∀(r:List (List Ja)) (j f:Nat) (o:List Ja),v.drop j=r->r.length<f->o.length<=j*600+1->iter (λ(y:((List (Ja))×(List (List Ja))×Int×Int×Unit))=>Zit_L0b y.1 y.2.1 y.2.2.1 y.2.2.2.1) f (o,v,(v.length:Int),(j:Int),())=some (gat o r,()):=by
   intro r;induction r with
   |nil=>
    intro j f o hr hf ho;obtain⟨f,rfl⟩:∃g,f=g+1:=⟨f-1,by omega⟩;have hjl:v.length<=j:=by
     have:=congrArg List.length hr;simp at this;omega
    rw[Vac];dsimp only;unfold Zit_L0b;rw[dF ((j:Int)<(v.length:Int)) (by omega)];rfl
   |cons l r ih=>
    intro j f o hr hf ho;obtain⟨f,rfl⟩:∃g,f=g+1:=⟨f-1,by omega⟩;obtain⟨d1,d2,d3,d4⟩:=Vcq hr;have hm:=hv l (Qh d1);have e1:Zit_L0b o v (v.length:Int) (j:Int)=bif decide (512<o.length) then some (Sum.inr (o,())) else some (Qab (o++l,v,(v.length:Int),((j+1:Nat):Int),())):=by
     unfold Zit_L0b;rw[dT ((j:Int)<(v.length:Int)) (by omega),Vdr d1,wI ((j:Int)+1) (by omega),show decide ((512:Int)<(o.length:Int))=decide (512<o.length) by rw[decide_eq_decide];omega];simp only[Ui,bindS];rw[Vga (by omega)];rfl
    rw[Vac];dsimp only;rw[e1];unfold gat
    cases decide (512<o.length)
    ·exact ih (j+1) f (o++l) d2 (by simp at hf;omega) (by rw[Qc,Q8];omega)
    ·rfl
  unfold Zit_L0 i4;have e:=key v 0 rounds [⟨5,Qd 64 (v.length:Int),[]⟩] rfl (by rw[Vaa];omega) (by simp);rw[show ((0:Nat):Int)=0 from rfl]at e;rw[e];simp only[bindS];obtain⟨l1,l2⟩:=Vic hv;obtain⟨s1,s2⟩:=Vn9 v [⟨5,Qd 64 (v.length:Int),[]⟩];have l3:v.length*600<=1000*600:=Nat.mul_le_mul_right _ hl;rw[Vjo _ (by rw[Qc,Qp]at s1;omega) (λx hx=>by
   rcases List.mem_append.1 (s2 x hx) with hx|hx
   ·simp at hx;subst hx;simp
   ·exact l2 x hx)]
  simp only[bindS];rw[Vwo,(Vk5 v _).1,Q5];by_cases h1:valO (⟨5,Qd 64 (v.length:Int),[]⟩::v.flatten)=0
  ·rw[h1];rfl
  ·rw[dF (valO (⟨5,Qd 64 (v.length:Int),[]⟩::v.flatten)=0) h1];rfl
 ·rw[dF (fau v=0) h0];rfl
theorem Vid{h:Nat}{o:List Ja}(H:VT h o)(hh:h<=9)(hl:o.length<=512):valO o=0:=by
 have hv:=H 12 0 0 [] [] (by omega) (by omega) (by omega);rw[List.append_nil]at hv;unfold valO;rw[(Vpw Vk3 12 (by omega) o).2 (by rw[hv]),hv];rfl
def keyI(n:Nat):Ja:=⟨1,Qb 64 n,[]⟩
theorem Vdya:∀a b:Fin 20,a<b->lss (enc (keyI a.val)) (enc (keyI b.val))=true:=by decide +kernel
theorem Vwr:∀a:Fin 20,bad (keyI a.val)=false/\big (keyI a.val)=false:=by decide +kernel
def upN:List Nat->Prop:=λns=>ns.Pairwise (· < ·)/\∀n∈ns,n<=19
theorem Vws:∀(ns:List Nat) (last:Ua),upN ns->(last=[]\/∃m,m<=19/\last=enc (keyI m)/\∀n∈ns,m<n)->keysOk last (ns.map keyI)
 |[],_,_,_=>trivial
 |n::ns,last,h,hl=>by
  have hn:=h.2 n (by simp);refine⟨rfl,?_,Vws ns (enc (keyI n)) ⟨(List.pairwise_cons.1 h.1).2,λm hm=>h.2 m (by simp[hm])⟩ (.inr ⟨n,hn,rfl,(List.pairwise_cons.1 h.1).1⟩)⟩;intro k d hk hd;refine Vwa (.inl rfl) (Vwr ⟨n,by omega⟩).1 (Vwr ⟨n,by omega⟩).2 (λh=>by cases h) ?_ hk hd;rcases hl with rfl|⟨m,hm,rfl,hm2⟩
  ·exact .inl rfl
  ·exact .inr (Vdya ⟨m,by omega⟩ ⟨n,by omega⟩ (hm2 n (by simp)))
def kN(ns:List Nat):List Ub:=ns.map (Qb 64)
theorem kk_kN{ns:List Nat}(h:upN ns){i:Nat}(hi:i<ns.length):kk (kN ns) i=ns[i]:=by
 unfold kk kN;have:=h.2 ns[i] (List.getElem_mem hi);rw[Qn,Q9,Qf hi];simp only[Option.map_some,Option.getD_some,Qj];omega
theorem Vbwa{ns:List Nat}(h:upN ns):asc (kN ns):=by
 intro i j hij hj;have hj:j<ns.length:=by simpa[kN]using hj
 rw[kk_kN h (by omega),kk_kN h hj];exact List.pairwise_iff_getElem.1 h.1 i j _ _ hij
theorem Vwt{keys:List Ub}:∀(o:List Nat),o.Pairwise (λa b=>kk keys a<kk keys b)->adj keys o=false
 |[],_=>rfl
 |[a],_=>rfl
 |a::b::r,h=>by
  unfold adj;have h1:=(List.pairwise_cons.1 h);have:=h1.1 b (by simp);rw[Vwt (b::r) h1.2,dF (kk keys a=kk keys b) (by omega)];rfl
theorem Vod:∀(v:List (List Ja)),(∀o∈v,valO o=0)->fau v=0
 |[],_=>rfl
 |l::r,h=>by
  unfold fau;rw[Um (h l (by simp))];exact Vod r λo ho=>h o (by simp[ho])
def pairI(ns:List Nat)(v:List (List Ja)):List Ja:=((ns.map keyI).zip v).flatMap λp=>p.1::p.2
def mapI(ns:List Nat)(v:List (List Ja)):List Ja:=⟨6,Qb 64 ns.length,[]⟩::pairI ns v
theorem Vdza{ns:List Nat}{v:List (List Ja)}(hl:ns.length=v.length):(prO (kN ns) v (Qk ns.length)).flatten=pairI ns v:=by
 unfold pairI prO;rw[List.flatMap_def];congr 1;apply List.ext_getElem
 ·simp[hl]
 ·intro i h1 h2;have hi:i<ns.length:=by simpa using h1
  simp[kN,keyI,Qn,Qf hi,Qf (show i<v.length by omega)]
theorem Vf8a{ns:List Nat}{v:List (List Ja)}{h:Nat}(hu:upN ns)(hk:ns.length<=12)(hl:ns.length=v.length)(h1:1<=h)(hh:h<=8)(hv:light1 v)(H:∀o∈v,VT h o)(hs:(mapI ns v).length<=512)(hs2:∀o∈v,o.length<=512) :
  cbor_Map (kN ns) v=some ((),mapI ns v,0,())/\VT (h+1) (mapI ns v):=by
 have hkl:(kN ns).length=ns.length:=by simp[kN]
 have hV:VT (h+1) (mapI ns v):=Vbqa (k:=ns.length) (by simp) (by simpa using hl) (by omega) h1 (Vws ns [] hu (.inl rfl)) H;refine⟨?_,hV⟩;rw[MapA (Vbwa hu) v (by omega) (by omega) hv,hkl];unfold mapO;have ha:adj (kN ns) (Qk ns.length)=false:=by
  apply Vwt;rw[List.pairwise_iff_getElem];intro i j hi hj hij;simp only[List.getElem_range];exact Vbwa hu i j hij (by simpa[kN]using hj)
 rw[ha,Vod v λo ho=>Vid (H o ho) (by omega) (hs2 o ho),Vdza hl,hkl,Qm];have:=Vid hV (by omega) hs;unfold mapI at this;rw[this];rfl
def bytesI(b:Ua):List Ja:=[⟨3,0#64,b⟩]
def textI(b:Ua):List Ja:=[⟨4,0#64,b⟩]
def uintI(n:Ub):List Ja:=[⟨1,n,[]⟩]
def boolI(b:Bool):List Ja:=[⟨7,bif b then 1#64 else 0#64,[]⟩]
theorem Vk8{b:Ua}(h:b.length<=1024):VT 1 (bytesI b):=
 Vdq (by dsimp only;decide) (by dsimp only;decide) λn d bb hn hd=>Vcb (by dsimp only;decide) (by dsimp only;decide) rfl (by unfold big;rw[dF (1024<b.length) (by omega)];rfl) (λh=>by cases h) hn hd
theorem Vd0a{b:Ua}(h:b.length<=1024)(hv:Lib.validD b=true):VT 1 (textI b):=
 Vdq (by dsimp only;decide) (by dsimp only;decide) λn d bb hn hd=>Vcb (by dsimp only;decide) (by dsimp only;decide) rfl (by unfold big;rw[dF (1024<b.length) (by omega)];rfl) (λ_=>hv) hn hd
theorem Vd1a(n:Ub):VT 1 (uintI n):=
 Vdq (by dsimp only;decide) (by dsimp only;decide) λk d bb hn hd=>Vcb (by dsimp only;decide) (by dsimp only;decide) rfl rfl (λh=>by cases h) hn hd
theorem Vd2a(b:Bool):VT 1 (boolI b):=by
 cases b
 ·exact Vdq (by dsimp only;decide) (by dsimp only;decide) λk d bb hn hd=>Vcb (by dsimp only;decide) (by dsimp only;decide) rfl rfl (λh=>by cases h) hn hd
 ·exact Vdq (by dsimp only;decide) (by dsimp only;decide) λk d bb hn hd=>Vcb (by dsimp only;decide) (by dsimp only;decide) rfl rfl (λh=>by cases h) hn hd
def arrI(v:List (List Ja)):List Ja:=⟨5,Qb 64 v.length,[]⟩::v.flatten
theorem Vzi{v:List (List Ja)}{h:Nat}(hk:v.length<=100)(h1:1<=h)(hh:h<=8)(hv:light1 v)(H:∀o∈v,VT h o)(hs:(arrI v).length<=512)(hs2:∀o∈v,o.length<=512) :
  Zih v=some ((),arrI v,())/\VT (h+1) (arrI v):=by
 have hV:VT (h+1) (arrI v):=Vzg rfl (by omega) H;refine⟨?_,hV⟩;unfold Zih;rw[Vzh v hv (by omega)];have:=Vid hV (by omega) hs;unfold arrI at this;unfold arrO;rw[Vod v λo ho=>Vid (H o ho) (by omega) (hs2 o ho),Qm,this];rfl
theorem Vp4{σ β α τ:Type}{f:σ->Option (σ⊕β)}(l:List α)(g:α->τ)(mk:Nat->List τ->σ)(b:β)(hl:l.length<9000000000000000000)
  (h:∀(i:Nat) (x:α),l[i]? = some x->f (mk i ((l.take i).map g))=some (.inl (mk (i+1) ((l.take i).map g++[g x]))))
  (he:f (mk l.length (l.map g))=some (.inr b)):iter f rounds (mk 0 [])=some b:=by
 obtain⟨t,h1,h2⟩:=Vef (f:=f) l (λ_ (t:List τ) x=>t++[g x]) mk (λ_=>b) (λi t=>t=(l.take i).map g) hl [] (by simp)
  (by
   rintro i t x rfl hx;refine⟨h i x hx,?_⟩;rw[Ql,hx];simp)
  (by
   rintro t rfl;rw[Q2];exact he)
 exact h2
theorem Vbxa(b:Ua):Ziu b=some ((),bytesI b,()):=rfl
theorem Vf9a(b:Ua):Ziy b=some ((),textI b,()):=rfl
theorem Vgaa(n:Ub):Ziz n=some ((),uintI n,()):=rfl
theorem Vgba(b:Bool):Zix b=some ((),boolI b,()):=by cases b<;>rfl
def certI(l:List Ua):List Ja:=arrI (l.map bytesI)
theorem Vmy{l:List Ua}(h:∀c∈l,c.length<=1024):light1 (l.map bytesI):=by
 intro o ho;obtain⟨c,hc,rfl⟩:=List.mem_map.1 ho;have:=h c hc;exact⟨by simp[bytesI],λx hx=>by simp[bytesI]at hx;subst hx;dsimp only;omega⟩
theorem flat1{α:Type}(g:α->List Ja)(k:Nat):∀(l:List α),(∀x∈l,(g x).length=k)->(l.map g).flatten.length=k*l.length
 |[],_=>by simp
 |x::l,h=>by
  rw[Qz,Qg,Qc,flat1 g k l λy hy=>h y (by simp[hy]),h x (by simp),Qa,Nat.mul_succ];omega
theorem Vfs(l:List Ua):(certI l).length=1+l.length:=by
 unfold certI arrI;rw[Qa,flat1 bytesI 1 l λx _=>rfl];omega
theorem Vjr{l:List Ua}(hl:l.length<=8)(h:∀c∈l,c.length<=1024):Zhm l=some ((),certI l,())/\VT 2 (certI l):=by
 obtain⟨a1,a2⟩:=Vzi (v:=l.map bytesI) (h:=1) (by simp;omega) (by omega) (by omega) (Vmy h)
  (by intro o ho;obtain⟨c,hc,rfl⟩:=List.mem_map.1 ho;exact Vk8 (h c hc)) (by have:=Vfs l;unfold certI at this;omega) (by intro o ho;obtain⟨c,hc,rfl⟩:=List.mem_map.1 ho;simp[bytesI])
 refine⟨?_,a2⟩;unfold Zhm Zhm_L0 i4;rw[show ((0:Int))=((0:Nat):Int) from rfl,Vp4 l bytesI (λi t=>(t,l,(l.length:Int),(i:Int),())) (l.map bytesI,()) (by omega)]
 ·simp only[bindS];rw[a1];rfl
 ·intro i x hx;have h1:=Va7 hx;simp only[Zhm_L0b,Vh9 hx,gIn hx,Vbxa,bindS,Ui,Vb0 (i:=i) (by omega)];rw[Vk7 (by simp;omega)];rfl
 ·simp[Zhm_L0b]
def selN:Nat->List Bool->List Nat
 |_,[]=>[]
 |i,b::bs=>bif b then i::selN (i+1) bs else selN (i+1) bs
def selV:List Bool->List (List Ja)->List (List Ja)
 |b::bs,v::vs=>bif b then v::selV bs vs else selV bs vs
 |_,_=>[]
theorem Vie(b:Bool):∀(l:List Bool) (i:Nat),selN i (l++[b])=selN i l++(bif b then [i+l.length] else [])
 |[],i=>by cases b<;>rfl
 |c::l,i=>by
  rw[Qs];unfold selN;rw[Vie b l (i+1),Qa,show i+1+l.length=i+(l.length+1) by omega];cases c<;>simp
theorem Vif(b:Bool)(v:List Ja):∀(l:List Bool) (vs:List (List Ja)),l.length=vs.length->selV (l++[b]) (vs++[v])=selV l vs++(bif b then [v] else [])
 |[],[],_=>by cases b<;>rfl
 |c::l,w::vs,h=>by
  rw[Qs,Qs];unfold selV;rw[Vif b v l vs (by simpa using h)];cases c<;>simp
theorem Ve6:∀(l:List Bool) (vs:List (List Ja)) (i:Nat),l.length=vs.length->(selN i l).length=(selV l vs).length
 |[],[],i,_=>rfl
 |c::l,w::vs,i,h=>by
  unfold selN selV;have:=Ve6 l vs (i+1) (by simpa using h);cases c<;>simp[this]
theorem Vcy:∀(l:List Bool) (vs:List (List Ja)),(selV l vs).flatten.length<=vs.flatten.length/\∀o∈selV l vs,o∈vs
 |[],_=>by unfold selV;simp
 |c::l,[]=>by unfold selV;simp
 |c::l,w::vs=>by
  obtain⟨h1,h2⟩:=Vcy l vs;unfold selV;cases c
  ·refine⟨by simp only[Uj,Qg,Qc];omega,λo ho=>?_⟩;exact Q7 _ (h2 o ho)
  ·refine⟨by simp only[Ui,Qg,Qc];omega,λo ho=>?_⟩;simp only[Ui,Qac]at ho;rcases ho with rfl|ho
   ·simp
   ·exact Q7 _ (h2 o ho)
theorem Ve7:∀(l:List Bool) (i:Nat),(selN i l).Pairwise (· < ·)/\(∀n∈selN i l,i<=n/\n<i+l.length)/\(selN i l).length<=l.length
 |[],i=>by unfold selN;simp
 |c::l,i=>by
  obtain⟨h1,h2,h3⟩:=Ve7 l (i+1);unfold selN;cases c
  ·refine⟨h1,λn hn=>?_,by simp only[Uj,Qa];omega⟩;have:=h2 n hn;rw[Qa];omega
  ·refine⟨?_,λn hn=>?_,by simp only[Ui,Qa];omega⟩
   ·simp only[Ui,List.pairwise_cons];exact⟨λn hn=>by have:=h2 n hn;omega,h1⟩
   ·simp only[Ui,Qac]at hn;rcases hn with rfl|hn
    ·rw[Qa];omega
    ·have:=h2 n hn;rw[Qa];omega
theorem Vig:∀(ns:List Nat) (v:List (List Ja)),ns.length=v.length->(pairI ns v).length=ns.length+v.flatten.length
 |[],[],_=>rfl
 |n::ns,o::v,h=>by
  have:=Vig ns v (by simpa using h);unfold pairI at *;simp only[Qz,Q1,List.flatMap_cons,Qc,Qa,Qg];omega
def chosI(us:List Bool)(vs:List (List Ja)):List Ja:=mapI (selN 1 us) (selV us vs)
structure Fit(us:List Bool)(vs:List (List Ja)):Prop where
 n:us.length=19
 l:us.length=vs.length
 v:∀o∈vs,VT 3 o
 f:vs.flatten.length<=400
 d:∀o∈vs,o.length<=400/\∀x∈o,x.data.length<100000
 c:(selN 1 us).length<=12
theorem Fit.up{us:List Bool}{vs:List (List Ja)}(h:Fit us vs):upN (selN 1 us):=by
 obtain⟨h1,h2,h3⟩:=Ve7 us 1;exact⟨h1,λn hn=>by have:=h2 n hn;have:=h.n;omega⟩
theorem Fit.len{us:List Bool}{vs:List (List Ja)}(h:Fit us vs):(chosI us vs).length<=450:=by
 unfold chosI mapI;rw[Qa,Vig _ _ (Ve6 us vs 1 h.l)];have:=(Ve7 us 1).2.2;have:=(Vcy us vs).1;have:=h.n;have:=h.f;omega
theorem Fit.map{us:List Bool}{vs:List (List Ja)}(h:Fit us vs):cbor_Map (kN (selN 1 us)) (selV us vs)=some ((),chosI us vs,0,())/\VT 4 (chosI us vs):=by
 have h3:=(Ve7 us 1).2.2;have h4:=h.len;refine Vf8a h.up h.c (Ve6 us vs 1 h.l) (by omega) (by omega) ?_ ?_ (by unfold chosI at h4;omega) ?_
 ·intro o ho;have:=h.d o ((Vcy us vs).2 o ho);exact⟨by omega,this.2⟩
 ·intro o ho;exact h.v o ((Vcy us vs).2 o ho)
 ·intro o ho;have:=h.d o ((Vcy us vs).2 o ho);omega
theorem Fit.data{us:List Bool}{vs:List (List Ja)}(h:Fit us vs):∀x∈chosI us vs,x.data.length<100000:=by
 intro x hx;unfold chosI mapI pairI at hx;rcases List.mem_cons.1 hx with rfl|hx
 ·show ([]:Ua).length<100000;decide
 ·obtain⟨p,hp,hx⟩:=List.mem_flatMap.1 hx;obtain⟨hp1,hp2⟩:=List.of_mem_zip hp;rcases List.mem_cons.1 hx with rfl|hx
  ·obtain⟨n,_,hn⟩:=List.mem_map.1 hp1;rw[<-hn];show ([]:Ua).length<100000;decide
  ·exact (h.d _ ((Vcy us vs).2 _ hp2)).2 x hx
theorem Fit.enc{us:List Bool}{vs:List (List Ja)}(h:Fit us vs):encO (chosI us vs)=(encA (chosI us vs),0)/\valO (chosI us vs)=0:=by
 have hv:valO (chosI us vs)=0:=Vid h.map.2 (by omega) (by have:=h.len;omega);refine⟨?_,hv⟩;unfold encO;rw[hv];rfl
theorem Vk9:∀(l:List Ja),(∀x∈l,x.data.length<100000)->(encA l).length<=100009*l.length
 |[],_=>by simp[encA]
 |x::l,h=>by
  have h1:=Vk9 l λy hy=>h y (by simp[hy]);have h2:=h x (by simp);have h3:=(Ve5 x).2;rw[Vdb,Qc,Qa];unfold enc;rw[Qc];omega
theorem Vgca(t:BitVec 32)(k:Nat):decide ((t>>>k)&&&1#32=1#32)=t.getLsbD k:=by
 cases h:t.getLsbD k
 ·apply Un;intro e;have:=congrArg (λb:BitVec 32=>b.getLsbD 0) e;simp[h]at this
 ·apply Um;apply BitVec.eq_of_getLsbD_eq;intro i hi;cases i with
  |zero=>simp[h]
  |succ i=>simp
theorem Vwu{us:List Bool}{vs:List (List Ja)}(h:Fit us vs)(first:UInt8){t:BitVec 32}(ht:∀k,t.getLsbD k=(decide (1<=k)&&us.getD (k-1) false)) :
  message_encode first t vs=some ((),first::encA (chosI us vs),0,()):=by
 have h17:=h.n;have hl:=h.l;have e0 : message_encode_L0 (first, t, [], [], vs, (vs.length : Int), 0, ())=some (first, kN (selN 1 us), selV us vs, ()) := by
  unfold message_encode_L0 i7;obtain⟨q,h1,h2⟩:=Vef (f:=λ(y:(UInt8×(BitVec 32)×(List Ub)×(List (List Ja))×(List (List Ja))×Int×Int×Unit))=>message_encode_L0b y.1 y.2.1 y.2.2.1 y.2.2.2.1 y.2.2.2.2.1 y.2.2.2.2.2.1 y.2.2.2.2.2.2.1) vs
   (λi (q:List Ub×List (List Ja)) x=>bif us.getD i false then (q.1++[Qb 64 (i+1)],q.2++[x]) else q)
   (λi q=>(first,t,q.1,q.2,vs,(vs.length:Int),(i:Int),())) (λq=>(first,q.1,q.2,()))
   (λi q=>q=(kN (selN 1 (us.take i)),selV (us.take i) (vs.take i))) (by omega) ([],[]) (by simp[selN,selV,kN])
   (by
    rintro i q x rfl hx;have h1:=Va7 hx;have hu:us[i]? = some (us.getD i false):=by
     rw[Qn,Qf (show i<us.length by omega)];rfl
    have hti:(us.take i).length=i:=by rw[Qr];omega
    have htv:(vs.take i).length=i:=by rw[Qr];omega
    have hsn:=(Ve7 (us.take i) 1).2.2;have hsl:=Ve6 (us.take i) (vs.take i) 1 (by omega);refine⟨?_,?_⟩
    ·simp only[message_encode_L0b,Vh9 hx,gIn hx,bindS,Ui,Vb0 (i:=i) (by omega)];rw[dT ((0:Int)<=((i+1:Nat):Int)) (Int.natCast_nonneg _),Qe,Vgca,ht (i+1),dT (1<=i+1) (by omega),Nat.add_sub_cancel,Qad];simp only[Ui];cases us.getD i false
     ·rfl
     ·simp only[Ui];rw[show small ((kN (selN 1 (us.take i))).length+([Qd 64 ((i+1:Nat):Int)]:List Ub).length) 8=true by unfold small kN;simp;omega,Vk7 (by simp;omega),Qm];rfl
    ·rw[Ql,Ql,hx,hu,Qu,Qu,Vie,Vif _ _ _ _ (by omega),hti];unfold kN;cases us.getD i false
     ·simp
     ·simp[Q3])
   (by
    rintro q rfl;simp[message_encode_L0b])
  have e1:us.take vs.length=us:=Qx (by omega);rw[Q2,e1]at h1;rw[h1]at h2;exact h2
 unfold message_encode;rw[e0];simp only[bindS];rw[h.map.1];simp only[bindS,Uk,Qi,Uj];rw[Vv8 _ (by have:=h.len;omega) h.data,h.enc.1];simp only[bindS,Uk,Qi,Uj];have hlen:=Vk9 _ h.data;have:=h.len;rw[Vcx (by simp only[Qa,Qt];omega)];rfl
theorem Vbya{α:Type}{l:List α}{i:Nat}(d:α)(h:i<l.length):l[i]? = some (l.getD i d):=by
 rw[Qn,Qf h];rfl
def fld(us:List Bool)(vs:List (List Ja)):List (List Ja):=List.zipWith (λb v=>bif b then v else []) us vs
theorem Vwv{α:Type}[DecidableEq α](l:List α):decide ((0:Int)<(l.length:Int)) = !decide (l=[]):=by
 rw[<-Vdxa,Bool.not_not]
def sm(n:Int):Prop:=0<=n/\n<=255
theorem Vrf(n:Nat)(o:List Ja):∀(ns:List Nat) (v:List (List Ja)),ns.length=v.length->pairI (ns++[n]) (v++[o])=pairI ns v++(keyI n::o):=by
 intro ns v h;unfold pairI;rw[List.map_append,List.zip_append (by simpa using h),List.flatMap_append];simp
theorem Vrg{us:List Bool}{vs:List (List Ja)}(h:Fit us vs)(hne:∀o∈vs,o≠[]):passkeyref14_encode ([]::fld us vs)=some ((),encA (chosI us vs),()):=by
 have h17:=h.n;have hl:=h.l;have hfl:(fld us vs).length=19:=by unfold fld;rw[List.length_zipWith];omega
 have e0 : passkeyref14_encode_L0 ([]::fld us vs, [⟨6, 0#64, []⟩], (1 : Int), ())=some (chosI us vs, ()) := by
  unfold passkeyref14_encode_L0 i3;obtain⟨q,h1,h2⟩:=Vef (f:=λ(y:((List (List Ja))×(List (Ja))×Int×Unit))=>passkeyref14_encode_L0b y.1 y.2.1 y.2.2.1) (fld us vs)
   (λi (q:List Ja) x=>chosI (us.take (i+1)) (vs.take (i+1)))
   (λi q=>([]::fld us vs,q,((i+1:Nat):Int),())) (λq=>(q,()))
   (λi q=>q=chosI (us.take i) (vs.take i)) (by omega) [⟨6,0#64,[]⟩] rfl
   (by
    rintro i q x rfl hx;have h1:=Va7 hx;rw[hfl]at h1;refine⟨?_,rfl⟩;have hu:us[i]? = some (us.getD i false):=Vbya false (by omega);have hv:vs[i]? = some (vs.getD i []):=Vbya [] (by omega);have hx2:x=bif us.getD i false then vs.getD i [] else []:=by
     unfold fld at hx;rw[List.getElem?_zipWith,hu,hv]at hx;exact (Option.some.inj hx).symm
    have hti:(us.take i).length=i:=by rw[Qr];omega
    have htv:(vs.take i).length=i:=by rw[Qr];omega
    have hsn:=(Ve7 (us.take i) 1).2.2;have hsl:=Ve6 (us.take i) (vs.take i) 1 (by omega);have hg:getI ([]::fld us vs) ((i+1:Nat):Int)=some x:=gIn (by rw[List.getElem?_cons_succ];exact hx);have hmem:vs.getD i []∈vs:=Qh hv;have hfull:(pairI (selN 1 (us.take i)) (selV (us.take i) (vs.take i))).length<=450:=by
     rw[Vig _ _ hsl];have a1:=(Vcy (us.take i) (vs.take i)).1;have a2:(vs.take i).flatten.length<=vs.flatten.length:=by
      conv=>rhs;rw[<-Q4 i vs,List.flatten_append,Qc]
      omega
     have:=h.f;omega
    have ec:chosI (us.take (i+1)) (vs.take (i+1))=bif us.getD i false then ⟨6,Qb 64 ((selN 1 (us.take i)).length+1),[]⟩::(pairI (selN 1 (us.take i)) (selV (us.take i) (vs.take i))++(keyI (i+1)::vs.getD i [])) else chosI (us.take i) (vs.take i):=by
     unfold chosI mapI;rw[Ql,Ql,hu,hv,Qu,Qu,Vie,Vif _ _ _ _ (by omega),hti];cases us.getD i false
     ·simp
     ·simp only[Ui];rw[Vrf _ _ _ _ hsl,Qc,Q3 1 i];rfl
    simp only;rw[ec];unfold passkeyref14_encode_L0b;rw[hg,dT (((i+1:Nat):Int)<(([]::fld us vs).length:Int)) (by rw[Qa,hfl];omega)];simp only[bindS,Ui,Vb0 (i:=i+1) (by omega)];subst hx2;cases us.getD i false
    ·rfl
    ·simp only[Ui];have hpos:decide ((0:Int)<((vs.getD i []).length:Int))=true:=by
      rw[Vwv,Un (hne _ hmem)];rfl
     have hd:=(h.d _ hmem).1;rw[hpos];unfold chosI mapI;rw[dT ((0:Int)<(((⟨6,Qb 64 (selN 1 (us.take i)).length,[]⟩::pairI (selN 1 (us.take i)) (selV (us.take i) (vs.take i)):List Ja)).length:Int)) (by rw[Qa];omega)];simp only[Ui,List.getElem?_cons_zero,bindS,List.set_cons_zero,Zde,Qm];rw[Vga (by simp only[Qa,Qt];omega)];simp only[Ui];rw[Vga (by simp only[Qc,Qa,Qt];omega)];simp only[Ui,Qs,Qaa,List.nil_append];rw[show Qb 64 (selN 1 (us.take i)).length+1#64=Qb 64 ((selN 1 (us.take i)).length+1) by rw[BitVec.ofNat_add]];rfl)
   (by
    rintro q rfl;unfold passkeyref14_encode_L0b;rw[dF ((((fld us vs).length+1:Nat):Int)<(([]::fld us vs).length:Int)) (by rw[Qa];omega)];rfl)
  rw[h1,hfl,Qx (by omega),Qx (by omega)]at h2;exact h2
 unfold passkeyref14_encode;dsimp only;rw[e0];simp only[bindS];rw[Vjm _ (by have:=h.len;omega) h.data,h.enc.1];rfl
theorem sm_of{n:Int}(h:smallI n=true):sm n:=by
 unfold smallI at h;rw[Bool.and_eq_true]at h;exact⟨Uo h.1,Uo h.2⟩
def PV(o:List Ja):Prop:=VT 3 o/\(o.length<=400/\∀x∈o,x.data.length<100000)/\o≠[]
theorem Vp5{x:Ja}(h:VT 1 [x])(hx:x.data.length<100000):PV [x]:=by
 refine⟨Vv9 (by omega) h,⟨by rw[Qp];omega,λy hy=>?_⟩,by intro hh;cases hh⟩;rw[List.mem_singleton]at hy;rw[hy];exact hx
theorem PV_b{b:Ua}(h:b.length<=1024):PV (bytesI b):=Vp5 (Vk8 h) (by dsimp only;omega)
theorem PV_t{b:Ua}(h:b.length<=1024)(hv:Lib.validD b=true):PV (textI b):=Vp5 (Vd0a h hv) (by dsimp only;omega)
theorem PV_u(n:Ub):PV (uintI n):=Vp5 (Vd1a n) (by show ([]:Ua).length<100000;decide)
theorem PV_o(b:Bool):PV (boolI b):=Vp5 (Vd2a b) (by show ([]:Ua).length<100000;decide)
theorem Vbza:∀(ns:List Nat) (v:List (List Ja)),ns.length=v.length->(∀o∈v,valO o=0)->PairsAt ns.length (pairI ns v) [] ((ns.map keyI).zip v)
 |[],[],_,_=>PairsAt.nil []
 |n::ns,o::v,h,hv=>by
  have ho:=hv o (by simp);have ih:=Vbza ns v (by simpa using h) λq hq=>hv q (by simp[hq]);exact PairsAt.cons (x:=keyI n) rfl (λm=>Vwq ho _ m) (Vwm ho) ih
theorem Vd3a{ns:List Nat}{v:List (List Ja)}(hl:ns.length=v.length)(hn:ns.length<=512)(hv:∀o∈v,valO o=0)(h0:valO (mapI ns v)=0)(hlen:(mapI ns v).length<1000000)(hd:∀x∈mapI ns v,x.data.length<100000)(key:Ub) :
  Ziq (mapI ns v) key=some ((),(lkP key ((ns.map keyI).zip v)).1,(lkP key ((ns.map keyI).zip v)).2,()):=by
 unfold Ziq;rw[Vdp _ hlen hd,h0];simp only[bindS,Uk,Qi,Uj];have eg:getI (mapI ns v) (0:Int)=some ⟨6,Qb 64 ns.length,[]⟩:=rfl;rw[eg];simp only[bindS,Uk,Qi,Uj];have e1:(Qb 64 ns.length).toNat=ns.length:=by rw[Qj];omega
 obtain⟨z,z1,z2⟩:=Vzd (mapI ns v) hlen key (Qb 64 ns.length) (by omega) ns.length 0 1 rounds (pairI ns v) _ (Vbza ns v hl hv) (by omega) rfl (by unfold mapI;rw[Qa];omega) (by rw[Vaa];omega);have z1':Ziq_L0 (mapI ns v,key,1,Qb 64 ns.length,0#64,())=some z:=z1;rw[z1'];exact z2
theorem Vb0a(k:Nat)(hk:k<=19):∀(us:List Bool) (vs:List (List Ja)) (i:Nat),us.length=vs.length->i+us.length<=20 ->
  lkP (Qb 64 k) (((selN i us).map keyI).zip (selV us vs))=bif Qv i k&&us.getD (k-i) false then (vs.getD (k-i) [],true) else ([],false)
 |[],[],i,_,_=>by simp[selN,selV,lkP]
 |b::us,v::vs,i,h,hi=>by
  rw[Qa]at hi;have ih:=Vb0a k hk us vs (i+1) (by simpa using h) (by omega);unfold selN selV;by_cases hik:i=k
  ·subst hik;have hn:Qv (i+1) i=false:=by
    cases h:Qv (i+1) i
    ·rfl
    ·have:=Qy h;omega
   cases b
   ·simp only[Uj];rw[ih,hn,Nat.sub_self];simp
   ·simp only[Ui,Qz,Q1];unfold lkP;have hii:Qv i i=true:=Qq (Nat.le_refl i);simp[keyI,hii]
  ·have hne:decide (Qb 64 i=Qb 64 k)=false:=by
    apply Un;intro e;have:=congrArg BitVec.toNat e;rw[Qj,Qj,Qw (by omega),Qw (by omega)]at this;exact hik this
   have hrec:(bif Qv i k&&(b::us).getD (k-i) false then ((v::vs).getD (k-i) [],true) else ([],false))=(bif Qv (i+1) k&&us.getD (k-(i+1)) false then (vs.getD (k-(i+1)) [],true) else ([],false)):=by
    by_cases hlt:i<k
    ·obtain⟨d,hd⟩:∃d,k-i=d+1:=⟨k-i-1,by omega⟩;rw[show k-(i+1)=d by omega,hd,Qq (show i<=k by omega),Qq (show i+1<=k by omega)];rfl
    ·have h1:Qv i k=false:=by
      cases h:Qv i k
      ·rfl
      ·have:=Qy h;omega
     have h2:Qv (i+1) k=false:=by
      cases h:Qv (i+1) k
      ·rfl
      ·have:=Qy h;omega
     rw[h1,h2];rfl
   rw[hrec,<-ih];cases b
   ·rfl
   ·simp only[Ui,Qz,Q1];conv=>lhs;unfold lkP
    show (bif decide ((1:Int)=1)&&decide (Qb 64 i=Qb 64 k) then _ else _)=_;rw[hne];simp
structure Look(us:List Bool)(vs:List (List Ja)):Prop where
 n:us.length<=19
 l:us.length=vs.length
 v:∀o∈vs,valO o=0
 z:valO (chosI us vs)=0
 f:(chosI us vs).length<1000000
 d:∀x∈chosI us vs,x.data.length<100000
theorem look_ok{us:List Bool}{vs:List (List Ja)}(h:Look us vs)(k:Nat)(h1:1<=k)(hk:k<=19) :
  Ziq (chosI us vs) (Qb 64 k)=some ((),(bif us.getD (k-1) false then vs.getD (k-1) [] else []),us.getD (k-1) false,()):=by
 have hs:=(Ve7 us 1).2.2;have hn:=h.n;have e:=Vd3a (Ve6 us vs 1 h.l) (by omega) (λo ho=>h.v o ((Vcy us vs).2 o ho)) h.z h.f h.d (Qb 64 k);unfold chosI;rw[e,Vb0a k hk us vs 1 h.l (by omega),Qq h1,Qad];cases us.getD (k-1) false<;>rfl
def zI:Ja:=⟨0,0#64,[]⟩
def itO(us:List Bool)(vs:List (List Ja))(k:Nat):Ja:=bif us.getD (k-1) false then (vs.getD (k-1) []).headD zI else zI
theorem Vih{us:List Bool}{vs:List (List Ja)}(h:Look us vs)(k:Nat)(h1:1<=k)(hk:k<=19):Zcs (chosI us vs) (Qb 64 k)=some ((),itO us vs k,()):=by
 unfold Zcs itO;rw[look_ok h k h1 hk];simp only[bindS];cases us.getD (k-1) false
 ·rfl
 ·simp only[Qi,Uj,Ui];cases vs.getD (k-1) []with
  |nil=>rfl
  |cons x r=>
   rw[dF (((x::r).length:Int)=0) (by rw[Qa];omega),dT ((0:Int)<((x::r).length:Int)) (by rw[Qa];omega)];rfl
theorem Vgda(os:List (List Ja))(hv:∀o∈os,valO o=0)(hl:os.length<=100)(hf:(arrI os).length<1000000):Zas_L0 (arrI os,[],(1:Int),())=some (os,()):=by
 unfold Zas_L0 i3;obtain⟨t,h1,h2⟩:=Vef (f:=λ(y:((List (Ja))×(List (List Ja))×Int×Unit))=>Zas_L0b y.1 y.2.1 y.2.2.1) os (λi (t:Unit) _=>t)
  (λi _=>(arrI os,os.take i,((1+(os.take i).flatten.length:Nat):Int),())) (λ_=>(os,())) (λ_ _=>True) (by omega) () trivial
  (by
   rintro i t x _ hx;refine⟨?_,trivial⟩;have hi:=Va7 hx;have hsp:os=os.take i++x::os.drop (i+1):=by
    obtain⟨hlt,rfl⟩:=List.getElem?_eq_some_iff.1 hx;rw[<-List.drop_eq_getElem_cons hlt,Q4]
   have hfl:os.flatten=(os.take i).flatten++(x++(os.drop (i+1)).flatten):=by
    conv=>lhs;rw[hsp]
    simp
   have hdrop:(arrI os).drop (1+(os.take i).flatten.length)=x++(os.drop (i+1)).flatten:=by
    unfold arrI;rw[Q3 1,List.drop_succ_cons,hfl,List.drop_left]
   have hx0:=hv x (Qh hx);have hxn:=Vwm hx0;have hx1:0<x.length:=List.length_pos_iff.2 hxn;have hlen:(arrI os).length=1+(os.take i).flatten.length+x.length+(os.drop (i+1)).flatten.length:=by
    unfold arrI;rw[Qa,hfl,Qc,Qc];omega
   have hsk:=Vbua (a:=1+(os.take i).flatten.length) hdrop (λm=>Vwq hx0 _ m) hxn;have htk:os.take (i+1)=os.take i++[x]:=by rw[Ql,hx];rfl
   have htl:(os.take (i+1)).flatten.length=(os.take i).flatten.length+x.length:=by rw[htk];simp
   generalize hp:1+(os.take i).flatten.length=p at *;simp only;unfold Zas_L0b;rw[dT ((p:Int)<((arrI os).length:Int)) (by omega),Vwl _ _ hf,hsk];simp only[bindS,Ui,Qi,Uj];rw[dF (((p+x.length:Nat):Int)<=(p:Int)) (by omega),dF (((arrI os).length:Int)<((p+x.length:Nat):Int)) (by omega),dT ((0:Int)<=((p+x.length:Nat):Int)) (by omega),dT (((p+x.length:Nat):Int)<=((arrI os).length:Int)) (by omega),Qe,dT ((0:Int)<=(p:Int)) (by omega),dT ((p:Int)<=((p+x.length:Nat):Int)) (by omega),Qe,Vp1 hdrop];simp only[Bool.and_true,Ui,Uj];rw[Vk7 (by rw[Qr,Qp];omega)];rw[htl,htk,show 1+((os.take i).flatten.length+x.length)=p+x.length by omega];rfl)
  (by
   rintro t _;simp only;unfold Zas_L0b;rw[Q2,dF (((1+os.flatten.length:Nat):Int)<((arrI os).length:Int)) (by unfold arrI;rw[Qa];omega)];rfl)
 exact h2
theorem rdB{us:List Bool}{vs:List (List Ja)}(h:Look us vs)(k:Nat)(h1:1<=k)(hk:k<=19):Zcc (chosI us vs) (Qb 64 k)=some ((),(itO us vs k).data,()):=by
 unfold Zcc;rw[Vih h k h1 hk];rfl
theorem rdT{us:List Bool}{vs:List (List Ja)}(h:Look us vs)(k:Nat)(h1:1<=k)(hk:k<=19):Zcu (chosI us vs) (Qb 64 k)=some ((),(itO us vs k).data,()):=by
 unfold Zcu;rw[Vih h k h1 hk];rfl
theorem rdN{us:List Bool}{vs:List (List Ja)}(h:Look us vs)(k:Nat)(h1:1<=k)(hk:k<=19):Zbq (chosI us vs) (Qb 64 k)=some ((),Q0 .i64 ((itO us vs k).number.toNat:Int),()):=by
 unfold Zbq;rw[Vih h k h1 hk];rfl
theorem rdW{us:List Bool}{vs:List (List Ja)}(h:Look us vs)(k:Nat)(h1:1<=k)(hk:k<=19):Zcv (chosI us vs) (Qb 64 k)=some ((),(itO us vs k).number,()):=by
 unfold Zcv;rw[Vih h k h1 hk];rfl
theorem rdF{us:List Bool}{vs:List (List Ja)}(h:Look us vs)(k:Nat)(h1:1<=k)(hk:k<=19):Zcr (chosI us vs) (Qb 64 k)=some ((),decide ((itO us vs k).number=1#64),()):=by
 unfold Zcr;rw[Vih h k h1 hk];rfl
theorem bsel(l:Ua)(k:Int):(bif decide ((0:Int)<(l.length:Int)) then (⟨k,0#64,l⟩:Ja) else zI).data=l:=by
 rw[Vwv];cases l<;>rfl
theorem tsel(l:Ua)(k:Int):(bif !decide (l=([]:Ua)) then (⟨k,0#64,l⟩:Ja) else zI).data=l:=by
 cases l<;>rfl
theorem Vgea{n:Int}(h:sm n):Q0 .i64 (((Qd 64 n).toNat:Nat):Int)=n:=by
 obtain⟨k,rfl⟩:∃k:Nat,n=(k:Int):=⟨n.toNat,by have:=h.1;omega⟩;have h2:=h.2;rw[Qm,Qj,Qw (by omega),Va1 (by omega) (by omega)]
theorem nsel{n:Int}(h:sm n):Q0 .i64 (((bif !decide (n=(0:Int)) then (⟨1,Qd 64 n,[]⟩:Ja) else zI).number.toNat:Nat):Int)=n:=by
 by_cases h0:n=0
 ·subst h0;rfl
 ·rw[Un h0];exact Vgea h
theorem psel(w:Ub):(bif !decide (w=0#64) then (⟨1,w,[]⟩:Ja) else zI).number=w:=by
 by_cases h0:w=0#64
 ·subst h0;rfl
 ·rw[Un h0];rfl
theorem fsel(b:Bool):decide ((bif b then (⟨7,bif b then 1#64 else 0#64,[]⟩:Ja) else zI).number=1#64)=b:=by cases b<;>rfl
theorem Vgfa{α β:Type}{l:List α}{g:α->β}{i:Nat}{x:α}(h:l[i]? = some x):(l.map g)[i]? = some (g x):=by rw[Q9,h];rfl
theorem Vd4a{σ β τ:Type}{f:σ->Option (σ⊕β)}(n0:Nat)(mk:Nat->τ->σ)(out:τ->β)(P:Nat->τ->Prop)(hn:n0<9000000000000000000)(t0:τ)(h0:P 0 t0)
  (h:∀i t,i<n0->P i t->∃t',f (mk i t)=some (.inl (mk (i+1) t'))/\P (i+1) t')
  (he:∀t,P n0 t->f (mk n0 t)=some (.inr (out t))):∃t',P n0 t'/\iter f rounds (mk 0 t0)=some (out t'):=by
 have go:∀(k n j:Nat) (t:τ),P j t->j+k=n0->k<n->∃t',P n0 t'/\iter f n (mk j t)=some (out t'):=by
  intro k;induction k with
  |zero=>
   intro n j t hp hj hn;obtain⟨n,rfl⟩:∃g,n=g+1:=⟨n-1,by omega⟩;have:j=n0:=by omega
   subst this;exact⟨t,hp,by rw[Vac,he t hp];rfl⟩
  |succ k ih=>
   intro n j t hp hj hn;obtain⟨n,rfl⟩:∃g,n=g+1:=⟨n-1,by omega⟩;obtain⟨t1,e,hp2⟩:=h j t (by omega) hp;obtain⟨t',h1,h2⟩:=ih n (j+1) t1 hp2 (by omega) (by omega);exact⟨t',h1,by rw[Vac,e];exact h2⟩
 exact go n0 rounds 0 t0 h0 (by omega) (by rw[Vaa];omega)
theorem Vgga{n:Nat}{m:Nat}(h:n<m):decide ((n:Int)<(m:Int))=true:=Um (by omega)
theorem Vgha(n:Nat):decide ((n:Int)<(n:Int))=false:=Un (by omega)
end Go.Proofs.YtnfhkhlbdgbkjaaGreatDoor

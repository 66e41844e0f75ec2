/- Out of the texts of other seats: what the laws of requests need. Written by a program. -/
import Derived.Test.YtnfhkhlbdgbkjaaGreatDoorMbB
set_option linter.unusedVariables false
set_option linter.unusedSimpArgs false
set_option maxRecDepth 100000
namespace Go.Proofs.YtnfhkhlbdgbkjaaGreatDoor
open Go Go.Abs
open _root_.BitVec renaming ofNat → Qa, ofInt → Qe, toNat_ofNat → Qj, ofInt_natCast → Qk, eq_of_toNat_eq → Q3, toNat_add → Qak
open _root_.List renaming length_cons → Qb, length_append → Qc, getElem?_eq_getElem → Qf, length_singleton → Qg, flatten_cons → Qi, take_add_one → Ql, mem_of_getElem? → Qm, length_take → Qn, range → Qo, mem_cons_of_mem → Qp, getD_eq_getElem?_getD → Qq, replicate → Qt, cons_append → Qv, length_nil → Qw, take_length → Qz, not_mem_nil → Q0, length_drop → Q1, take_of_length_le → Q2, map_cons → Q6, zip_cons_cons → Q7, map_append → Q9, drop_drop → Qab, take_append_drop → Qaf, singleton_append → Qag, length_replicate → Qah, mem_singleton → Qaj, getElem?_map → Qam, append_assoc → Qan, getElem_mem → Qap, drop → Qaq, mem_cons → Qas
open _root_.Int renaming toNat_natCast → Qd
open _root_.Bool renaming not_true → Qh, and_eq_true → Q8, true_and → Qac, false_and → Qar, and_true → Qat
open _root_.Nat renaming mod_eq_of_lt → Qr, ble_eq_true_of_le → Qu, ble → Qy, le_of_ble_eq_true → Q4, add_comm → Qae, add_mul → Qai
open Go.IntKind renaming wrap → Qs
open _root_.Option renaming toList_some → Qx, map_some → Qal
open _root_.Option.some renaming inj → Q5
open _root_.Sum renaming inl → Qaa, elim_inl → Qad, inr → Qao
def asc(keys:List Ub):Prop:=∀i j,i<j->j<keys.length->kk keys i<kk keys j
abbrev rg(n:Nat):List Int:=ci (Qo n)
theorem Vcua(n:Nat):(rg n).length=n:=by simp
theorem rg_at{n i:Nat}(h:i<n):(rg n)[i]? = some (i:Int):=by
 refine Vqo ?_;rw[List.getElem?_range h]
theorem up_ok{keys:List Ub}(h:asc keys){i j:Nat}(hij:i<j)(hj:j<keys.length):Zja (j:Int) (i:Int) keys=some ((),1,()):=by
 rw[Vesa keys j i hj (by omega)];unfold cmpI;have:=h i j hij hj;rw[dF (kk keys j<kk keys i) (by omega),Um this];rfl
theorem Vhaa{keys:List Ub}(h:asc keys){n:Nat}(hn:keys.length=n)(h31:n<=31){i:Nat}(h0:1<=i)(hi:i<n):Zab_L2 (rg n,0,(n:Int),(keys,()),(i:Int),(i:Int),())=some (rg n,0,(n:Int),(keys,()),(i:Int),()):=by
 unfold Zab_L2 Yi6;rw[Vaa,show (1180591620717411303424:Nat)=1180591620717411303423+1 from rfl,Vac];dsimp only;unfold Zab_L2b;rw[Vcua,dT ((0:Int)<(i:Int)) (by omega),Vj1 (show (0:Int)<=(i:Int) by omega) (show (i:Int)<(n:Int) by omega),wI ((i:Int)-1) (by omega),show (i:Int)-1=((i-1:Nat):Int) by omega,Vj1 (show (0:Int)<=((i-1:Nat):Int) by omega) (show ((i-1:Nat):Int)<(n:Int) by omega),Qd,Qd,rg_at hi,rg_at (show i-1<n by omega)];simp only[Ui,bindS];rw[up_ok h (show i-1<i by omega) (by omega)];rfl
theorem insA{keys:List Ub}(h:asc keys){n:Nat}(hn:keys.length=n)(h31:n<=31):Zab (rg n) 0 (n:Int) (keys,())=some ((rg n,()),()):=by
 unfold Zab Zab_L0 Yi5;rw[show Qs .i64 ((0:Int)+1)=((0+1:Nat):Int) from rfl,Vru (Qt (n-1) ()) (λ(t:Unit) _=>t) (λi t=>(rg n,0,(n:Int),(keys,()),((i+1:Nat):Int),())) (λ_=>(rg n,())) (by simp;omega) ()]
 ·rfl
 ·intro i t x hx;have h1:=Va9 hx;rw[Qah]at h1;simp only[Zab_L0b];rw[dT (((i+1:Nat):Int)<(n:Int)) (by omega),Vhaa h hn h31 (by omega) (by omega)];simp only[Ui,bindS,Vbk (i:=i+1) (by omega)]
 ·intro t;simp only[Zab_L0b,Qah];rw[dF (((n-1+1:Nat):Int)<(n:Int)) (by omega)];rfl
theorem sortA{keys:List Ub}(h:asc keys){n:Nat}(hn:keys.length=n)(h12:n<=12):Zbe (rg n) (keys,())=some ((rg n,()),()):=by
 unfold Zbe;obtain⟨k,hk⟩:=Veta n h12;rw[Vcua,hk];simp only[bindS];unfold Zal Zal_L0 Yi7;rw[Vaa,show (1180591620717411303424:Nat)=1180591620717411303423+1 from rfl,Vac];dsimp only;unfold Zal_L0b;rw[wI ((n:Int)-0) (by omega)];rw[dT ((n:Int)-0<=12) (by omega),insA h hn (by omega)];rfl
theorem MapA{keys:List Ub}(h:asc keys)(v:List (List Ja))(hk:keys.length<=12)(hl:keys.length=v.length)(hv:light1 v):cbor_Map keys v=some ((),(mapO keys v (Qo keys.length)).1,(mapO keys v (Qo keys.length)).2,()):=by
 unfold cbor_Map;rw[dT ((keys.length:Int)=(v.length:Int)) (by omega),show (decide ((0:Int)<=(keys.length:Int))&&(decide ((keys.length:Int)<=(keys.length:Int))&&decide ((8:Int)*(keys.length:Int)<=281474976710656/\(keys.length:Int)<=9223372036854775807)))=true by simp;omega];simp only[Qh,Uj,Ui,Qd]
 -- the indices
 have e0:cbor_Map_L0 (v,keys,Qt keys.length (0:Int),(keys.length:Int),0,())=some (v,keys,ci (Qo keys.length),()):=by
  obtain⟨z,h1,h2⟩:Ok (cbor_Map_L0 (v,keys,Qt keys.length (0:Int),(keys.length:Int),0,())) λz=>z=(v,keys,ci (Qo keys.length),()):=by
   unfold cbor_Map_L0 Yi5;refine Ok.iter (λq=>q.1=v/\q.2.1=keys/\q.2.2.2.1=(keys.length:Int)/\∃i:Nat,i<=keys.length/\q.2.2.2.2.1=(i:Int)/\q.2.2.1=ci (Qo i)++Qt (keys.length-i) 0) (λq=>(keys.length-q.2.2.2.2.1).toNat) ⟨rfl,rfl,rfl,0,by omega,rfl,by simp⟩ (by rw[Vaa];dsimp only;omega) ?_;rintro⟨q0,q1,q2,q3,q4,u⟩ ⟨e1,e2,e3,i,hi,e4,e5⟩;dsimp only at *;subst e1;subst e2;subst e3;subst e4;subst e5;simp only[cbor_Map_L0b];by_cases h:i<q1.length
   ·have hlen:(ci (Qo i)++Qt (q1.length-i) (0:Int)).length=q1.length:=by simp;omega
    rw[hlen,Vj1 (by omega) (show (i:Int)<(q1.length:Int) by omega),dT ((i:Int)<(q1.length:Int)) (by omega),Qd,Qf (show i<(ci (Qo i)++Qt (q1.length-i) (0:Int)).length by omega),wI ((i:Int)+1) (by omega)];simp only[Ui,bindS];refine Ok.some ?_;dsimp only;refine⟨⟨rfl,rfl,rfl,i+1,by omega,rfl,?_⟩,by omega⟩;rw[List.set_append_right _ _ (by simp),show q1.length-i=(q1.length-(i+1))+1 by omega,List.replicate_succ,List.range_succ];simp[ci]
   ·rw[dF ((i:Int)<(q1.length:Int)) (by omega)];have:i=q1.length:=by omega
    subst this;refine Ok.some ?_;simp
  rw[h1,h2]
 rw[e0];simp only[bindS];have hs1:=sortA h rfl hk;rw[hs1];simp only[bindS];unfold rg;generalize hgo:Qo keys.length=o;have hol:o.length=keys.length:=by rw[<-hgo,List.length_range]
 have hor:∀i∈o,i<keys.length:=λi hi=>by rw[<-hgo]at hi;exact List.mem_range.1 hi
 -- duplicates
 have e2:∀(r:List Nat) (a:Nat) (j f:Nat),o.drop j=a::r->r.length<f->iter (λ(y:((List (List Ja))×(List Ub)×(List (Int))×Int×Unit))=>cbor_Map_L2b y.1 y.2.1 y.2.2.1 y.2.2.2.1) f (v,keys,ci o,((j+1:Nat):Int),())=some (bif adj keys (a::r) then .inl ([],10,()) else .inr (v,keys,ci o,())):=by
  intro r;induction r with
  |nil=>
   intro a j f hr hf;obtain⟨f,rfl⟩:∃g,f=g+1:=⟨f-1,by omega⟩;obtain⟨d1,d2,d3,d4⟩:=Vbz hr;rw[Vac];dsimp only;unfold cbor_Map_L2b;rw[Vqn,dF (((j+1:Nat):Int)<(o.length:Int)) (by simp at d4;omega)];rfl
  |cons b r ih=>
   intro a j f hr hf;obtain⟨f,rfl⟩:∃g,f=g+1:=⟨f-1,by omega⟩;obtain⟨d1,d2,d3,d4⟩:=Vbz hr;obtain⟨b1,b2,b3,b4⟩:=Vbz d2;have ha:=hor a (Qm d1);have hb:=hor b (Qm b1);have e1:cbor_Map_L2b v keys (ci o) ((j+1:Nat):Int)=bif decide (kk keys a=kk keys b) then some (Qao (Qaa ([],10,()))) else some (Qaa (v,keys,ci o,((j+1+1:Nat):Int),())):=by
    unfold cbor_Map_L2b;rw[Vqn,wI (((j+1:Nat):Int)-1) (by omega),show ((j+1:Nat):Int)-1=(j:Int) by omega,Vj1 (by omega) (show (j:Int)<(o.length:Int) by omega),Vj1 (by omega) (show ((j+1:Nat):Int)<(o.length:Int) by omega),dT (((j+1:Nat):Int)<(o.length:Int)) (by omega),Qd,Qd,Vqo d1,Vqo b1,wI (((j+1:Nat):Int)+1) (by omega)];simp only[Ui,bindS];rw[Vnd ha,Vnd hb];simp only[bindS];rw[Vg9a];rfl
   rw[Vac];dsimp only;rw[e1];unfold adj;cases hq:decide (kk keys a=kk keys b)
   ·simp only[Uj,bindS,Qad,Bool.false_or];exact ih b (j+1) f d2 (by simp at hf;omega)
   ·rfl
 have e3:cbor_Map_L2 (v,keys,ci o,1,())=some (bif adj keys o then .inl ([],10,()) else .inr (v,keys,ci o,())):=by
  unfold cbor_Map_L2 Yi4;cases ho:o with
  |nil=>
   rw[Vaa,show (1180591620717411303424:Nat)=1180591620717411303423+1 from rfl,Vac];rfl
  |cons a r=>
   have:=e2 r a 0 rounds (by rw[ho];rfl) (by rw[Vaa];rw[ho]at hol;simp at hol;omega);rw[ho]at this;exact this
 rw[e3];unfold mapO;cases hadj:adj keys o
 ·simp only[Uj,bindS,Sum.elim_inr];rw[Vnb v hv (by omega)];simp only[bindS];by_cases h0:fau v=0
  ·rw[dT (fau v=0) h0];simp only[Qh,Uj]
   -- the collecting
   have e4 : ∀(r : List Nat) (j f : Nat) (out : List Ja), o.drop j=r->r.length<f->out.length<=j*601+1->iter (λ(y : ((List (List Ja))×(List Ub)×(List (Ja))×(List (Int))×Int×Int×Unit)) => cbor_Map_L4b y.1 y.2.1 y.2.2.1 y.2.2.2.1 y.2.2.2.2.1 y.2.2.2.2.2.1) f (v, keys, out, ci o, (o.length : Int), (j : Int), ())=some (gat out (prO keys v r), ()) := by
    intro r;induction r with
    |nil=>
     intro j f out hr hf ho;obtain⟨f,rfl⟩:∃g,f=g+1:=⟨f-1,by omega⟩;have hjl:o.length<=j:=by
      have:=congrArg List.length hr;simp at this;omega
     rw[Vac];dsimp only;unfold cbor_Map_L4b;rw[dF ((j:Int)<(o.length:Int)) (by omega)];rfl
    |cons b r ih=>
     intro j f out hr hf ho;obtain⟨f,rfl⟩:∃g,f=g+1:=⟨f-1,by omega⟩;obtain⟨d1,d2,d3,d4⟩:=Vbz hr;have hb:=hor b (Qm d1);obtain⟨l1,_⟩:=Vj3 hv b;have e1:cbor_Map_L4b v keys out (ci o) (o.length:Int) (j:Int)=bif decide (512<out.length) then some (Qao (out,())) else some (Qaa (v,keys,out++(⟨1,keys.getD b 0#64,[]⟩::v.getD b []),ci o,(o.length:Int),((j+1:Nat):Int),())):=by
      unfold cbor_Map_L4b;rw[Vqn,Vj1 (by omega) (show (j:Int)<(o.length:Int) by omega),dT ((j:Int)<(o.length:Int)) (by omega),Qd,Vqo d1,wI ((j:Int)+1) (by omega)];simp only[Ui,bindS];rw[show decide ((512:Int)<(out.length:Int))=decide (512<out.length) by rw[decide_eq_decide];omega];cases decide (512<out.length)
      ·simp only[Uj];rw[Vnd hb];simp only[bindS,Zje];rw[Veh (by simp only[Qb,Qw];omega),Vaea (show b<v.length by omega)];simp only[Ui,bindS];rw[Veh (by simp only[Qc,Qb,Qw];omega)];simp
      ·rfl
     rw[Vac];dsimp only;rw[e1];have hpr:prO keys v (b::r)=(⟨1,keys.getD b 0#64,[]⟩::v.getD b [])::prO keys v r:=rfl;rw[hpr];unfold gat
     cases decide (512<out.length)
     ·exact ih (j+1) f (out++(⟨1,keys.getD b 0#64,[]⟩::v.getD b [])) d2 (by simp at hf;omega) (by rw[Qc,Qb,Qai];omega)
     ·rfl
   have e5:=e4 o 0 rounds [⟨6,Qe 64 (keys.length:Int),[]⟩] rfl (by rw[Vaa];omega) (by simp);have e6:cbor_Map_L4 (v,keys,[⟨6,Qe 64 (keys.length:Int),[]⟩],ci o,((ci o).length:Int),0,())=some (gat [⟨6,Qe 64 (keys.length:Int),[]⟩] (prO keys v o),()):=by
    rw[Vqn];exact e5
   rw[e6];simp only[bindS];obtain⟨l1,l2⟩:=Vne (keys:=keys) hv o;obtain⟨s1,s2⟩:=Vov (prO keys v o) [⟨6,Qe 64 (keys.length:Int),[]⟩];rw[Vj2 _ (by rw[Qc,Qg]at s1;omega) (λx hx=>by
    rcases List.mem_append.1 (s2 x hx) with hx|hx
    ·simp at hx;subst hx;simp
    ·exact l2 x hx)]
   simp only[bindS];rw[Vxc,(Vll (prO keys v o) _).1,Qag];by_cases h1:valO (⟨6,Qe 64 (keys.length:Int),[]⟩::(prO keys v o).flatten)=0
   ·rw[h1];rfl
   ·rw[dF (valO (⟨6,Qe 64 (keys.length:Int),[]⟩::(prO keys v o).flatten)=0) h1];rfl
  ·rw[dF (fau v=0) h0];rfl
 ·rfl
theorem LA_ok{h g dd:Nat}(hg:h<=g)(hd:dd+1+h<=9):∀(os:List (List Ja)) (r:List Ja) (n:Nat),(∀o∈os,VT h o)->n+os.flatten.length<=512->LA (λs n=>W getL g s n (dd+1) false []) os.length (os.flatten++r) n=(0,os.flatten,r)
 |[],r,n,_,_=>rfl
 |o::os,r,n,H,hn=>by
  simp only[Qi,Qc]at hn;have h1:=H o (by simp) g n (dd+1) (os.flatten++r) [] hg (by omega) (by omega);have h2:=LA_ok hg hd os r (n+o.length) (λp hp=>H p (by simp[hp])) (by omega);simp only[Qb,LA,Qi,Qan];rw[h1];simp only[Uk,Ui];rw[h2]
theorem Vafa{h k:Nat}{os:List (List Ja)}(hk:os.length=k)(hk3:k<=512)(H:∀o∈os,VT h o):VT (h+1) (⟨5,Qa 64 k,[]⟩::os.flatten):=by
 intro g n dd r b hg hn hd;obtain⟨g,rfl⟩:∃q,g=q+1:=⟨g-1,by omega⟩;simp only[Qb]at hn;have hkn:(Qa 64 k).toNat=k:=by rw[Qj,Qr (by omega)]
 have hc:chk ⟨5,Qa 64 k,[]⟩ n dd false b=0:=by
  unfold chk adm bad big acc;dsimp only;rw[hkn,show decide (512<=n)=false by simp;omega,show decide (8<dd)=false by simp;omega,show decide (512<k)=false by simp;omega];rfl
 have:=LA_ok (g:=g) (dd:=dd) (by omega) (by omega) os r (n+1) H (by omega);rw[hk]at this;unfold W;simp only[Qv,getL,hc,Uk,Ui,hkn,this]
theorem Vfd{n:Nat}(h:n<1000000):small n 24=true:=by
 unfold small;simp;omega
theorem Vox{l:List Ja}{r:List (List Ja)}(h:light1 (l::r)):(l.length<=600/\∀x∈l,x.data.length<100000)/\light1 r:=⟨h l (by simp),λq hq=>h q (by simp[hq])⟩
theorem Vio:∀ {v:List (List Ja)},light1 v->v.flatten.length<=v.length*600/\∀x∈v.flatten,x.data.length<100000
 |[],_=>by simp
 |l::r,h=>by
  obtain⟨h1,h2⟩:=Vox h;obtain⟨i1,i2⟩:=Vio h2;refine⟨?_,?_⟩
  ·simp only[Qi,Qc,Qb,Qai];omega
  ·intro x hx;simp only[Qi,List.mem_append]at hx;rcases hx with hx|hx
   ·exact h1.2 x hx
   ·exact i2 x hx
def arrO(v:List (List Ja)):List Ja×Int:=
 bif !decide (fau v=0) then ([],fau v) else
 bif decide (valO (⟨5,Qe 64 (v.length:Int),[]⟩::v.flatten)=0) then (⟨5,Qe 64 (v.length:Int),[]⟩::v.flatten,0) else ([],valO (⟨5,Qe 64 (v.length:Int),[]⟩::v.flatten))
theorem Vaga(v:List (List Ja))(hv:light1 v)(hl:v.length<=1000):Ziy v=some ((),(arrO v).1,(arrO v).2,()):=by
 unfold Ziy arrO;rw[Vnb v hv hl];simp only[bindS];by_cases h0:fau v=0
 ·rw[dT (fau v=0) h0];simp only[Qh,Uj];have key:∀(r:List (List Ja)) (j f:Nat) (o:List Ja),v.drop j=r->r.length<f->o.length<=j*600+1->iter (λ(y:((List (Ja))×(List (List Ja))×Int×Int×Unit))=>Ziy_L0b y.1 y.2.1 y.2.2.1 y.2.2.2.1) f (o,v,(v.length:Int),(j:Int),())=some (gat o r,()):=by
   intro r;induction r with
   |nil=>
    intro j f o hr hf ho;obtain⟨f,rfl⟩:∃g,f=g+1:=⟨f-1,by omega⟩;have hjl:v.length<=j:=by
     have:=congrArg List.length hr;simp at this;omega
    rw[Vac];dsimp only;unfold Ziy_L0b;rw[dF ((j:Int)<(v.length:Int)) (by omega)];rfl
   |cons l r ih=>
    intro j f o hr hf ho;obtain⟨f,rfl⟩:∃g,f=g+1:=⟨f-1,by omega⟩;obtain⟨d1,d2,d3,d4⟩:=Vbz hr;have hm:=hv l (Qm d1);have e1:Ziy_L0b o v (v.length:Int) (j:Int)=bif decide (512<o.length) then some (Qao (o,())) else some (Qaa (o++l,v,(v.length:Int),((j+1:Nat):Int),())):=by
     unfold Ziy_L0b;rw[dT ((j:Int)<(v.length:Int)) (by omega),Vby d1,wI ((j:Int)+1) (by omega),show decide ((512:Int)<(o.length:Int))=decide (512<o.length) by rw[decide_eq_decide];omega];simp only[Ui,bindS];rw[Veh (by omega)];rfl
    rw[Vac];dsimp only;rw[e1];unfold gat
    cases decide (512<o.length)
    ·exact ih (j+1) f (o++l) d2 (by simp at hf;omega) (by rw[Qc,Qai];omega)
    ·rfl
  unfold Ziy_L0 Yi4;have e:=key v 0 rounds [⟨5,Qe 64 (v.length:Int),[]⟩] rfl (by rw[Vaa];omega) (by simp);rw[show ((0:Nat):Int)=0 from rfl]at e;rw[e];simp only[bindS];obtain⟨l1,l2⟩:=Vio hv;obtain⟨s1,s2⟩:=Vov v [⟨5,Qe 64 (v.length:Int),[]⟩];have l3:v.length*600<=1000*600:=Nat.mul_le_mul_right _ hl;rw[Vj2 _ (by rw[Qc,Qg]at s1;omega) (λx hx=>by
   rcases List.mem_append.1 (s2 x hx) with hx|hx
   ·simp at hx;subst hx;simp
   ·exact l2 x hx)]
  simp only[bindS];rw[Vxc,(Vll v _).1,Qag];by_cases h1:valO (⟨5,Qe 64 (v.length:Int),[]⟩::v.flatten)=0
  ·rw[h1];rfl
  ·rw[dF (valO (⟨5,Qe 64 (v.length:Int),[]⟩::v.flatten)=0) h1];rfl
 ·rw[dF (fau v=0) h0];rfl
theorem Vip{h:Nat}{o:List Ja}(H:VT h o)(hh:h<=9)(hl:o.length<=512):valO o=0:=by
 have hv:=H 12 0 0 [] [] (by omega) (by omega) (by omega);rw[List.append_nil]at hv;unfold valO;rw[(Vm7 Vli 12 (by omega) o).2 (by rw[hv]),hv];rfl
def keyI(n:Nat):Ja:=⟨1,Qa 64 n,[]⟩
theorem Vewa:∀a b:Fin 20,a<b->lss (enc (keyI a.val)) (enc (keyI b.val))=true:=by decide +kernel
theorem Vxf:∀a:Fin 20,bad (keyI a.val)=false/\big (keyI a.val)=false:=by decide +kernel
def upN:List Nat->Prop:=λns=>ns.Pairwise (· < ·)/\∀n∈ns,n<=19
theorem Vxg:∀(ns:List Nat) (last:Ua),upN ns->(last=[]\/∃m,m<=19/\last=enc (keyI m)/\∀n∈ns,m<n)->keysOk last (ns.map keyI)
 |[],_,_,_=>trivial
 |n::ns,last,h,hl=>by
  have hn:=h.2 n (by simp);refine⟨rfl,?_,Vxg ns (enc (keyI n)) ⟨(List.pairwise_cons.1 h.1).2,λm hm=>h.2 m (by simp[hm])⟩ (.inr ⟨n,hn,rfl,(List.pairwise_cons.1 h.1).1⟩)⟩;intro k d hk hd;refine Vwu (.inl rfl) (Vxf ⟨n,by omega⟩).1 (Vxf ⟨n,by omega⟩).2 (λh=>by cases h) ?_ hk hd;rcases hl with rfl|⟨m,hm,rfl,hm2⟩
  ·exact .inl rfl
  ·exact .inr (Vewa ⟨m,by omega⟩ ⟨n,by omega⟩ (hm2 n (by simp)))
def kN(ns:List Nat):List Ub:=ns.map (Qa 64)
theorem kk_kN{ns:List Nat}(h:upN ns){i:Nat}(hi:i<ns.length):kk (kN ns) i=ns[i]:=by
 unfold kk kN;have:=h.2 ns[i] (Qap hi);rw[Qq,Qam,Qf hi];simp only[Qal,Option.getD_some,Qj];omega
theorem Vcva{ns:List Nat}(h:upN ns):asc (kN ns):=by
 intro i j hij hj;have hj:j<ns.length:=by simpa[kN]using hj
 rw[kk_kN h (by omega),kk_kN h hj];exact List.pairwise_iff_getElem.1 h.1 i j _ _ hij
theorem Vxh{keys:List Ub}:∀(o:List Nat),o.Pairwise (λa b=>kk keys a<kk keys b)->adj keys o=false
 |[],_=>rfl
 |[a],_=>rfl
 |a::b::r,h=>by
  unfold adj;have h1:=(List.pairwise_cons.1 h);have:=h1.1 b (by simp);rw[Vxh (b::r) h1.2,dF (kk keys a=kk keys b) (by omega)];rfl
theorem Voy:∀(v:List (List Ja)),(∀o∈v,valO o=0)->fau v=0
 |[],_=>rfl
 |l::r,h=>by
  unfold fau;rw[Um (h l (by simp))];exact Voy r λo ho=>h o (by simp[ho])
def pairI(ns:List Nat)(v:List (List Ja)):List Ja:=((ns.map keyI).zip v).flatMap λp=>p.1::p.2
def mapI(ns:List Nat)(v:List (List Ja)):List Ja:=⟨6,Qa 64 ns.length,[]⟩::pairI ns v
theorem Vexa{ns:List Nat}{v:List (List Ja)}(hl:ns.length=v.length):(prO (kN ns) v (Qo ns.length)).flatten=pairI ns v:=by
 unfold pairI prO;rw[List.flatMap_def];congr 1;apply List.ext_getElem
 ·simp[hl]
 ·intro i h1 h2;have hi:i<ns.length:=by simpa using h1
  simp[kN,keyI,Qq,Qf hi,Qf (show i<v.length by omega)]
theorem Vhba{ns:List Nat}{v:List (List Ja)}{h:Nat}(hu:upN ns)(hk:ns.length<=12)(hl:ns.length=v.length)(h1:1<=h)(hh:h<=8)(hv:light1 v)(H:∀o∈v,VT h o)(hs:(mapI ns v).length<=512)(hs2:∀o∈v,o.length<=512) :
  cbor_Map (kN ns) v=some ((),mapI ns v,0,())/\VT (h+1) (mapI ns v):=by
 have hkl:(kN ns).length=ns.length:=by simp[kN]
 have hV:VT (h+1) (mapI ns v):=Vcpa (k:=ns.length) (by simp) (by simpa using hl) (by omega) h1 (Vxg ns [] hu (.inl rfl)) H;refine⟨?_,hV⟩;rw[MapA (Vcva hu) v (by omega) (by omega) hv,hkl];unfold mapO;have ha:adj (kN ns) (Qo ns.length)=false:=by
  apply Vxh;rw[List.pairwise_iff_getElem];intro i j hi hj hij;simp only[List.getElem_range];exact Vcva hu i j hij (by simpa[kN]using hj)
 rw[ha,Voy v λo ho=>Vip (H o ho) (by omega) (hs2 o ho),Vexa hl,hkl,Qk];have:=Vip hV (by omega) hs;unfold mapI at this;rw[this];rfl
def bytesI(b:Ua):List Ja:=[⟨3,0#64,b⟩]
def textI(b:Ua):List Ja:=[⟨4,0#64,b⟩]
def uintI(n:Ub):List Ja:=[⟨1,n,[]⟩]
def boolI(b:Bool):List Ja:=[⟨7,bif b then 1#64 else 0#64,[]⟩]
theorem Vlo{b:Ua}(h:b.length<=1024):VT 1 (bytesI b):=
 Vdt (by dsimp only;decide) (by dsimp only;decide) λn d bb hn hd=>Vch (by dsimp only;decide) (by dsimp only;decide) rfl (by unfold big;rw[dF (1024<b.length) (by omega)];rfl) (λh=>by cases h) hn hd
theorem Veya{b:Ua}(h:b.length<=1024)(hv:Lib.validD b=true):VT 1 (textI b):=
 Vdt (by dsimp only;decide) (by dsimp only;decide) λn d bb hn hd=>Vch (by dsimp only;decide) (by dsimp only;decide) rfl (by unfold big;rw[dF (1024<b.length) (by omega)];rfl) (λ_=>hv) hn hd
theorem Veza(n:Ub):VT 1 (uintI n):=
 Vdt (by dsimp only;decide) (by dsimp only;decide) λk d bb hn hd=>Vch (by dsimp only;decide) (by dsimp only;decide) rfl rfl (λh=>by cases h) hn hd
theorem Ve0a(b:Bool):VT 1 (boolI b):=by
 cases b
 ·exact Vdt (by dsimp only;decide) (by dsimp only;decide) λk d bb hn hd=>Vch (by dsimp only;decide) (by dsimp only;decide) rfl rfl (λh=>by cases h) hn hd
 ·exact Vdt (by dsimp only;decide) (by dsimp only;decide) λk d bb hn hd=>Vch (by dsimp only;decide) (by dsimp only;decide) rfl rfl (λh=>by cases h) hn hd
def arrI(v:List (List Ja)):List Ja:=⟨5,Qa 64 v.length,[]⟩::v.flatten
theorem Vaha{v:List (List Ja)}{h:Nat}(hk:v.length<=100)(h1:1<=h)(hh:h<=8)(hv:light1 v)(H:∀o∈v,VT h o)(hs:(arrI v).length<=512)(hs2:∀o∈v,o.length<=512) :
  Zim v=some ((),arrI v,())/\VT (h+1) (arrI v):=by
 have hV:VT (h+1) (arrI v):=Vafa rfl (by omega) H;refine⟨?_,hV⟩;unfold Zim;rw[Vaga v hv (by omega)];have:=Vip hV (by omega) hs;unfold arrI at this;unfold arrO;rw[Voy v λo ho=>Vip (H o ho) (by omega) (hs2 o ho),Qk,this];rfl
theorem Vqp{σ β α τ:Type}{f:σ->Option (σ⊕β)}(l:List α)(g:α->τ)(mk:Nat->List τ->σ)(b:β)(hl:l.length<9000000000000000000)
  (h:∀(i:Nat) (x:α),l[i]? = some x->f (mk i ((l.take i).map g))=some (.inl (mk (i+1) ((l.take i).map g++[g x]))))
  (he:f (mk l.length (l.map g))=some (.inr b)):iter f rounds (mk 0 [])=some b:=by
 obtain⟨t,h1,h2⟩:=Vej (f:=f) l (λ_ (t:List τ) x=>t++[g x]) mk (λ_=>b) (λi t=>t=(l.take i).map g) hl [] (by simp)
  (by
   rintro i t x rfl hx;refine⟨h i x hx,?_⟩;rw[Ql,hx];simp)
  (by
   rintro t rfl;rw[Qz];exact he)
 exact h2
theorem Vcwa(b:Ua):Ziz b=some ((),bytesI b,()):=rfl
theorem Vhca(b:Ua):Zjd b=some ((),textI b,()):=rfl
theorem Vhda(n:Ub):Zje n=some ((),uintI n,()):=rfl
theorem Vhea(b:Bool):Zjc b=some ((),boolI b,()):=by cases b<;>rfl
def certI(l:List Ua):List Ja:=arrI (l.map bytesI)
theorem Vnf{l:List Ua}(h:∀c∈l,c.length<=1024):light1 (l.map bytesI):=by
 intro o ho;obtain⟨c,hc,rfl⟩:=List.mem_map.1 ho;have:=h c hc;exact⟨by simp[bytesI],λx hx=>by simp[bytesI]at hx;subst hx;dsimp only;omega⟩
theorem flat1{α:Type}(g:α->List Ja)(k:Nat):∀(l:List α),(∀x∈l,(g x).length=k)->(l.map g).flatten.length=k*l.length
 |[],_=>by simp
 |x::l,h=>by
  rw[Q6,Qi,Qc,flat1 g k l λy hy=>h y (by simp[hy]),h x (by simp),Qb,Nat.mul_succ];omega
theorem Vf1(l:List Ua):(certI l).length=1+l.length:=by
 unfold certI arrI;rw[Qb,flat1 bytesI 1 l λx _=>rfl];omega
theorem Vj5{l:List Ua}(hl:l.length<=8)(h:∀c∈l,c.length<=1024):Zhr l=some ((),certI l,())/\VT 2 (certI l):=by
 obtain⟨a1,a2⟩:=Vaha (v:=l.map bytesI) (h:=1) (by simp;omega) (by omega) (by omega) (Vnf h)
  (by intro o ho;obtain⟨c,hc,rfl⟩:=List.mem_map.1 ho;exact Vlo (h c hc)) (by have:=Vf1 l;unfold certI at this;omega) (by intro o ho;obtain⟨c,hc,rfl⟩:=List.mem_map.1 ho;simp[bytesI])
 refine⟨?_,a2⟩;unfold Zhr Zhr_L0 Yi4;rw[show ((0:Int))=((0:Nat):Int) from rfl,Vqp l bytesI (λi t=>(t,l,(l.length:Int),(i:Int),())) (l.map bytesI,()) (by omega)]
 ·simp only[bindS];rw[a1];rfl
 ·intro i x hx;have h1:=Va9 hx;simp only[Zhr_L0b,Vil hx,gIn hx,Vcwa,bindS,Ui,Vbk (i:=i) (by omega)];rw[Vfd (by simp;omega)];rfl
 ·simp[Zhr_L0b]
def selN:Nat->List Bool->List Nat
 |_,[]=>[]
 |i,b::bs=>bif b then i::selN (i+1) bs else selN (i+1) bs
def selV:List Bool->List (List Ja)->List (List Ja)
 |b::bs,v::vs=>bif b then v::selV bs vs else selV bs vs
 |_,_=>[]
theorem Viq(b:Bool):∀(l:List Bool) (i:Nat),selN i (l++[b])=selN i l++(bif b then [i+l.length] else [])
 |[],i=>by cases b<;>rfl
 |c::l,i=>by
  rw[Qv];unfold selN;rw[Viq b l (i+1),Qb,show i+1+l.length=i+(l.length+1) by omega];cases c<;>simp
theorem Vir(b:Bool)(v:List Ja):∀(l:List Bool) (vs:List (List Ja)),l.length=vs.length->selV (l++[b]) (vs++[v])=selV l vs++(bif b then [v] else [])
 |[],[],_=>by cases b<;>rfl
 |c::l,w::vs,h=>by
  rw[Qv,Qv];unfold selV;rw[Vir b v l vs (by simpa using h)];cases c<;>simp
theorem Vgk:∀(l:List Bool) (vs:List (List Ja)) (i:Nat),l.length=vs.length->(selN i l).length=(selV l vs).length
 |[],[],i,_=>rfl
 |c::l,w::vs,i,h=>by
  unfold selN selV;have:=Vgk l vs (i+1) (by simpa using h);cases c<;>simp[this]
theorem Vc3:∀(l:List Bool) (vs:List (List Ja)),(selV l vs).flatten.length<=vs.flatten.length/\∀o∈selV l vs,o∈vs
 |[],_=>by unfold selV;simp
 |c::l,[]=>by unfold selV;simp
 |c::l,w::vs=>by
  obtain⟨h1,h2⟩:=Vc3 l vs;unfold selV;cases c
  ·refine⟨by simp only[Uj,Qi,Qc];omega,λo ho=>?_⟩;exact Qp _ (h2 o ho)
  ·refine⟨by simp only[Ui,Qi,Qc];omega,λo ho=>?_⟩;simp only[Ui,Qas]at ho;rcases ho with rfl|ho
   ·simp
   ·exact Qp _ (h2 o ho)
theorem Vfe:∀(l:List Bool) (i:Nat),(selN i l).Pairwise (· < ·)/\(∀n∈selN i l,i<=n/\n<i+l.length)/\(selN i l).length<=l.length
 |[],i=>by unfold selN;simp
 |c::l,i=>by
  obtain⟨h1,h2,h3⟩:=Vfe l (i+1);unfold selN;cases c
  ·refine⟨h1,λn hn=>?_,by simp only[Uj,Qb];omega⟩;have:=h2 n hn;rw[Qb];omega
  ·refine⟨?_,λn hn=>?_,by simp only[Ui,Qb];omega⟩
   ·simp only[Ui,List.pairwise_cons];exact⟨λn hn=>by have:=h2 n hn;omega,h1⟩
   ·simp only[Ui,Qas]at hn;rcases hn with rfl|hn
    ·rw[Qb];omega
    ·have:=h2 n hn;rw[Qb];omega
theorem Vis:∀(ns:List Nat) (v:List (List Ja)),ns.length=v.length->(pairI ns v).length=ns.length+v.flatten.length
 |[],[],_=>rfl
 |n::ns,o::v,h=>by
  have:=Vis ns v (by simpa using h);unfold pairI at *;simp only[Q6,Q7,List.flatMap_cons,Qc,Qb,Qi];omega
def chosI(us:List Bool)(vs:List (List Ja)):List Ja:=mapI (selN 1 us) (selV us vs)
structure Fit(us:List Bool)(vs:List (List Ja)):Prop where
 n:us.length=19
 l:us.length=vs.length
 v:∀o∈vs,VT 3 o
 f:vs.flatten.length<=400
 d:∀o∈vs,o.length<=400/\∀x∈o,x.data.length<100000
 c:(selN 1 us).length<=12
theorem Fit.up{us:List Bool}{vs:List (List Ja)}(h:Fit us vs):upN (selN 1 us):=by
 obtain⟨h1,h2,h3⟩:=Vfe us 1;exact⟨h1,λn hn=>by have:=h2 n hn;have:=h.n;omega⟩
theorem Fit.len{us:List Bool}{vs:List (List Ja)}(h:Fit us vs):(chosI us vs).length<=450:=by
 unfold chosI mapI;rw[Qb,Vis _ _ (Vgk us vs 1 h.l)];have:=(Vfe us 1).2.2;have:=(Vc3 us vs).1;have:=h.n;have:=h.f;omega
theorem Fit.map{us:List Bool}{vs:List (List Ja)}(h:Fit us vs):cbor_Map (kN (selN 1 us)) (selV us vs)=some ((),chosI us vs,0,())/\VT 4 (chosI us vs):=by
 have h3:=(Vfe us 1).2.2;have h4:=h.len;refine Vhba h.up h.c (Vgk us vs 1 h.l) (by omega) (by omega) ?_ ?_ (by unfold chosI at h4;omega) ?_
 ·intro o ho;have:=h.d o ((Vc3 us vs).2 o ho);exact⟨by omega,this.2⟩
 ·intro o ho;exact h.v o ((Vc3 us vs).2 o ho)
 ·intro o ho;have:=h.d o ((Vc3 us vs).2 o ho);omega
theorem Fit.data{us:List Bool}{vs:List (List Ja)}(h:Fit us vs):∀x∈chosI us vs,x.data.length<100000:=by
 intro x hx;unfold chosI mapI pairI at hx;rcases List.mem_cons.1 hx with rfl|hx
 ·show ([]:Ua).length<100000;decide
 ·obtain⟨p,hp,hx⟩:=List.mem_flatMap.1 hx;obtain⟨hp1,hp2⟩:=List.of_mem_zip hp;rcases List.mem_cons.1 hx with rfl|hx
  ·obtain⟨n,_,hn⟩:=List.mem_map.1 hp1;rw[<-hn];show ([]:Ua).length<100000;decide
  ·exact (h.d _ ((Vc3 us vs).2 _ hp2)).2 x hx
theorem Fit.enc{us:List Bool}{vs:List (List Ja)}(h:Fit us vs):encO (chosI us vs)=(encA (chosI us vs),0)/\valO (chosI us vs)=0:=by
 have hv:valO (chosI us vs)=0:=Vip h.map.2 (by omega) (by have:=h.len;omega);refine⟨?_,hv⟩;unfold encO;rw[hv];rfl
theorem Vlp:∀(l:List Ja),(∀x∈l,x.data.length<100000)->(encA l).length<=100009*l.length
 |[],_=>by simp[encA]
 |x::l,h=>by
  have h1:=Vlp l λy hy=>h y (by simp[hy]);have h2:=h x (by simp);have h3:=(Vif x).2;rw[Vf0,Qc,Qb];unfold enc;rw[Qc];omega
theorem Vhfa(t:BitVec 32)(k:Nat):decide ((t>>>k)&&&1#32=1#32)=t.getLsbD k:=by
 cases h:t.getLsbD k
 ·apply Un;intro e;have:=congrArg (λb:BitVec 32=>b.getLsbD 0) e;simp[h]at this
 ·apply Um;apply BitVec.eq_of_getLsbD_eq;intro i hi;cases i with
  |zero=>simp[h]
  |succ i=>simp
theorem Vxi{us:List Bool}{vs:List (List Ja)}(h:Fit us vs)(first:UInt8){t:BitVec 32}(ht:∀k,t.getLsbD k=(decide (1<=k)&&us.getD (k-1) false)) :
  message_encode first t vs=some ((),first::encA (chosI us vs),0,()):=by
 have h17:=h.n;have hl:=h.l;have e0 : message_encode_L0 (first, t, [], [], vs, (vs.length : Int), 0, ())=some (first, kN (selN 1 us), selV us vs, ()) := by
  unfold message_encode_L0 Yi7;obtain⟨q,h1,h2⟩:=Vej (f:=λ(y:(UInt8×(BitVec 32)×(List Ub)×(List (List Ja))×(List (List Ja))×Int×Int×Unit))=>message_encode_L0b y.1 y.2.1 y.2.2.1 y.2.2.2.1 y.2.2.2.2.1 y.2.2.2.2.2.1 y.2.2.2.2.2.2.1) vs
   (λi (q:List Ub×List (List Ja)) x=>bif us.getD i false then (q.1++[Qa 64 (i+1)],q.2++[x]) else q)
   (λi q=>(first,t,q.1,q.2,vs,(vs.length:Int),(i:Int),())) (λq=>(first,q.1,q.2,()))
   (λi q=>q=(kN (selN 1 (us.take i)),selV (us.take i) (vs.take i))) (by omega) ([],[]) (by simp[selN,selV,kN])
   (by
    rintro i q x rfl hx;have h1:=Va9 hx;have hu:us[i]? = some (us.getD i false):=by
     rw[Qq,Qf (show i<us.length by omega)];rfl
    have hti:(us.take i).length=i:=by rw[Qn];omega
    have htv:(vs.take i).length=i:=by rw[Qn];omega
    have hsn:=(Vfe (us.take i) 1).2.2;have hsl:=Vgk (us.take i) (vs.take i) 1 (by omega);refine⟨?_,?_⟩
    ·simp only[message_encode_L0b,Vil hx,gIn hx,bindS,Ui,Vbk (i:=i) (by omega)];rw[dT ((0:Int)<=((i+1:Nat):Int)) (Int.natCast_nonneg _),Qd,Vhfa,ht (i+1),dT (1<=i+1) (by omega),Nat.add_sub_cancel,Qac];simp only[Ui];cases us.getD i false
     ·rfl
     ·simp only[Ui];rw[show small ((kN (selN 1 (us.take i))).length+([Qe 64 ((i+1:Nat):Int)]:List Ub).length) 8=true by unfold small kN;simp;omega,Vfd (by simp;omega),Qk];rfl
    ·rw[Ql,Ql,hx,hu,Qx,Qx,Viq,Vir _ _ _ _ (by omega),hti];unfold kN;cases us.getD i false
     ·simp
     ·simp[Qae])
   (by
    rintro q rfl;simp[message_encode_L0b])
  have e1:us.take vs.length=us:=Q2 (by omega);rw[Qz,e1]at h1;rw[h1]at h2;exact h2
 unfold message_encode;rw[e0];simp only[bindS];rw[h.map.1];simp only[bindS,Uk,Qh,Uj];rw[Vws _ (by have:=h.len;omega) h.data,h.enc.1];simp only[bindS,Uk,Qh,Uj];have hlen:=Vlp _ h.data;have:=h.len;rw[Vcu (by simp only[Qb,Qw];omega)];rfl
theorem Vcxa{α:Type}{l:List α}{i:Nat}(d:α)(h:i<l.length):l[i]? = some (l.getD i d):=by
 rw[Qq,Qf h];rfl
def fld(us:List Bool)(vs:List (List Ja)):List (List Ja):=List.zipWith (λb v=>bif b then v else []) us vs
theorem Vxj{α:Type}[DecidableEq α](l:List α):decide ((0:Int)<(l.length:Int)) = !decide (l=[]):=by
 rw[<-Veva,Bool.not_not]
def sm(n:Int):Prop:=0<=n/\n<=255
theorem Vrv(n:Nat)(o:List Ja):∀(ns:List Nat) (v:List (List Ja)),ns.length=v.length->pairI (ns++[n]) (v++[o])=pairI ns v++(keyI n::o):=by
 intro ns v h;unfold pairI;rw[Q9,List.zip_append (by simpa using h),List.flatMap_append];simp
theorem Vrw{us:List Bool}{vs:List (List Ja)}(h:Fit us vs)(hne:∀o∈vs,o≠[]):passkeyref14_encode ([]::fld us vs)=some ((),encA (chosI us vs),()):=by
 have h17:=h.n;have hl:=h.l;have hfl:(fld us vs).length=19:=by unfold fld;rw[List.length_zipWith];omega
 have e0 : passkeyref14_encode_L0 ([]::fld us vs, [⟨6, 0#64, []⟩], (1 : Int), ())=some (chosI us vs, ()) := by
  unfold passkeyref14_encode_L0 Yi3;obtain⟨q,h1,h2⟩:=Vej (f:=λ(y:((List (List Ja))×(List (Ja))×Int×Unit))=>passkeyref14_encode_L0b y.1 y.2.1 y.2.2.1) (fld us vs)
   (λi (q:List Ja) x=>chosI (us.take (i+1)) (vs.take (i+1)))
   (λi q=>([]::fld us vs,q,((i+1:Nat):Int),())) (λq=>(q,()))
   (λi q=>q=chosI (us.take i) (vs.take i)) (by omega) [⟨6,0#64,[]⟩] rfl
   (by
    rintro i q x rfl hx;have h1:=Va9 hx;rw[hfl]at h1;refine⟨?_,rfl⟩;have hu:us[i]? = some (us.getD i false):=Vcxa false (by omega);have hv:vs[i]? = some (vs.getD i []):=Vcxa [] (by omega);have hx2:x=bif us.getD i false then vs.getD i [] else []:=by
     unfold fld at hx;rw[List.getElem?_zipWith,hu,hv]at hx;exact (Q5 hx).symm
    have hti:(us.take i).length=i:=by rw[Qn];omega
    have htv:(vs.take i).length=i:=by rw[Qn];omega
    have hsn:=(Vfe (us.take i) 1).2.2;have hsl:=Vgk (us.take i) (vs.take i) 1 (by omega);have hg:getI ([]::fld us vs) ((i+1:Nat):Int)=some x:=gIn (by rw[List.getElem?_cons_succ];exact hx);have hmem:vs.getD i []∈vs:=Qm hv;have hfull:(pairI (selN 1 (us.take i)) (selV (us.take i) (vs.take i))).length<=450:=by
     rw[Vis _ _ hsl];have a1:=(Vc3 (us.take i) (vs.take i)).1;have a2:(vs.take i).flatten.length<=vs.flatten.length:=by
      conv=>rhs;rw[<-Qaf i vs,List.flatten_append,Qc]
      omega
     have:=h.f;omega
    have ec:chosI (us.take (i+1)) (vs.take (i+1))=bif us.getD i false then ⟨6,Qa 64 ((selN 1 (us.take i)).length+1),[]⟩::(pairI (selN 1 (us.take i)) (selV (us.take i) (vs.take i))++(keyI (i+1)::vs.getD i [])) else chosI (us.take i) (vs.take i):=by
     unfold chosI mapI;rw[Ql,Ql,hu,hv,Qx,Qx,Viq,Vir _ _ _ _ (by omega),hti];cases us.getD i false
     ·simp
     ·simp only[Ui];rw[Vrv _ _ _ _ hsl,Qc,Qae 1 i];rfl
    simp only;rw[ec];unfold passkeyref14_encode_L0b;rw[hg,dT (((i+1:Nat):Int)<(([]::fld us vs).length:Int)) (by rw[Qb,hfl];omega)];simp only[bindS,Ui,Vbk (i:=i+1) (by omega)];subst hx2;cases us.getD i false
    ·rfl
    ·simp only[Ui];have hpos:decide ((0:Int)<((vs.getD i []).length:Int))=true:=by
      rw[Vxj,Un (hne _ hmem)];rfl
     have hd:=(h.d _ hmem).1;rw[hpos];unfold chosI mapI;rw[dT ((0:Int)<(((⟨6,Qa 64 (selN 1 (us.take i)).length,[]⟩::pairI (selN 1 (us.take i)) (selV (us.take i) (vs.take i)):List Ja)).length:Int)) (by rw[Qb];omega)];simp only[Ui,List.getElem?_cons_zero,bindS,List.set_cons_zero,Zdg,Qk];rw[Veh (by simp only[Qb,Qw];omega)];simp only[Ui];rw[Veh (by simp only[Qc,Qb,Qw];omega)];simp only[Ui,Qv,Qan,List.nil_append];rw[show Qa 64 (selN 1 (us.take i)).length+1#64=Qa 64 ((selN 1 (us.take i)).length+1) by rw[BitVec.ofNat_add]];rfl)
   (by
    rintro q rfl;unfold passkeyref14_encode_L0b;rw[dF ((((fld us vs).length+1:Nat):Int)<(([]::fld us vs).length:Int)) (by rw[Qb];omega)];rfl)
  rw[h1,hfl,Q2 (by omega),Q2 (by omega)]at h2;exact h2
 unfold passkeyref14_encode;dsimp only;rw[e0];simp only[bindS];rw[Vjx _ (by have:=h.len;omega) h.data,h.enc.1];rfl
theorem sm_of{n:Int}(h:smallI n=true):sm n:=by
 unfold smallI at h;rw[Q8]at h;exact⟨Uo h.1,Uo h.2⟩
def PV(o:List Ja):Prop:=VT 3 o/\(o.length<=400/\∀x∈o,x.data.length<100000)/\o≠[]
theorem Vqq{x:Ja}(h:VT 1 [x])(hx:x.data.length<100000):PV [x]:=by
 refine⟨Vwt (by omega) h,⟨by rw[Qg];omega,λy hy=>?_⟩,by intro hh;cases hh⟩;rw[Qaj]at hy;rw[hy];exact hx
theorem PV_b{b:Ua}(h:b.length<=1024):PV (bytesI b):=Vqq (Vlo h) (by dsimp only;omega)
theorem PV_t{b:Ua}(h:b.length<=1024)(hv:Lib.validD b=true):PV (textI b):=Vqq (Veya h hv) (by dsimp only;omega)
theorem PV_u(n:Ub):PV (uintI n):=Vqq (Veza n) (by show ([]:Ua).length<100000;decide)
theorem PV_o(b:Bool):PV (boolI b):=Vqq (Ve0a b) (by show ([]:Ua).length<100000;decide)
theorem Vcya:∀(ns:List Nat) (v:List (List Ja)),ns.length=v.length->(∀o∈v,valO o=0)->PairsAt ns.length (pairI ns v) [] ((ns.map keyI).zip v)
 |[],[],_,_=>PairsAt.nil []
 |n::ns,o::v,h,hv=>by
  have ho:=hv o (by simp);have ih:=Vcya ns v (by simpa using h) λq hq=>hv q (by simp[hq]);exact PairsAt.cons (x:=keyI n) rfl (λm=>Vxe ho _ m) (Vou ho) ih
theorem Ve1a{ns:List Nat}{v:List (List Ja)}(hl:ns.length=v.length)(hn:ns.length<=512)(hv:∀o∈v,valO o=0)(h0:valO (mapI ns v)=0)(hlen:(mapI ns v).length<1000000)(hd:∀x∈mapI ns v,x.data.length<100000)(key:Ub) :
  Ziv (mapI ns v) key=some ((),(lkP key ((ns.map keyI).zip v)).1,(lkP key ((ns.map keyI).zip v)).2,()):=by
 unfold Ziv;rw[Vcw _ hlen hd,h0];simp only[bindS,Uk,Qh,Uj];have eg:getI (mapI ns v) (0:Int)=some ⟨6,Qa 64 ns.length,[]⟩:=rfl;rw[eg];simp only[bindS,Uk,Qh,Uj];have e1:(Qa 64 ns.length).toNat=ns.length:=by rw[Qj];omega
 obtain⟨z,z1,z2⟩:=Vqm (mapI ns v) hlen key (Qa 64 ns.length) (by omega) ns.length 0 1 rounds (pairI ns v) _ (Vcya ns v hl hv) (by omega) rfl (by unfold mapI;rw[Qb];omega) (by rw[Vaa];omega);have z1':Ziv_L0 (mapI ns v,key,1,Qa 64 ns.length,0#64,())=some z:=z1;rw[z1'];exact z2
theorem Vcza(k:Nat)(hk:k<=19):∀(us:List Bool) (vs:List (List Ja)) (i:Nat),us.length=vs.length->i+us.length<=20 ->
  lkP (Qa 64 k) (((selN i us).map keyI).zip (selV us vs))=bif Qy i k&&us.getD (k-i) false then (vs.getD (k-i) [],true) else ([],false)
 |[],[],i,_,_=>by simp[selN,selV,lkP]
 |b::us,v::vs,i,h,hi=>by
  rw[Qb]at hi;have ih:=Vcza k hk us vs (i+1) (by simpa using h) (by omega);unfold selN selV;by_cases hik:i=k
  ·subst hik;have hn:Qy (i+1) i=false:=by
    cases h:Qy (i+1) i
    ·rfl
    ·have:=Q4 h;omega
   cases b
   ·simp only[Uj];rw[ih,hn,Nat.sub_self];simp
   ·simp only[Ui,Q6,Q7];unfold lkP;have hii:Qy i i=true:=Qu (Nat.le_refl i);simp[keyI,hii]
  ·have hne:decide (Qa 64 i=Qa 64 k)=false:=by
    apply Un;intro e;have:=congrArg BitVec.toNat e;rw[Qj,Qj,Qr (by omega),Qr (by omega)]at this;exact hik this
   have hrec:(bif Qy i k&&(b::us).getD (k-i) false then ((v::vs).getD (k-i) [],true) else ([],false))=(bif Qy (i+1) k&&us.getD (k-(i+1)) false then (vs.getD (k-(i+1)) [],true) else ([],false)):=by
    by_cases hlt:i<k
    ·obtain⟨d,hd⟩:∃d,k-i=d+1:=⟨k-i-1,by omega⟩;rw[show k-(i+1)=d by omega,hd,Qu (show i<=k by omega),Qu (show i+1<=k by omega)];rfl
    ·have h1:Qy i k=false:=by
      cases h:Qy i k
      ·rfl
      ·have:=Q4 h;omega
     have h2:Qy (i+1) k=false:=by
      cases h:Qy (i+1) k
      ·rfl
      ·have:=Q4 h;omega
     rw[h1,h2];rfl
   rw[hrec,<-ih];cases b
   ·rfl
   ·simp only[Ui,Q6,Q7];conv=>lhs;unfold lkP
    show (bif decide ((1:Int)=1)&&decide (Qa 64 i=Qa 64 k) then _ else _)=_;rw[hne];simp
structure Look(us:List Bool)(vs:List (List Ja)):Prop where
 n:us.length<=19
 l:us.length=vs.length
 v:∀o∈vs,valO o=0
 z:valO (chosI us vs)=0
 f:(chosI us vs).length<1000000
 d:∀x∈chosI us vs,x.data.length<100000
theorem look_ok{us:List Bool}{vs:List (List Ja)}(h:Look us vs)(k:Nat)(h1:1<=k)(hk:k<=19) :
  Ziv (chosI us vs) (Qa 64 k)=some ((),(bif us.getD (k-1) false then vs.getD (k-1) [] else []),us.getD (k-1) false,()):=by
 have hs:=(Vfe us 1).2.2;have hn:=h.n;have e:=Ve1a (Vgk us vs 1 h.l) (by omega) (λo ho=>h.v o ((Vc3 us vs).2 o ho)) h.z h.f h.d (Qa 64 k);unfold chosI;rw[e,Vcza k hk us vs 1 h.l (by omega),Qu h1,Qac];cases us.getD (k-1) false<;>rfl
def zI:Ja:=⟨0,0#64,[]⟩
def itO(us:List Bool)(vs:List (List Ja))(k:Nat):Ja:=bif us.getD (k-1) false then (vs.getD (k-1) []).headD zI else zI
theorem Vgl{us:List Bool}{vs:List (List Ja)}(h:Look us vs)(k:Nat)(h1:1<=k)(hk:k<=19):Zct (chosI us vs) (Qa 64 k)=some ((),itO us vs k,()):=by
 unfold Zct itO;rw[look_ok h k h1 hk];simp only[bindS];cases us.getD (k-1) false
 ·rfl
 ·simp only[Qh,Uj,Ui];cases vs.getD (k-1) []with
  |nil=>rfl
  |cons x r=>
   rw[dF (((x::r).length:Int)=0) (by rw[Qb];omega),dT ((0:Int)<((x::r).length:Int)) (by rw[Qb];omega)];rfl
theorem Vhga(os:List (List Ja))(hv:∀o∈os,valO o=0)(hl:os.length<=100)(hf:(arrI os).length<1000000):Zat_L0 (arrI os,[],(1:Int),())=some (os,()):=by
 unfold Zat_L0 Yi3;obtain⟨t,h1,h2⟩:=Vej (f:=λ(y:((List (Ja))×(List (List Ja))×Int×Unit))=>Zat_L0b y.1 y.2.1 y.2.2.1) os (λi (t:Unit) _=>t)
  (λi _=>(arrI os,os.take i,((1+(os.take i).flatten.length:Nat):Int),())) (λ_=>(os,())) (λ_ _=>True) (by omega) () trivial
  (by
   rintro i t x _ hx;refine⟨?_,trivial⟩;have hi:=Va9 hx;have hsp:os=os.take i++x::os.drop (i+1):=by
    obtain⟨hlt,rfl⟩:=List.getElem?_eq_some_iff.1 hx;rw[<-List.drop_eq_getElem_cons hlt,Qaf]
   have hfl:os.flatten=(os.take i).flatten++(x++(os.drop (i+1)).flatten):=by
    conv=>lhs;rw[hsp]
    simp
   have hdrop:(arrI os).drop (1+(os.take i).flatten.length)=x++(os.drop (i+1)).flatten:=by
    unfold arrI;rw[Qae 1,List.drop_succ_cons,hfl,List.drop_left]
   have hx0:=hv x (Qm hx);have hxn:=Vou hx0;have hx1:0<x.length:=List.length_pos_iff.2 hxn;have hlen:(arrI os).length=1+(os.take i).flatten.length+x.length+(os.drop (i+1)).flatten.length:=by
    unfold arrI;rw[Qb,hfl,Qc,Qc];omega
   have hsk:=Vxa (a:=1+(os.take i).flatten.length) hdrop (λm=>Vxe hx0 _ m) hxn;have htk:os.take (i+1)=os.take i++[x]:=by rw[Ql,hx];rfl
   have htl:(os.take (i+1)).flatten.length=(os.take i).flatten.length+x.length:=by rw[htk];simp
   generalize hp:1+(os.take i).flatten.length=p at *;simp only;unfold Zat_L0b;rw[dT ((p:Int)<((arrI os).length:Int)) (by omega),Vot _ _ hf,hsk];simp only[bindS,Ui,Qh,Uj];rw[dF (((p+x.length:Nat):Int)<=(p:Int)) (by omega),dF (((arrI os).length:Int)<((p+x.length:Nat):Int)) (by omega),dT ((0:Int)<=((p+x.length:Nat):Int)) (by omega),dT (((p+x.length:Nat):Int)<=((arrI os).length:Int)) (by omega),Qd,dT ((0:Int)<=(p:Int)) (by omega),dT ((p:Int)<=((p+x.length:Nat):Int)) (by omega),Qd,Vlk hdrop];simp only[Qat,Ui,Uj];rw[Vfd (by rw[Qn,Qg];omega)];rw[htl,htk,show 1+((os.take i).flatten.length+x.length)=p+x.length by omega];rfl)
  (by
   rintro t _;simp only;unfold Zat_L0b;rw[Qz,dF (((1+os.flatten.length:Nat):Int)<((arrI os).length:Int)) (by unfold arrI;rw[Qb];omega)];rfl)
 exact h2
theorem rdB{us:List Bool}{vs:List (List Ja)}(h:Look us vs)(k:Nat)(h1:1<=k)(hk:k<=19):Zcd (chosI us vs) (Qa 64 k)=some ((),(itO us vs k).data,()):=by
 unfold Zcd;rw[Vgl h k h1 hk];rfl
theorem rdT{us:List Bool}{vs:List (List Ja)}(h:Look us vs)(k:Nat)(h1:1<=k)(hk:k<=19):Zcv (chosI us vs) (Qa 64 k)=some ((),(itO us vs k).data,()):=by
 unfold Zcv;rw[Vgl h k h1 hk];rfl
theorem rdN{us:List Bool}{vs:List (List Ja)}(h:Look us vs)(k:Nat)(h1:1<=k)(hk:k<=19):Zbr (chosI us vs) (Qa 64 k)=some ((),Qs .i64 ((itO us vs k).number.toNat:Int),()):=by
 unfold Zbr;rw[Vgl h k h1 hk];rfl
theorem rdW{us:List Bool}{vs:List (List Ja)}(h:Look us vs)(k:Nat)(h1:1<=k)(hk:k<=19):Zcw (chosI us vs) (Qa 64 k)=some ((),(itO us vs k).number,()):=by
 unfold Zcw;rw[Vgl h k h1 hk];rfl
theorem rdF{us:List Bool}{vs:List (List Ja)}(h:Look us vs)(k:Nat)(h1:1<=k)(hk:k<=19):Zcs (chosI us vs) (Qa 64 k)=some ((),decide ((itO us vs k).number=1#64),()):=by
 unfold Zcs;rw[Vgl h k h1 hk];rfl
theorem bsel(l:Ua)(k:Int):(bif decide ((0:Int)<(l.length:Int)) then (⟨k,0#64,l⟩:Ja) else zI).data=l:=by
 rw[Vxj];cases l<;>rfl
theorem tsel(l:Ua)(k:Int):(bif !decide (l=([]:Ua)) then (⟨k,0#64,l⟩:Ja) else zI).data=l:=by
 cases l<;>rfl
theorem Vhha{n:Int}(h:sm n):Qs .i64 (((Qe 64 n).toNat:Nat):Int)=n:=by
 obtain⟨k,rfl⟩:∃k:Nat,n=(k:Int):=⟨n.toNat,by have:=h.1;omega⟩;have h2:=h.2;rw[Qk,Qj,Qr (by omega),Vaw (by omega) (by omega)]
theorem nsel{n:Int}(h:sm n):Qs .i64 (((bif !decide (n=(0:Int)) then (⟨1,Qe 64 n,[]⟩:Ja) else zI).number.toNat:Nat):Int)=n:=by
 by_cases h0:n=0
 ·subst h0;rfl
 ·rw[Un h0];exact Vhha h
theorem psel(w:Ub):(bif !decide (w=0#64) then (⟨1,w,[]⟩:Ja) else zI).number=w:=by
 by_cases h0:w=0#64
 ·subst h0;rfl
 ·rw[Un h0];rfl
theorem fsel(b:Bool):decide ((bif b then (⟨7,bif b then 1#64 else 0#64,[]⟩:Ja) else zI).number=1#64)=b:=by cases b<;>rfl
theorem Vhia{α β:Type}{l:List α}{g:α->β}{i:Nat}{x:α}(h:l[i]? = some x):(l.map g)[i]? = some (g x):=by rw[Qam,h];rfl
theorem Vxk(l:List Ja)(hl:l.length<1000000):∀(r:List Ja) (at0 need f:Nat),l.drop at0=r->at0<=l.length->need<=1024*(at0+1)->r.length<f ->
  iter (λ(y:((List (Ja))×Int×Ub×Unit))=>passkeyref1_Skip_L0b y.1 y.2.1 y.2.2.1) f (l,(at0:Int),Qa 64 need,())=some (skZ at0 (skp r need)):=by
 have ebv:∀i:Nat,i<=2000000000->(Qa 64 i).toNat=i:=λi hi=>by
  rw[Qj,Qr (by omega)]
 intro r;induction r with
 |nil=>
  intro at0 need f hr ha hn hf;have hal:at0=l.length:=by
   have:=congrArg List.length hr;simp at this;omega
  obtain⟨f,rfl⟩:∃g,f=g+1:=⟨f-1,by omega⟩;rw[Vac];dsimp only;unfold passkeyref1_Skip_L0b;rw[ebv need (by omega),show (0#64).toNat=0 from rfl];cases need with
  |zero=>rfl
  |succ need=>
   rw[dT (0<need+1) (by omega),dT ((l.length:Int)<=(at0:Int)) (by omega)];rfl
 |cons x r ih =>
  intro at0 need f hr ha hn hf;have hlt:at0<l.length:=by
   have:=congrArg List.length hr;simp at this;omega
  have hx:l[at0]? = some x:=by
   have:=congrArg (·[0]?) hr;simpa using this
  have hr2:l.drop (at0+1)=r:=by
   have:=congrArg (Qaq 1) hr;simpa[Qab]using this
  have eg:getI l (at0:Int)=some x:=by unfold getI;simp[hx]
  simp only[Qb]at hf;obtain⟨f,rfl⟩:∃g,f=g+1:=⟨f-1,by omega⟩;rw[Vac];dsimp only;cases need with
  |zero=>
   unfold passkeyref1_Skip_L0b;rfl
  |succ need =>
   have e1 : passkeyref1_Skip_L0b l (at0 : Int) (Qa 64 (need+1))=some (bif isN x.kind&&decide (512<x.number.toNat) then .inr (.inl (0, false, ())) else .inl (l, ((at0+1 : Nat) : Int), Qa 64 (need+addI x), ())) := by
    have es:Qa 64 (need+1)-1#64=Qa 64 need:=by
     apply Q3;rw[BitVec.toNat_sub,ebv (need+1) (by omega),ebv need (by omega),show (1#64).toNat=1 from rfl];omega
    unfold passkeyref1_Skip_L0b;rw[ebv (need+1) (by omega),show (0#64).toNat=0 from rfl,dT (0<need+1) (by omega),dF ((l.length:Int)<=(at0:Int)) (by omega),eg,es,show (512#64).toNat=512 from rfl];have ew:Qs .i64 ((at0:Int)+1)=((at0+1:Nat):Int):=by
     rw[wI ((at0:Int)+1) (by omega)];rfl
    simp only[Ui,Uj,bindS,bindC,ew];unfold isN addI;by_cases h5:x.kind=5
    ·by_cases hm:512<x.number.toNat
     ·simp[h5,hm]
     ·have ea:Qa 64 need+x.number=Qa 64 (need+x.number.toNat):=by
       apply Q3;rw[Qak,ebv need (by omega),ebv _ (by omega)];omega
      simp[h5,hm,ea]
    ·by_cases h6:x.kind=6
     ·by_cases hm:512<x.number.toNat
      ·simp[h6,hm]
      ·have ea:Qa 64 need+2#64*x.number=Qa 64 (need+2*x.number.toNat):=by
        apply Q3;rw[Qak,BitVec.toNat_mul,ebv need (by omega),ebv (need+2*x.number.toNat) (by omega),show (2#64).toNat=2 from rfl];omega
       simp[h6,hm,ea]
     ·simp[h5,h6]
   rw[e1,bindS];simp only[skp];cases hb:(isN x.kind&&decide (512<x.number.toNat))
   ·simp only[Uj,Qad];have:=Vw8 hb;rw[ih (at0+1) (need+addI x) f hr2 (by omega) (by omega) (by omega)];cases skp r (need+addI x) with
    |none=>rfl
    |some k=>
     simp only[Qal,skZ];rw[show at0+1+k=at0+(k+1) by omega]
   ·rfl
theorem Vqr(l:List Ja)(a:Int)(hl:l.length<1000000):passkeyref1_Skip l a=some ((),(skO l a).1,(skO l a).2,()):=by
 unfold passkeyref1_Skip skO;by_cases h1:a<0
 ·simp[h1]
 ·rw[dF (a<0) h1];by_cases h2:(l.length:Int)<=a
  ·simp[h2]
  ·rw[dF ((l.length:Int)<=a) h2];obtain⟨n,rfl⟩:∃n:Nat,a=(n:Int):=⟨a.toNat,by omega⟩;have:=Vxk l hl (l.drop n) n 1 rounds rfl (by omega) (by omega) (by rw[Vaa];simp;omega);unfold passkeyref1_Skip_L0 Yi3;simp only[Uj];rw[show (1#64)=Qa 64 1 from rfl,this,bindS,Qd,Vqj]
theorem Ve2a{l:List Ja}{a:Nat}{x:Ja}{s:List Ja}(h:l.drop a=x::s)(hx:isN x.kind=false):skO l (a:Int)=(((a+1:Nat):Int),true):=by
 have hl:=congrArg List.length h;rw[Q1,Qb]at hl;unfold skO;rw[dF ((a:Int)<0) (by omega),dF ((l.length:Int)<=(a:Int)) (by omega),Qd,h];have ha:addI x=0:=by
  unfold isN at hx;simp only[Bool.or_eq_false_iff,decide_eq_false_iff_not]at hx;unfold addI;simp[hx.1,hx.2]
 simp only[skp,hx,Qar,Uj,ha,Nat.add_zero,Vhb];simp
theorem Vxl(l:List Ja)(hl:l.length<1000000)(key:Ub)(x0:Ja)(h00:l[0]? = some x0)(hN:x0.number.toNat<=512):∀(k i a f:Nat) (s:List Ja) (ps:List (Ja×List Ja)),PairsAt k s [] ps->i+k=x0.number.toNat->l.drop a=s->a<=l.length->k<f ->
  ∃z,iter (λ(y:((List (Ja))×Ub×Int×Ub×Unit))=>Zel_L0b y.1 y.2.1 y.2.2.1 y.2.2.2.1) f (l,key,(a:Int),Qa 64 i,())=some z/\LkR key ps z:=by
 have eg0:getI l (0:Int)=some x0:=Vby (i:=0) h00;intro k;induction k with
 |zero=>
  intro i a f s ps hp hi hs ha hf;obtain⟨f,rfl⟩:∃g,f=g+1:=⟨f-1,by omega⟩;rw[Vac];have hps:ps=[]:=List.length_eq_zero_iff.1 hp.len;subst hps;refine⟨.inr (),?_,rfl⟩;dsimp only;unfold Zel_L0b;rw[eg0,bindS,bvn i (by omega),dF (i<x0.number.toNat) (by omega)];rfl
 |succ k ih=>
  intro i a f s ps hp hi hs ha hf;obtain⟨f,rfl⟩:∃g,f=g+1:=⟨f-1,by omega⟩;cases hp with
  |@cons _ x v r _ ps hx hv h0 hp=>
  have hd1:l[a]? = some x:=by
   have:=congrArg (·[0]?) hs;simpa using this
  have hd2:l.drop (a+1)=v++r:=by
   have:=congrArg (Qaq 1) hs;simpa[Qab]using this
  have hlen:=congrArg List.length hd2;rw[Q1,Qc]at hlen;have hv1:0<v.length:=List.length_pos_iff.2 h0;have hd3:l.drop (a+1+v.length)=r:=by
   rw[<-Qab,hd2];simp
  have e1:Zel_L0b l key (a:Int) (Qa 64 i)=bif decide (x.kind=1)&&decide (x.number=key) then some (Qao (Qaa (v,true,()))) else some (Qaa (l,key,((a+1+v.length:Nat):Int),Qa 64 (i+1),())):=by
   unfold Zel_L0b;rw[eg0,bindS,bvn i (by omega),dT (i<x0.number.toNat) (by omega),Vqr l _ hl,Ve2a hs hx,bvs i (by omega),Vby hd1];simp only[Ui,bindS];rw[Vqr l _ hl,Vxa hd2 hv h0];simp only[Ui,bindS];cases h1:decide (x.kind=1)
   ·simp only[Qar,Uj]
   ·simp only[Qac,Ui];cases h2:decide (x.number=key)
    ·simp only[Uj]
    ·simp only[Ui,Qd];rw[show (decide ((0:Int)<=((a+1+v.length:Nat):Int))&&decide (((a+1+v.length:Nat):Int)<=(l.length:Int)))=true by (rw[Q8,Uq,Uq];exact⟨by omega,by omega⟩),show (decide ((0:Int)<=((a+1:Nat):Int))&&decide (((a+1:Nat):Int)<=((a+1+v.length:Nat):Int)))=true by (rw[Q8,Uq,Uq];exact⟨by omega,by omega⟩),Vlk hd2];simp only[Ui];rw[Veh (by omega)];rfl
  rw[Vac];dsimp only;rw[e1];cases hm:(decide (x.kind=1)&&decide (x.number=key))
  ·simp only[Uj,bindS,Qad];obtain⟨z,z1,z2⟩:=ih (i+1) (a+1+v.length) f r ps hp (by omega) hd3 (by omega) (by omega);refine⟨z,z1,?_⟩;unfold LkR lkP;rw[hm];exact z2
  ·refine⟨_,rfl,?_⟩;unfold LkR lkP;rw[hm];rfl
theorem Vxm(key:Ub):∀(k:Nat) (s t:List Ja) (ps:List (Ja×List Ja)),PairsAt k s t ps->(lkP key ps).1.length<=s.length/\(∀x∈(lkP key ps).1,x∈s)/\((lkP key ps).2=true->(lkP key ps).1≠[])/\((lkP key ps).2=false->(lkP key ps).1=[]):=by
 intro k s t ps h;induction h with
 |nil=>simp[lkP]
 |@cons k x v r t ps hx hv h0 h ih=>
  unfold lkP;cases (decide ((x,v).1.kind=1)&&decide ((x,v).1.number=key))
  ·simp only[Uj,Qb,Qc];refine⟨by have:=ih.1;omega,λy hy=>?_,ih.2.2.1,ih.2.2.2⟩;exact Qp _ (List.mem_append_right _ (ih.2.1 y hy))
  ·simp only[Ui,Qb,Qc];refine⟨by omega,λy hy=>Qp _ (List.mem_append_left _ hy),λ_=>h0,λhh=>by cases hh⟩
theorem Look2(l:List Ja)(key:Ub)(hl:l.length<1000000)(hd:∀x∈l,x.data.length<100000):∃v b,Ziv l key=some ((),v,b,())/\Zel l key=some ((),v,b,())/\v.length<=l.length/\(∀x∈v,x∈l)/\(b=true->v≠[])/\(b=false->v=[]):=by
 unfold Ziv Zel;rw[Vcw l hl hd,Vgv l hl hd];simp only[bindS];by_cases hv:valO l=0
 ·rw[dT (valO l=0) hv];simp only[Qh,Uj];cases hl0:l with
  |nil=>exact absurd hl0 (Vou hv)
  |cons x r=>
   have eg0:getI (x::r) (0:Int)=some x:=rfl;rw[eg0];simp only[bindS];by_cases h6:x.kind=6
   ·rw[dT (x.kind=6) h6];simp only[Qh,Uj];rw[hl0]at hv hl;obtain⟨hn,ps,hp⟩:=Vada hv h6;have hle:1<=(x::r).length:=by simp
    obtain⟨z,z1,z2⟩:=Vqm (x::r) hl key x.number hn x.number.toNat 0 1 rounds r ps hp (by omega) rfl hle (by rw[Vaa];omega);obtain⟨y,y1,y2⟩:=Vxl (x::r) hl key x rfl hn x.number.toNat 0 1 rounds r ps hp (by omega) rfl hle (by rw[Vaa];omega);have z1':Ziv_L0 (x::r,key,1,x.number,0#64,())=some z:=z1;have y1':Zel_L0 (x::r,key,1,0#64,())=some y:=y1;rw[z1',y1'];simp only[bindS];have q:=Vxm key _ _ _ _ hp;refine⟨(lkP key ps).1,(lkP key ps).2,z2,y2,?_,λy hy=>Qp _ (q.2.1 y hy),q.2.2.1,q.2.2.2⟩;have:=q.1;rw[Qb];omega
   ·rw[dF (x.kind=6) h6];exact⟨[],false,rfl,rfl,by simp,(λy hy=>absurd hy Q0),(λh=>absurd h (by decide)),(λ_=>rfl)⟩
 ·rw[dF (valO l=0) hv];exact⟨[],false,rfl,rfl,by simp,(λy hy=>absurd hy Q0),(λh=>absurd h (by decide)),(λ_=>rfl)⟩
structure Lt(l:List Ja):Prop where
 n:l.length<5000
 d:∀x∈l,x.data.length<100000
def itm(l:List Ja)(k:Nat):Ja:=match Zct l (Qa 64 k) with
 |some (_,x,_)=>x
 |none=>zI
theorem Va3{l:List Ja}(h:Lt l)(k:Nat):Zct l (Qa 64 k)=some ((),itm l k,())/\(∃b,Zgn l (k:Int)=some ((),(itm l k).number,(itm l k).data,b,()))/\(itm l k).data.length<100000:=by
 obtain⟨v,b,e1,e2,e3,e4,e5,e6⟩:=Look2 l (Qa 64 k) (by have:=h.n;omega) h.d;unfold itm Zct Zgn;rw[Qk,e1,e2];simp only[bindS];cases b
 ·exact⟨rfl,⟨false,rfl⟩,by show 0<100000;omega⟩
 ·have:=e5 rfl;cases v with
  |nil=>exact absurd rfl this
  |cons x r=>
   simp only[Qh,Uj];rw[dF (((x::r).length:Int)=0) (by rw[Qb];omega),dT ((0:Int)<((x::r).length:Int)) (by rw[Qb];omega)];exact⟨rfl,⟨true,rfl⟩,h.d x (e4 x (by simp))⟩
theorem pB{l:List Ja}(h:Lt l)(k:Nat):Zcd l (Qa 64 k)=some ((),(itm l k).data,()):=by
 unfold Zcd;rw[(Va3 h k).1];rfl
theorem pT{l:List Ja}(h:Lt l)(k:Nat):Zcv l (Qa 64 k)=some ((),(itm l k).data,()):=by
 unfold Zcv;rw[(Va3 h k).1];rfl
theorem pN{l:List Ja}(h:Lt l)(k:Nat):Zbr l (Qa 64 k)=some ((),Qs .i64 ((itm l k).number.toNat:Int),()):=by
 unfold Zbr;rw[(Va3 h k).1];rfl
theorem pW{l:List Ja}(h:Lt l)(k:Nat):Zcw l (Qa 64 k)=some ((),(itm l k).number,()):=by
 unfold Zcw;rw[(Va3 h k).1];rfl
theorem pF{l:List Ja}(h:Lt l)(k:Nat):Zcs l (Qa 64 k)=some ((),decide ((itm l k).number=1#64),()):=by
 unfold Zcs;rw[(Va3 h k).1];rfl
theorem Vxn{l:List Ja}(h:Lt l)(k:Nat):∃os,Zat l (Qa 64 k)=some ((),os,())/\os.length<=l.length/\∀o∈os,o≠[]/\Lt o:=by
 obtain⟨v,b,e1,e2,e3,e4,e5,e6⟩:=Look2 l (Qa 64 k) (by have:=h.n;omega) h.d;have hn:=h.n;unfold Zat
 rw[e1];simp only[bindS];cases b
 ·exact⟨[],rfl,by simp,λo ho=>absurd ho Q0⟩
 simp only[Qh,Uj];have hv:=List.length_pos_iff.2 (e5 rfl);have q:Ok (Zat_L0 (v,[],(1:Int),())) λz=>z.1.length<=l.length/\∀o∈z.1,o≠[]/\Lt o:=by
  unfold Zat_L0 Yi3;refine Ok.iter (λy=>y.1=v/\(∃n:Nat,y.2.2.1=(n:Int)/\1<=n/\n<=v.length/\y.2.1.length+1<=n)/\∀o∈y.2.1,o≠[]/\Lt o) (λy=>v.length-y.2.2.1.toNat) ⟨rfl,⟨1,rfl,by omega,by omega,by simp⟩,λo ho=>absurd ho Q0⟩ (by rw[Vaa];omega) ?_;rintro⟨v1,os,at0,u⟩ ⟨rfl,⟨n,h1,h2,h3,h4⟩,h5⟩;dsimp only at *;subst h1;unfold Zat_L0b;refine Ok.cond (λhc=>?_) (λhc=>Ok.some ⟨by dsimp only;omega,h5⟩);rw[Vot v1 _ (by omega)];simp only[bindS];refine Ok.cond (λ_=>Ok.some ⟨by dsimp only;omega,h5⟩) (λ_=>?_);refine Ok.cond (λ_=>Ok.some ⟨by dsimp only;omega,h5⟩) (λc2=>?_);refine Ok.cond (λ_=>Ok.some ⟨by dsimp only;omega,h5⟩) (λc3=>?_);have c2:=Up c2;have c3:=Up c3;obtain⟨m,hm⟩:∃m:Nat,(skO v1 (n:Int)).1=(m:Int):=⟨(skO v1 (n:Int)).1.toNat,by omega⟩;rw[hm]at c2 c3 |-;rw[dT ((0:Int)<=(m:Int)) (by omega),dT ((m:Int)<=(v1.length:Int)) (by omega),Qd,dT ((0:Int)<=(n:Int)) (by omega),dT ((n:Int)<=(m:Int)) (by omega),Qd];simp only[Qat,Ui];rw[Vfd (by rw[Qg];omega)];simp only[Ui];have hl2:(Qaq n (List.take m v1)).length=m-n:=by rw[Q1,Qn];omega
  refine Ok.some ⟨⟨rfl,⟨m,rfl,by omega,by omega,by rw[Qc,Qg];omega⟩,?_⟩,by simp only[Qd];omega⟩;intro o ho;rcases List.mem_append.1 ho with ho|ho
  ·exact h5 o ho
  ·rw[Qaj]at ho;subst ho;refine⟨by apply List.length_pos_iff.1;omega,by omega,λx hx=>h.d x (e4 x ?_)⟩;exact List.mem_of_mem_take (List.mem_of_mem_drop hx)
 obtain⟨⟨os,u⟩,q1,q2,q3⟩:=q;exact⟨os,by rw[q1];rfl,q2,q3⟩
theorem Vlq{σ β τ:Type}{f:σ->Option (σ⊕β)}(n0:Nat)(mk:Nat->τ->σ)(out:τ->β)(P:Nat->τ->Prop)(hn:n0<9000000000000000000)(t0:τ)(h0:P 0 t0)
  (h:∀i t,i<n0->P i t->∃t',f (mk i t)=some (.inl (mk (i+1) t'))/\P (i+1) t')
  (he:∀t,P n0 t->f (mk n0 t)=some (.inr (out t))):∃t',P n0 t'/\iter f rounds (mk 0 t0)=some (out t'):=by
 have go:∀(k n j:Nat) (t:τ),P j t->j+k=n0->k<n->∃t',P n0 t'/\iter f n (mk j t)=some (out t'):=by
  intro k;induction k with
  |zero=>
   intro n j t hp hj hn;obtain⟨n,rfl⟩:∃g,n=g+1:=⟨n-1,by omega⟩;have:j=n0:=by omega
   subst this;exact⟨t,hp,by rw[Vac,he t hp];rfl⟩
  |succ k ih=>
   intro n j t hp hj hn;obtain⟨n,rfl⟩:∃g,n=g+1:=⟨n-1,by omega⟩;obtain⟨t1,e,hp2⟩:=h j t (by omega) hp;obtain⟨t',h1,h2⟩:=ih n (j+1) t1 hp2 (by omega) (by omega);exact⟨t',h1,by rw[Vac,e];exact h2⟩
 exact go n0 rounds 0 t0 h0 (by omega) (by rw[Vaa];omega)
theorem Vng{n:Nat}{m:Nat}(h:n<m):decide ((n:Int)<(m:Int))=true:=Um (by omega)
theorem Vxo{n:Nat}{m:Nat}(h:n<m):(decide ((0:Int)<=(n:Int))&&decide ((n:Int)<(m:Int)))=true:=by
 rw[dT ((0:Int)<=(n:Int)) (by omega),Vng h];rfl
theorem Vc0a(n:Nat):decide ((n:Int)<(n:Int))=false:=Un (by omega)
theorem Vaia{l:List Ja}(h:Lt l)(k:Nat):∃cs,Zcu l (Qa 64 k)=some ((),cs,())/\cs.length<=l.length:=by
 obtain⟨os,e1,e2,e3⟩:=Vxn h k;have hn:=h.n;unfold Zcu;rw[e1];simp only[bindS];unfold Zcu_L0 Yi4;obtain⟨t,h1,h2⟩:=Vlq (f:=λ(y:((List Ua)×(List (List Ja))×Int×Int×Unit))=>Zcu_L0b y.1 y.2.1 y.2.2.1 y.2.2.2.1) os.length (λi t=>(t,os,(os.length:Int),(i:Int),())) (λt=>(t,())) (λi t=>t.length=i) (by omega) [] rfl
  (by
   intro i t hi ht;have hx:=Qf hi;obtain⟨f1,f2⟩:=e3 _ (Qap hi);generalize os[i]=o at hx f1 f2;cases o with
   |nil=>exact absurd rfl f1
   |cons x r=>
    refine⟨t++[x.data],?_,by rw[Qc,ht];rfl⟩;simp only[Zcu_L0b,Vng hi,Vxo hi,Ui,Qd,hx,bindS,Vbk (i:=i) (by omega)];rw[show getI (x::r) (0:Int)=some x from rfl];simp only[bindS];rw[Vfd (by rw[Qg];omega)];rfl)
  (by intro t ht;simp only[Zcu_L0b,Vc0a,Uj])
 exact⟨t,by rw[show ((0:Int))=((0:Nat):Int) from rfl,h2];rfl,by omega⟩
theorem Vxp{l v:List Ja}{b:Bool}{k:Int}(h:Zel l (Qe 64 k)=some ((),v,b,()))(hv:v.length<5000):Zde l k=some ((),(v.drop 1).map (·.data),()):=by
 unfold Zde;rw[h];simp only[bindS];unfold Zde_L0 Yi3;have hd:(v.drop 1).length=v.length-1:=Q1;obtain⟨t,h1,h2⟩:=Vlq (f:=λ(y:((List (Ja))×(List Ua)×Int×Unit))=>Zde_L0b y.1 y.2.1 y.2.2.1) (v.drop 1).length (λi t=>(v,t,((1+i:Nat):Int),())) (λt=>(t,())) (λi t=>t=((v.drop 1).take i).map (·.data)) (by omega) [] rfl
  (by
   intro i t hi ht;have hi2:1+i<v.length:=by omega
   have hx:=Qf hi;have hx2:v[1+i]? = some (v.drop 1)[i]:=by rw[<-List.getElem?_drop];exact hx
   generalize (v.drop 1)[i]=x at hx hx2;refine⟨t++[x.data],?_,by rw[ht,Ql,hx,Q9];rfl⟩;simp only[Zde_L0b,Vng hi2,Vxo hi2,Ui,Qd,hx2,bindS,Vbk (i:=1+i) (by omega)];rw[Vfd (by rw[Qg,ht,List.length_map,Qn];omega)];rw[show 1+i+1=1+(i+1) by omega];rfl)
  (by
   intro t ht;simp only[Zde_L0b];rw[dF (((1+(v.drop 1).length:Nat):Int)<(v.length:Int)) (by omega)];rfl)
 have h3:iter (λ(y:((List (Ja))×(List Ua)×Int×Unit))=>Zde_L0b y.1 y.2.1 y.2.2.1) rounds (v,[],1,())=some (t,()):=h2;rw[h3,h1,Qz];rfl
def smO(n:Ub):Int:=Qs .i64 ((bif decide ((1048576#64).toNat<n.toNat) then 1048576#64 else n).toNat:Int)
theorem Vhja(n:Ub):Zec n=some ((),smO n,()):=rfl
theorem Vhka{n:Int}(h:sm n):smO (Qe 64 n)=n:=by
 obtain⟨k,rfl⟩:∃k:Nat,n=(k:Int):=⟨n.toNat,by have:=h.1;omega⟩;have h2:=h.2;unfold smO;have e:(Qe 64 (k:Int)).toNat=k:=by rw[Qk,Qj,Qr (by omega)]
 rw[e,show (1048576#64).toNat=1048576 from rfl,dF (1048576<k) (by omega)];simp only[Uj];rw[e,Vaw (by omega) (by omega)]
theorem Vxq{b:Ua}(h:(decO b).2.2=0):Lt (decO b).1:=by
 have hv:=(Vik h).1;refine⟨?_,λx hx=>?_⟩
 ·by_cases hl:512<(decO b).1.length
  ·exact absurd hv (Vlm hl)
  ·omega
 ·have:=((Vdf hv).2 x hx).2;omega
theorem rsel{n:Int}(h:sm n):smO (bif !decide (n=(0:Int)) then (⟨1,Qe 64 n,[]⟩:Ja) else zI).number=n:=by
 by_cases h0:n=0
 ·subst h0;rfl
 ·rw[Un h0];exact Vhka h
theorem Vj6:∀l:List Ua,((l.map bytesI).flatten).map (·.data)=l
 |[]=>rfl
 |b::l=>by
  have e:(b::l).map bytesI=bytesI b::l.map bytesI:=rfl;rw[e,Qi,Q9,Vj6 l];rfl
theorem Vxr{l v:List Ja}(h:Lt l){key:Ub}{b:Bool}{w:List Ja}{c:Bool}(h1:Ziv l key=some ((),v,b,()))(h2:Zel l key=some ((),w,c,())):w=v:=by
 obtain⟨x,y,e1,e2,_⟩:=Look2 l key (by have:=h.n;omega) h.d;rw[h1]at e1;rw[h2]at e2;have a1:=congrArg (λz:Unit×(List Ja×Bool×Unit)=>z.2.1) (Q5 e1);have a2:=congrArg (λz:Unit×(List Ja×Bool×Unit)=>z.2.1) (Q5 e2);exact a2.trans a1.symm
end Go.Proofs.YtnfhkhlbdgbkjaaGreatDoor

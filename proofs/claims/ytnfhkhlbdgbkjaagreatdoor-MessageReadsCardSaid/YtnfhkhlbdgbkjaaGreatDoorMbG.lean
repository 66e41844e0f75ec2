/- Requests: what both readers read; a valid request is read back. -/
import Derived.Test.YtnfhkhlbdgbkjaaGreatDoorMqW
set_option linter.unusedVariables false
set_option linter.unusedSimpArgs false
set_option maxRecDepth 100000
namespace Go.Proofs.YtnfhkhlbdgbkjaaGreatDoor
open Go Go.Abs
open _root_.List renaming length_cons → Qa, getElem?_eq_getElem → Qc, length_map → Qe, length_set → Qg, drop_succ_cons → Qh, getElem?_set → Qi, drop_zero → Qk
open _root_.Bool renaming not_true → Qb, and_true → Qn
open _root_.Option.some renaming inj → Qd
open _root_.Int renaming toNat_natCast → Qf
open Go.IntKind renaming wrap → Qj
open _root_.BitVec renaming ofNat → Ql, ofInt → Qm
def reqI(r:Jb):List Ja:=chosI (useQ r) (valsQ r)
theorem Vnh{r:Jb}(h:GoodQ r):Look (useQ r) (valsQ r):=by
 have hF:=fitF h;exact⟨by rw[hF.n];omega,hF.l,λo ho=>Vip (hF.v o ho) (by omega) (by have:=(hF.d o ho).1;omega),hF.enc.2,by have:=hF.len;omega,hF.data⟩
structure Sms(r:Jb):Prop where
 a:sm r.jc
 b:sm r.jd
 c:sm r.jk
 d:sm r.jb
 e:sm r.count
theorem sms{r:Jb}(h:GoodQ r):Sms r:=by
 have hn:=h.nu;unfold numQ at hn;simp only[Bool.and_eq_true]at hn;exact⟨sm_of hn.1,sm_of hn.2.1,sm_of hn.2.2.1,sm_of hn.2.2.2.1,sm_of hn.2.2.2.2⟩
theorem asel{r:Jb}(h:GoodQ r):(bif (r.jj||!decide (r.auth=0#64)) then (⟨1,r.auth,[]⟩:Ja) else zI).number=r.auth/\(r.jj||!decide (r.auth=0#64))=r.jj:=by
 have ha:=h.au;cases h1:decide (r.auth=0#64)<;>cases h2:r.jj<;>rw[h1,h2]at ha
 ·cases ha
 ·exact⟨rfl,rfl⟩
 ·exact⟨(Uo h1).symm,rfl⟩
 ·exact⟨rfl,rfl⟩
theorem Ve3a{r:Jb}(h:GoodQ r):Zat (reqI r) 7#64=some ((),r.list.map bytesI,()):=by
 unfold Zat reqI;rw[look_ok (Vnh h) 7 (by omega) (by omega)];simp only[bindS];have eu:(useQ r).getD (7-1) false=decide ((0:Int)<(r.list.length:Int)):=rfl;have ev:(valsQ r).getD (7-1) []=certI r.list:=rfl;rw[eu,ev];cases hc:decide ((0:Int)<(r.list.length:Int))
 ·have:r.list=[]:=List.length_eq_zero_iff.1 (by have:=Up hc;omega);rw[this];rfl
 ·simp only[Qb,Uj,Ui];unfold certI;have hl:=Vf1 r.list;have:=h.li;rw[Vhga _ (λo ho=>by obtain⟨c,hc,rfl⟩:=List.mem_map.1 ho;exact Vip (Vlo (by rw[h.el c hc];omega)) (by omega) (by simp[bytesI])) (by rw[Qe];omega) (by unfold certI at hl;omega)];rfl
theorem Vhla{r:Jb}(h:GoodQ r):Zcu (reqI r) 7#64=some ((),r.list,()):=by
 unfold Zcu;rw[Ve3a h];simp only[bindS];unfold Zcu_L0 Yi4;have hc:=h.li;rw[Qe,show ((0:Int))=((0:Nat):Int) from rfl,Vqp r.list id (λi t=>(t,r.list.map bytesI,(r.list.length:Int),(i:Int),())) (r.list,()) (by omega)]
 ·rfl
 ·intro i x hx;have h1:=Va9 hx;simp only[Zcu_L0b,Vil hx,Qe,Ui,Vbk (i:=i) (by omega),Qf,Vhia hx,bindS,dT ((0:Int)<=(i:Int)) (by omega),Qn];have eg:getI (bytesI x) (0:Int)=some ⟨3,0#64,x⟩:=rfl;rw[eg];simp only[bindS];rw[Vfd (by simp;omega)];rfl
 ·simp[Zcu_L0b]
theorem has_q{r:Jb}(h:GoodQ r):Zdt (reqI r) 13#64=some ((),r.jj,()):=by
 unfold Zdt reqI;rw[look_ok (Vnh h) 13 (by omega) (by omega)];have eu:(useQ r).getD (13-1) false=(r.jj||!decide (r.auth=0#64)):=rfl;rw[eu,(asel h).2];rfl
theorem Vni{r:Jb}(h:GoodQ r):Zhq r.kind (reqI r)=some ((),r,()):=by
 have hL:=Vnh h;have hs:=sms h;have f1:Zcv (reqI r) 1#64=some ((),r.rP,()):=(rdT hL 1 (by omega) (by omega)).trans (congrArg (λd=>some ((),d,())) (tsel r.rP 4));have f2:Zcv (reqI r) 2#64=some ((),r.user,()):=(rdT hL 2 (by omega) (by omega)).trans (congrArg (λd=>some ((),d,())) (tsel r.user 3));have f3:Zcv (reqI r) 3#64=some ((),r.name,()):=(rdT hL 3 (by omega) (by omega)).trans (congrArg (λd=>some ((),d,())) (tsel r.name 4));have f4:Zcw (reqI r) 4#64=some ((),r.jx,()):=(rdW hL 4 (by omega) (by omega)).trans (congrArg (λd=>some ((),d,())) (psel r.jx));have f5:Zbr (reqI r) 5#64=some ((),r.jc,()):=(rdN hL 5 (by omega) (by omega)).trans (congrArg (λd=>some ((),d,())) (nsel hs.a));have f6:Zbr (reqI r) 6#64=some ((),r.jd,()):=(rdN hL 6 (by omega) (by omega)).trans (congrArg (λd=>some ((),d,())) (nsel hs.b));have f8:Zcs (reqI r) 8#64=some ((),r.je,()):=(rdF hL 8 (by omega) (by omega)).trans (congrArg (λd=>some ((),d,())) (fsel r.je));have f9:Zcs (reqI r) 9#64=some ((),r.jq,()):=(rdF hL 9 (by omega) (by omega)).trans (congrArg (λd=>some ((),d,())) (fsel r.jq));have f10:Zcs (reqI r) 10#64=some ((),r.jt,()):=(rdF hL 10 (by omega) (by omega)).trans (congrArg (λd=>some ((),d,())) (fsel r.jt));have f11:Zcs (reqI r) 11#64=some ((),r.jm,()):=(rdF hL 11 (by omega) (by omega)).trans (congrArg (λd=>some ((),d,())) (fsel r.jm));have f12:Zbr (reqI r) 12#64=some ((),r.jk,()):=(rdN hL 12 (by omega) (by omega)).trans (congrArg (λd=>some ((),d,())) (nsel hs.c));have f13:Zcw (reqI r) 13#64=some ((),r.auth,()):=(rdW hL 13 (by omega) (by omega)).trans (congrArg (λd=>some ((),d,())) (asel h).1);have f14:Zcw (reqI r) 14#64=some ((),r.jv,()):=(rdW hL 14 (by omega) (by omega)).trans (congrArg (λd=>some ((),d,())) (psel r.jv));have f15:Zcd (reqI r) 15#64=some ((),r.box,()):=(rdB hL 15 (by omega) (by omega)).trans (congrArg (λd=>some ((),d,())) (bsel r.box 3));have f16:Zcd (reqI r) 16#64=some ((),r.proof,()):=(rdB hL 16 (by omega) (by omega)).trans (congrArg (λd=>some ((),d,())) (bsel r.proof 3));have f17:Zbr (reqI r) 17#64=some ((),r.jb,()):=(rdN hL 17 (by omega) (by omega)).trans (congrArg (λd=>some ((),d,())) (nsel hs.d));have f18:Zcd (reqI r) 18#64=some ((),r.iD,()):=(rdB hL 18 (by omega) (by omega)).trans (congrArg (λd=>some ((),d,())) (bsel r.iD 3));have f19:Zbr (reqI r) 19#64=some ((),r.count,()):=(rdN hL 19 (by omega) (by omega)).trans (congrArg (λd=>some ((),d,())) (nsel hs.e));unfold Zhq;rw[f1,f2,f3,f4,f5,f6,Vhla h,f8,f9,f10,f11,f12,f13,has_q h,f14,f15,f16,f17,f18,f19];simp only[bindS]
theorem Vrx{r:Jb}(h:(reqO r).2=0):valQ r=0/\(reqO r).1=kindB r::encA (reqI r):=by
 unfold reqO at h |-;by_cases hv:valQ r=0
 ·rw[Um hv];exact⟨hv,rfl⟩
 ·rw[Un hv]at h;exact absurd h hv
theorem Vaja{r:Jb}(h:GoodQ r):decO (encA (reqI r))=(reqI r,((encA (reqI r)).length:Int),0):=by
 have hd:=Vz8 (fitF h).enc.2 [];rw[List.append_nil]at hd;exact hd
theorem beqb(b:Bool):(b==b)=true:=by cases b<;>rfl
theorem Vxs(r:Jb)(h:r.list.length<900):Zaq r r=some ((),true,()):=by
 unfold Zaq;have e:Zaq_L0 ((r,()),(r,()),0,())=some (Sum.inr ((r,()),(r,()),())):=by
  unfold Zaq_L0 Yi3;obtain⟨t,_,h2⟩:=Vlq (f:=λ(y:Y_Zaq_L0)=>Zaq_L0b y.1 y.2.1 y.2.2.1) r.list.length (λi (t:Unit)=>((r,()),(r,()),((i:Nat):Int),())) (λt=>Sum.inr ((r,()),(r,()),())) (λi t=>True) (by omega) () trivial
   (by
    rintro i t hi _;refine⟨(),?_,trivial⟩;have hx:=Qc hi;simp only[Zaq_L0b,Vng hi,Ui];rw[gIn hx];simp only[bindS,Uk,Qb,Uj,Vbk (i:=i) (by omega)])
   (by rintro t _;simp only[Zaq_L0b,Vc0a,Uj])
  exact h2
 rw[e,Um rfl];simp only[Qb,Uj,bindS,Sum.elim_inr,Uk,Ui,beqb]
theorem Ve2(n:Int):in64 (Qj .i64 n):=by
 unfold in64 Qj;simp only[IntKind.bits,IntKind.signed];simp;omega
theorem dec_n{b:Ua}(h:(decO b).2.2=0):(decO b).1.length<=512:=by
 by_cases hl:512<(decO b).1.length
 ·exact absurd (Vik h).1 (Vlm hl)
 ·omega
theorem d6{n:Nat}(h:n<100000):n<1000000:=by omega
theorem Voz{l:List Ja}(h:Lt l)(hn:l.length<=512){k:Int}(hk:in64 k):∃r,Zhq k l=some ((),r,())/\SaneQ r/\r.kind=k:=by
 obtain⟨cs,c1,c2⟩:=Vaia h 7;obtain⟨b,hb⟩:∃b,Zdt l 13#64=some ((),b,()):=by
  obtain⟨v,b,e1,_⟩:=Look2 l 13#64 (by omega) h.d;unfold Zdt;rw[e1];exact⟨b,rfl⟩
 unfold Zhq;rw[pT h 1,pT h 2,pT h 3,pW h 4,pN h 5,pN h 6,c1,pF h 8,pF h 9,pF h 10,pF h 11,pN h 12,pW h 13,hb,pW h 14,pB h 15,pB h 16,pN h 17,pB h 18,pN h 19];simp only[bindS];exact⟨_,rfl,⟨d6 (Va3 h 1).2.2,d6 (Va3 h 2).2.2,d6 (Va3 h 3).2.2,by show cs.length<900;omega,d6 (Va3 h 15).2.2,d6 (Va3 h 16).2.2,d6 (Va3 h 18).2.2,Ve2 _,Ve2 _,Ve2 _,Ve2 _,Ve2 _,hk⟩,rfl⟩
theorem Ve4a(a0:Ua){l:List Ja}(h:Lt l)(z:Jb)(y3:Int×Ua×Ua×Ua×Ub×Int×Int×List Ua×Bool×Bool×Bool×Bool×Int×Ub×Bool×Ub×Ua×Ua×Int×Ua×Int×Unit){n0:List Ub}{s0:List Ua}(hn0:n0.length=20)(hs0:s0.length=20):∃n s,Zaf_L1 (a0,(z,()),l,y3,n0,s0,(1:Int),())=some (a0,(z,()),l,y3,n,s,())/\∀k,1<=k->k<=19->n[k]? = some (itm l k).number/\s[k]? = some (itm l k).data:=by
 unfold Zaf_L1 Yi7;obtain⟨t,h1,h2⟩:=Vlq (f:=λ(y:Y_Zaf_L1)=>Zaf_L1b y.1 y.2.1 y.2.2.1 y.2.2.2.1 y.2.2.2.2.1 y.2.2.2.2.2.1 y.2.2.2.2.2.2.1) 19
  (λi (t:List Ub×List Ua)=>(a0,(z,()),l,y3,t.1,t.2,((1+i:Nat):Int),())) (λt=>(a0,(z,()),l,y3,t.1,t.2,()))
  (λi t=>t.1.length=20/\t.2.length=20/\∀k,1<=k->k<=i->t.1[k]? = some (itm l k).number/\t.2[k]? = some (itm l k).data) (by omega) (n0,s0) ⟨hn0,hs0,λk h1 h2=>by omega⟩
  (by
   rintro i ⟨n,s⟩ hi ⟨h1,h2,h3⟩;dsimp only at *;obtain⟨b,hb⟩:=(Va3 h (1+i)).2.1;refine⟨(n.set (1+i) (itm l (1+i)).number,s.set (1+i) (itm l (1+i)).data),?_,by simp only[Qg];exact h1,by simp only[Qg];exact h2,?_⟩
   ·simp only[Zaf_L1b];rw[show (20:Int)=((20:Nat):Int) from rfl,Vng (n:=1+i) (m:=20) (by omega),dT ((0:Int)<=((1+i:Nat):Int)) (by omega),hb];simp only[Ui,bindS,Qf,Qn];rw[Qc (show 1+i<n.length by omega),Qc (show 1+i<s.length by omega)];simp only[bindS];rw[Vbk (i:=1+i) (by omega),show 1+i+1=1+(i+1) by omega]
   ·intro k k1 k2;dsimp only;rw[Qi,Qi];by_cases hk:1+i=k
    ·subst hk;rw[if_pos rfl,if_pos rfl,if_pos (by omega),if_pos (by omega)];exact⟨rfl,rfl⟩
    ·rw[if_neg hk,if_neg hk];exact h3 k k1 (by omega))
  (by rintro⟨n,s⟩ _;rfl)
 exact⟨t.1,t.2,h2,h1.2.2⟩
theorem Ve5a{l:List Ja}(h:Lt l):∃b,Zgn l 13=some ((),(itm l 13).number,(itm l 13).data,b,())/\Zdt l 13#64=some ((),b,()):=by
 obtain⟨v,b,e1,e2,e3,e4,e5,e6⟩:=Look2 l (Ql 64 13) (by have:=h.n;omega) h.d;obtain⟨c,hc⟩:=(Va3 h 13).2.1;have hc:Zgn l 13=some ((),(itm l 13).number,(itm l 13).data,c,()):=hc;refine⟨c,hc,?_⟩;unfold Zdt;rw[show Ziv l 13#64=some ((),v,b,()) from e1];have e2:Zel l (Qm 64 13)=some ((),v,b,()):=e2;unfold Zgn at hc;rw[e2]at hc;simp only[bindS]at hc |-;cases b
 ·have:false=c:=congrArg (λz:Unit×(Ub×Ua×Bool×Unit)=>z.2.2.2.1) (Qd hc);rw[this]
 ·cases v with
  |nil=>exact absurd rfl (e5 rfl)
  |cons x r=>
   simp only[Qb,Uj]at hc;rw[dT ((0:Int)<((x::r).length:Int)) (by rw[Qa];omega)]at hc;have:true=c:=congrArg (λz:Unit×(Ub×Ua×Bool×Unit)=>z.2.2.2.1) (Qd hc);rw[this]
def rdQ(l:List Ja)(k:Int)(v:List Ja)(b:Bool):Jb:=⟨k,(itm l 1).data,(itm l 2).data,(itm l 3).data,(itm l 4).number,smO (itm l 5).number,smO (itm l 6).number,(v.drop 1).map (·.data),decide ((itm l 8).number=1#64),decide ((itm l 9).number=1#64),decide ((itm l 10).number=1#64),decide ((itm l 11).number=1#64),smO (itm l 12).number,(itm l 13).number,b,(itm l 14).number,(itm l 15).data,(itm l 16).data,smO (itm l 17).number,(itm l 18).data,smO (itm l 19).number⟩
theorem Vbd{q:Jb}(h:GoodQ q)(hL:Lt (reqI q))(k:Nat)(h1:1<=k)(hk:k<=19):itm (reqI q) k=itO (useQ q) (valsQ q) k:=by
 have e:=(Va3 hL k).1;have e2:Zct (reqI q) (Ql 64 k)=some ((),itO (useQ q) (valsQ q) k,()):=Vgl (Vnh h) k h1 hk;rw[e2]at e;exact (congrArg (λz:Unit×(Ja×Unit)=>z.2.1) (Qd e)).symm
theorem Vaka{q:Jb}(h:GoodQ q)(hL:Lt (reqI q)){v:List Ja}{b c:Bool}(h7:Zel (reqI q) 7#64=some ((),v,c,()))(hb:Zdt (reqI q) 13#64=some ((),b,())):rdQ (reqI q) q.kind v b=q:=by
 have hs:=sms h;have ev:=Vxr hL (look_ok (Vnh h) 7 (by omega) (by omega)) h7;have ev2:v=bif decide ((0:Int)<(q.list.length:Int)) then certI q.list else []:=ev;have eb:b=q.jj:=by
  rw[has_q h]at hb;exact (congrArg (λz:Unit×(Bool×Unit)=>z.2.1) (Qd hb)).symm
 have f1:(itm (reqI q) 1).data=q.rP:=(congrArg (·.data) (Vbd h hL 1 (by omega) (by omega))).trans (tsel q.rP 4);have f2:(itm (reqI q) 2).data=q.user:=(congrArg (·.data) (Vbd h hL 2 (by omega) (by omega))).trans (tsel q.user 3);have f3:(itm (reqI q) 3).data=q.name:=(congrArg (·.data) (Vbd h hL 3 (by omega) (by omega))).trans (tsel q.name 4);have f4:(itm (reqI q) 4).number=q.jx:=(congrArg (·.number) (Vbd h hL 4 (by omega) (by omega))).trans (psel q.jx);have f5:smO (itm (reqI q) 5).number=q.jc:=(congrArg (λx:Ja=>smO x.number) (Vbd h hL 5 (by omega) (by omega))).trans (rsel hs.a);have f6:smO (itm (reqI q) 6).number=q.jd:=(congrArg (λx:Ja=>smO x.number) (Vbd h hL 6 (by omega) (by omega))).trans (rsel hs.b);have f8:decide ((itm (reqI q) 8).number=1#64)=q.je:=(congrArg (λx:Ja=>decide (x.number=1#64)) (Vbd h hL 8 (by omega) (by omega))).trans (fsel q.je);have f9:decide ((itm (reqI q) 9).number=1#64)=q.jq:=(congrArg (λx:Ja=>decide (x.number=1#64)) (Vbd h hL 9 (by omega) (by omega))).trans (fsel q.jq);have f10:decide ((itm (reqI q) 10).number=1#64)=q.jt:=(congrArg (λx:Ja=>decide (x.number=1#64)) (Vbd h hL 10 (by omega) (by omega))).trans (fsel q.jt);have f11:decide ((itm (reqI q) 11).number=1#64)=q.jm:=(congrArg (λx:Ja=>decide (x.number=1#64)) (Vbd h hL 11 (by omega) (by omega))).trans (fsel q.jm);have f12:smO (itm (reqI q) 12).number=q.jk:=(congrArg (λx:Ja=>smO x.number) (Vbd h hL 12 (by omega) (by omega))).trans (rsel hs.c);have f13:(itm (reqI q) 13).number=q.auth:=(congrArg (·.number) (Vbd h hL 13 (by omega) (by omega))).trans (asel h).1;have f14:(itm (reqI q) 14).number=q.jv:=(congrArg (·.number) (Vbd h hL 14 (by omega) (by omega))).trans (psel q.jv);have f15:(itm (reqI q) 15).data=q.box:=(congrArg (·.data) (Vbd h hL 15 (by omega) (by omega))).trans (bsel q.box 3);have f16:(itm (reqI q) 16).data=q.proof:=(congrArg (·.data) (Vbd h hL 16 (by omega) (by omega))).trans (bsel q.proof 3);have f17:smO (itm (reqI q) 17).number=q.jb:=(congrArg (λx:Ja=>smO x.number) (Vbd h hL 17 (by omega) (by omega))).trans (rsel hs.d);have f18:(itm (reqI q) 18).data=q.iD:=(congrArg (·.data) (Vbd h hL 18 (by omega) (by omega))).trans (bsel q.iD 3);have f19:smO (itm (reqI q) 19).number=q.count:=(congrArg (λx:Ja=>smO x.number) (Vbd h hL 19 (by omega) (by omega))).trans (rsel hs.e);have fc:(v.drop 1).map (·.data)=q.list:=by
  rw[ev2];cases hc:decide ((0:Int)<(q.list.length:Int))
  ·have:q.list=[]:=List.length_eq_zero_iff.1 (by have:=Up hc;omega);rw[this];rfl
  ·exact Vj6 q.list
 unfold rdQ;rw[f1,f2,f3,f4,f5,f6,fc,f8,f9,f10,f11,f12,f13,f14,f15,f16,f17,f18,f19,eb]
def bareZ:Jb:={}
def finQ(b:Ua)(r:Jb):Jb×Int:=bif !decide ((reqO r).2=0) then (bareZ,2) else bif !decide ((reqO r).1=b) then (bareZ,2) else (r,0)
theorem Vala{l:List Ja}(h:Lt l)(hn:l.length<=512){k:Int}(hk:in64 k){v:List Ja}(hv:v.length<=l.length)(b:Bool):SaneQ (rdQ l k v b):=
 ⟨d6 (Va3 h 1).2.2,d6 (Va3 h 2).2.2,d6 (Va3 h 3).2.2,by show ((v.drop 1).map (·.data)).length<900;rw[Qe,List.length_drop];omega,d6 (Va3 h 15).2.2,d6 (Va3 h 16).2.2,d6 (Va3 h 18).2.2,Ve2 _,Ve2 _,Ve2 _,Ve2 _,Ve2 _,hk⟩
theorem Vxt(b:Ua)(r:Jb):(bif !decide ((reqO r).2=0) then some ((),(bareZ,(2:Int),())) else bif !decide ((reqO r).1=b) then some ((),(bareZ,(2:Int),())) else some ((),(r,(0:Int),())))=some ((),(finQ b r).1,(finQ b r).2,()):=by
 unfold finQ;cases decide ((reqO r).2=0)
 ·rfl
 ·cases decide ((reqO r).1=b)<;>rfl
theorem Ve6a{x:UInt8}{t:Ua}(hl:(x::t).length<=4096)(h1:1<=x.toBitVec.toNat)(h14:x.toBitVec.toNat<=14):((decO t).2.2≠0->Zaf (x::t)=some ((),bareZ,(decO t).2.2,())) /\
  ((decO t).2.2=0->∃r,SaneQ r/\r.kind=(x.toBitVec.toNat:Int)/\Zaf (x::t)=some ((),(finQ (x::t) r).1,(finQ (x::t) r).2,())/\∀q,GoodQ q->q.kind=(x.toBitVec.toNat:Int)->(decO t).1=reqI q->r=q):=by
 have g0:getI (x::t) (0:Int)=some x:=rfl;unfold Zaf;rw[dF (((x::t).length:Int)=0) (by rw[Qa];omega),dF ((4096:Int)<((x::t).length:Int)) (by omega),g0];simp only[Uj,bindS];rw[Vfc,dT ((1:Int)<=(x.toBitVec.toNat:Int)) (by omega),dT ((x.toBitVec.toNat:Int)<=14) (by omega),dT ((1:Int)<=((x::t).length:Int)) (by rw[Qa];omega)];simp only[bindS,Bool.and_self,Qb,Uj,Ui,Qh,Qk];rw[Vj0 _ (by rw[Qa]at hl;omega),bindU];dsimp only;refine⟨λh=>by rw[Un h];rfl,λh=>?_⟩;have hL:=Vxq h;have hn:=dec_n h;rw[Um h];simp only[Qb,Uj];generalize (decO t).1=l at hL hn;generalize hb:x::t=b;obtain⟨v,bv,v1,v2,v3,v4,_⟩:=Look2 l 7#64 (by omega) hL.d;obtain⟨c,c1,c2⟩:=Ve5a hL;rw[Vxp (k:=7) (show Zel l (Qm 64 7)=some ((),v,bv,()) from v2) (by omega)];simp only[bindS];obtain⟨n,s,e1,e2⟩:=Ve4a b hL bareZ ((x.toBitVec.toNat:Int),[],[],[],0#64,0,0,(v.drop 1).map (·.data),false,false,false,false,0,0#64,false,0#64,[],[],0,[],0,()) (n0:=[0#64,0#64,0#64,0#64,0#64,0#64,0#64,0#64,0#64,0#64,0#64,0#64,0#64,0#64,0#64,0#64,0#64,0#64,0#64,0#64]) (s0:=[[],[],[],[],[],[],[],[],[],[],[],[],[],[],[],[],[],[],[],[]]) rfl rfl;have e1:Zaf_L1 (b,({},()),l,((x.toBitVec.toNat:Int),[],[],[],0#64,0,0,(v.drop 1).map (·.data),false,false,false,false,0,0#64,false,0#64,[],[],0,[],0,()),[0#64,0#64,0#64,0#64,0#64,0#64,0#64,0#64,0#64,0#64,0#64,0#64,0#64,0#64,0#64,0#64,0#64,0#64,0#64,0#64],[[],[],[],[],[],[],[],[],[],[],[],[],[],[],[],[],[],[],[],[]],1,())=_:=e1;have hS:=Vala hL hn (k:=(x.toBitVec.toNat:Int)) (by unfold in64;omega) v3 c;refine⟨rdQ l (x.toBitVec.toNat:Int) v c,hS,rfl,?_,?_⟩
 ·have hE:=Vff _ hS;rw[<-Vxt];unfold rdQ at hE |-;rw[e1];simp only[bindS];rw[c1];simp only[bindS];rw[(e2 1 (by omega) (by omega)).2,(e2 2 (by omega) (by omega)).2,(e2 3 (by omega) (by omega)).2,(e2 4 (by omega) (by omega)).1,(e2 5 (by omega) (by omega)).1,(e2 6 (by omega) (by omega)).1,(e2 8 (by omega) (by omega)).1,(e2 9 (by omega) (by omega)).1,(e2 10 (by omega) (by omega)).1,(e2 11 (by omega) (by omega)).1,(e2 12 (by omega) (by omega)).1,(e2 13 (by omega) (by omega)).1,(e2 14 (by omega) (by omega)).1,(e2 15 (by omega) (by omega)).2,(e2 16 (by omega) (by omega)).2,(e2 17 (by omega) (by omega)).1,(e2 18 (by omega) (by omega)).2,(e2 19 (by omega) (by omega)).1];simp only[bindS,Vhja];rw[hE];simp only[bindS];rfl
 ·intro q hq hk hqi;subst hqi;rw[<-hk];exact Vaka hq hL v2 c2
theorem Vama{x:UInt8}{t:Ua}{r1 r2:Jb}(hr1:r1.kind=(x.toBitVec.toNat:Int))(hr2:r2.kind=(x.toBitVec.toNat:Int))(h1:∀q,GoodQ q->q.kind=(x.toBitVec.toNat:Int)->(decO t).1=reqI q->r1=q)(h2:∀q,GoodQ q->q.kind=(x.toBitVec.toNat:Int)->(decO t).1=reqI q->r2=q):finQ (x::t) r1=finQ (x::t) r2:=by
 have key:∀r s:Jb,r.kind=(x.toBitVec.toNat:Int)->(∀q,GoodQ q->q.kind=(x.toBitVec.toNat:Int)->(decO t).1=reqI q->s=q)->(reqO r).2=0->(reqO r).1=x::t->s=r:=by
  intro r s hr hs h0 hbb;obtain⟨hv,e⟩:=Vrx h0;have hg:=Vit hv;rw[e]at hbb;have ht:t=encA (reqI r):=(List.cons.inj hbb).2.symm;refine hs r hg hr ?_;rw[ht,Vaja hg]
 by_cases a1:(reqO r1).2=0/\(reqO r1).1=x::t
 ·rw[key r1 r2 hr1 h2 a1.1 a1.2]
 ·by_cases a2:(reqO r2).2=0/\(reqO r2).1=x::t
  ·rw[key r2 r1 hr2 h1 a2.1 a2.2]
  ·have no:∀r:Jb,¬ ((reqO r).2=0/\(reqO r).1=x::t)->finQ (x::t) r=(bareZ,2):=by
    intro r h;unfold finQ;by_cases h0:(reqO r).2=0
    ·rw[Um h0,Un (λh1=>h ⟨h0,h1⟩)];rfl
    ·rw[Un h0];rfl
   rw[no r1 a1,no r2 a2]
theorem Ve7a{x:UInt8}{t:Ua}(hl:(x::t).length<=4096)(h1:1<=x.toBitVec.toNat)(h14:x.toBitVec.toNat<=14):((decO t).2.2≠0->Zbo (x::t)=some ((),bareZ,(decO t).2.2,())) /\
  ((decO t).2.2=0->∃r,SaneQ r/\r.kind=(x.toBitVec.toNat:Int)/\Zbo (x::t)=some ((),(finQ (x::t) r).1,(finQ (x::t) r).2,())/\∀q,GoodQ q->q.kind=(x.toBitVec.toNat:Int)->(decO t).1=reqI q->r=q):=by
 have g0:getI (x::t) (0:Int)=some x:=rfl;unfold Zbo;rw[dF (((x::t).length:Int)=0) (by rw[Qa];omega),dF ((4096:Int)<((x::t).length:Int)) (by omega),g0];simp only[Uj,bindS];rw[dF ((x.toBitVec.toNat:Int)<1) (by omega),dF ((14:Int)<(x.toBitVec.toNat:Int)) (by omega),dT ((1:Int)<=((x::t).length:Int)) (by rw[Qa];omega)];simp only[bindS,Uj,Ui,Qh,Qk];rw[Vw6 _ (by rw[Qa]at hl;omega),bindU];dsimp only;refine⟨λh=>by rw[Un h];rfl,λh=>?_⟩;have hL:=Vxq h;have hn:=dec_n h;rw[Um h];simp only[Qb,Uj];obtain⟨r,p1,p2,p3⟩:=Voz hL hn (k:=(x.toBitVec.toNat:Int)) (by unfold in64;omega);refine⟨r,p2,p3,?_,λq hq hk hqi=>?_⟩
 ·rw[p1,bindU];dsimp only;rw[Vry r p2,bindU];dsimp only;rw[<-Vxt];unfold Zis;simp only[bindS];rfl
 ·have:=Vni hq;rw[hk,<-hqi,p1]at this;exact congrArg (λz:Unit×(Jb×Unit)=>z.2.1) (Qd this)
theorem Vxu(b:Ua){r:Jb}(h:SaneQ r):(finQ b r).1.list.length<900:=by
 unfold finQ;cases decide ((reqO r).2=0)
 ·show 0<900;omega
 ·simp only[Qb,Uj];cases decide ((reqO r).1=b)
  ·show 0<900;omega
  ·exact h.li
theorem Vana(b:Ua):∃r e,Zbo b=some ((),r,e,())/\Zaf b=some ((),r,e,())/\r.list.length<900:=by
 have sb:bareZ.list.length<900:=by show 0<900;omega
 cases b with
 |nil=>exact⟨bareZ,1,rfl,rfl,sb⟩
 |cons x t=>
  have ln:¬ ((x::t).length:Int)=0:=by rw[Qa];omega
  have g0:getI (x::t) (0:Int)=some x:=rfl;by_cases hl:(4096:Int)<((x::t).length:Int)
  ·refine⟨bareZ,8,?_,?_,sb⟩
   ·unfold Zbo;rw[Un ln,Um hl];rfl
   ·unfold Zaf;rw[Un ln,Um hl];rfl
  by_cases hk:1<=x.toBitVec.toNat/\x.toBitVec.toNat<=14
  ·have hp:=Ve7a (x:=x) (t:=t) (by omega) hk.1 hk.2;have hr:=Ve6a (x:=x) (t:=t) (by omega) hk.1 hk.2;by_cases hd:(decO t).2.2=0
   ·obtain⟨r1,p1,p2,p3,p4⟩:=hp.2 hd;obtain⟨r2,q1,q2,q3,q4⟩:=hr.2 hd;rw[Vama q2 p2 q4 p4]at q3;exact⟨_,_,p3,q3,Vxu _ p1⟩
   ·exact⟨bareZ,_,hp.1 hd,hr.1 hd,sb⟩
  ·refine⟨bareZ,3,?_,?_,sb⟩
   ·unfold Zbo;rw[Un ln,Un hl,g0];simp only[Uj,bindS];by_cases h1:(x.toBitVec.toNat:Int)<1
    ·rw[Um h1];rfl
    ·rw[Un h1,dT ((14:Int)<(x.toBitVec.toNat:Int)) (by omega)];rfl
   ·unfold Zaf;rw[Un ln,Un hl,g0];simp only[Uj,bindS];rw[Vfc];have:(decide ((1:Int)<=(x.toBitVec.toNat:Int))&&decide ((x.toBitVec.toNat:Int)<=14))=false:=by
     rw[Bool.and_eq_false_iff];by_cases h1:(x.toBitVec.toNat:Int)<1
     ·exact .inl (Un (by omega))
     ·exact .inr (Un (by omega))
    rw[this];rfl
theorem Vlr(b:Ua):Zdy b=some ((),true,()):=by
 obtain⟨r,e,h1,h2,h3⟩:=Vana b;unfold Zdy;rw[h1,h2];simp only[bindS,Uk,Ui];rw[Vxs r h3];rfl
theorem Vf2(a0:Ua)(a1 a2 a3:Int)(a4:UInt8)(hd:MessageReads_dom a0 a1 a2 a3 a4):Ok (Zah a0 a1 a2 a3 a4) λr=>r.2.1=true:=by
 unfold Zah;have aw:Ok ((Zdx).bind λr1=>(some ((),(r1.2.1,())):Option (Unit×(Bool×Unit)))) λr=>r.2.1=true:=by rw[Vhsa];exact⟨_,rfl,rfl⟩
 refine Ok.cond (λ_=>aw) (λ_=>?_);refine Ok.bm (Vsd _ _) ?_;rintro⟨u,x,u2⟩ hx;dsimp only at hx |-;rw[Vff x hx];simp only[bindS];have hl:=Vnl x;generalize (reqO x).1=c at hl;refine Ok.bm (Q:=λ(j:Ua×UInt8×Ua×Unit)=>j.2.2.1.length<900000000) ?_ ?_
 ·refine Ok.cond (λhc=>?_) (λ_=>Ok.some hl);have hc:=Uo hc;obtain⟨v,hv,ev⟩:=mask a3 65535 (by omega);rw[show ((65535:Nat):Int)=(65535:Int) from rfl]at ev;rw[ev,dF ((c.length:Int)=0) (by omega)];have em:Int.tmod (v:Int) (c.length:Int)=((v % c.length:Nat):Int):=by
   rw[Int.tmod_eq_emod_of_nonneg (by omega)];rfl
  have hm:=Nat.mod_lt v (show 0<c.length by omega);rw[em,Vxo hm,Qf,Qc hm];simp only[Uj,Ui,bindS];exact Ok.some (by dsimp only;rw[Qg];exact hl)
 ·rintro⟨j1,j2,j3,u⟩ hj;dsimp only at hj |-;rw[Vlr,Vlr,Vlr,Vcu (by rw[List.length_singleton];omega)];simp only[bindS,Ui];exact aw
end Go.Proofs.YtnfhkhlbdgbkjaaGreatDoor

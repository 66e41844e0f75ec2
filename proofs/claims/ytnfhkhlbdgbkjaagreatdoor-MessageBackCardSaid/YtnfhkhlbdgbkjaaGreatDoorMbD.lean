/- Requests: what both readers read; a valid request is read back. -/
import Derived.Test.YtnfhkhlbdgbkjaaGreatDoorMqW
set_option linter.unusedVariables false
set_option linter.unusedSimpArgs false
set_option maxRecDepth 100000
namespace Go.Proofs.YtnfhkhlbdgbkjaaGreatDoor
open Go Go.Abs
def reqI(r:Jb):List Ja:=chosI (useQ r) (valsQ r)
theorem Vww{r:Jb}(h:GoodQ r):Look (useQ r) (valsQ r):=by
 have hF:=fitF h;exact⟨by rw[hF.n];omega,hF.l,λo ho=>Vid (hF.v o ho) (by omega) (by have:=(hF.d o ho).1;omega),hF.enc.2,by have:=hF.len;omega,hF.data⟩
structure Sms(r:Jb):Prop where
 a:sm r.jd
 b:sm r.je
 c:sm r.jk
 d:sm r.jb
 e:sm r.count
theorem sms{r:Jb}(h:GoodQ r):Sms r:=by
 have hn:=h.nu;unfold numQ at hn;simp only[Bool.and_eq_true]at hn;exact⟨sm_of hn.1,sm_of hn.2.1,sm_of hn.2.2.1,sm_of hn.2.2.2.1,sm_of hn.2.2.2.2⟩
theorem asel{r:Jb}(h:GoodQ r):(bif (r.jl||!decide (r.auth=0#64)) then (⟨1,r.auth,[]⟩:Ja) else zI).number=r.auth/\(r.jl||!decide (r.auth=0#64))=r.jl:=by
 have ha:=h.au;cases h1:decide (r.auth=0#64)<;>cases h2:r.jl<;>rw[h1,h2]at ha
 ·cases ha
 ·exact⟨rfl,rfl⟩
 ·exact⟨(Uo h1).symm,rfl⟩
 ·exact⟨rfl,rfl⟩
theorem Vd5a{r:Jb}(h:GoodQ r):Zas (reqI r) 7#64=some ((),r.list.map bytesI,()):=by
 unfold Zas reqI;rw[look_ok (Vww h) 7 (by omega) (by omega)];simp only[bindS];have eu:(useQ r).getD (7-1) false=decide ((0:Int)<(r.list.length:Int)):=rfl;have ev:(valsQ r).getD (7-1) []=certI r.list:=rfl;rw[eu,ev];cases hc:decide ((0:Int)<(r.list.length:Int))
 ·have:r.list=[]:=List.length_eq_zero_iff.1 (by have:=Up hc;omega);rw[this];rfl
 ·simp only[Bool.not_true,Uj,Ui];unfold certI;have hl:=Vfs r.list;have:=h.li;rw[Vgda _ (λo ho=>by obtain⟨c,hc,rfl⟩:=List.mem_map.1 ho;exact Vid (Vk8 (by rw[h.el c hc];omega)) (by omega) (by simp[bytesI])) (by rw[List.length_map];omega) (by unfold certI at hl;omega)];rfl
theorem Vgia{r:Jb}(h:GoodQ r):Zct (reqI r) 7#64=some ((),r.list,()):=by
 unfold Zct;rw[Vd5a h];simp only[bindS];unfold Zct_L0 i4;have hc:=h.li;rw[List.length_map,show ((0:Int))=((0:Nat):Int) from rfl,Vp4 r.list id (λi t=>(t,r.list.map bytesI,(r.list.length:Int),(i:Int),())) (r.list,()) (by omega)]
 ·rfl
 ·intro i x hx;have h1:=Va7 hx;simp only[Zct_L0b,Vh9 hx,List.length_map,Ui,Vb0 (i:=i) (by omega),Int.toNat_natCast,Vgfa hx,bindS,dT ((0:Int)<=(i:Int)) (by omega),Bool.and_true];have eg:getI (bytesI x) (0:Int)=some ⟨3,0#64,x⟩:=rfl;rw[eg];simp only[bindS];rw[Vk7 (by simp;omega)];rfl
 ·simp[Zct_L0b]
theorem has_q{r:Jb}(h:GoodQ r):Zdr (reqI r) 13#64=some ((),r.jl,()):=by
 unfold Zdr reqI;rw[look_ok (Vww h) 13 (by omega) (by omega)];have eu:(useQ r).getD (13-1) false=(r.jl||!decide (r.auth=0#64)):=rfl;rw[eu,(asel h).2];rfl
theorem Vmz{r:Jb}(h:GoodQ r):Zhl r.kind (reqI r)=some ((),r,()):=by
 have hL:=Vww h;have hs:=sms h;have f1:Zcu (reqI r) 1#64=some ((),r.rP,()):=(rdT hL 1 (by omega) (by omega)).trans (congrArg (λd=>some ((),d,())) (tsel r.rP 4));have f2:Zcu (reqI r) 2#64=some ((),r.user,()):=(rdT hL 2 (by omega) (by omega)).trans (congrArg (λd=>some ((),d,())) (tsel r.user 3));have f3:Zcu (reqI r) 3#64=some ((),r.name,()):=(rdT hL 3 (by omega) (by omega)).trans (congrArg (λd=>some ((),d,())) (tsel r.name 4));have f4:Zcv (reqI r) 4#64=some ((),r.jz,()):=(rdW hL 4 (by omega) (by omega)).trans (congrArg (λd=>some ((),d,())) (psel r.jz));have f5:Zbq (reqI r) 5#64=some ((),r.jd,()):=(rdN hL 5 (by omega) (by omega)).trans (congrArg (λd=>some ((),d,())) (nsel hs.a));have f6:Zbq (reqI r) 6#64=some ((),r.je,()):=(rdN hL 6 (by omega) (by omega)).trans (congrArg (λd=>some ((),d,())) (nsel hs.b));have f8:Zcr (reqI r) 8#64=some ((),r.jg,()):=(rdF hL 8 (by omega) (by omega)).trans (congrArg (λd=>some ((),d,())) (fsel r.jg));have f9:Zcr (reqI r) 9#64=some ((),r.js,()):=(rdF hL 9 (by omega) (by omega)).trans (congrArg (λd=>some ((),d,())) (fsel r.js));have f10:Zcr (reqI r) 10#64=some ((),r.jt,()):=(rdF hL 10 (by omega) (by omega)).trans (congrArg (λd=>some ((),d,())) (fsel r.jt));have f11:Zcr (reqI r) 11#64=some ((),r.jo,()):=(rdF hL 11 (by omega) (by omega)).trans (congrArg (λd=>some ((),d,())) (fsel r.jo));have f12:Zbq (reqI r) 12#64=some ((),r.jk,()):=(rdN hL 12 (by omega) (by omega)).trans (congrArg (λd=>some ((),d,())) (nsel hs.c));have f13:Zcv (reqI r) 13#64=some ((),r.auth,()):=(rdW hL 13 (by omega) (by omega)).trans (congrArg (λd=>some ((),d,())) (asel h).1);have f14:Zcv (reqI r) 14#64=some ((),r.jv,()):=(rdW hL 14 (by omega) (by omega)).trans (congrArg (λd=>some ((),d,())) (psel r.jv));have f15:Zcc (reqI r) 15#64=some ((),r.box,()):=(rdB hL 15 (by omega) (by omega)).trans (congrArg (λd=>some ((),d,())) (bsel r.box 3));have f16:Zcc (reqI r) 16#64=some ((),r.proof,()):=(rdB hL 16 (by omega) (by omega)).trans (congrArg (λd=>some ((),d,())) (bsel r.proof 3));have f17:Zbq (reqI r) 17#64=some ((),r.jb,()):=(rdN hL 17 (by omega) (by omega)).trans (congrArg (λd=>some ((),d,())) (nsel hs.d));have f18:Zcc (reqI r) 18#64=some ((),r.iD,()):=(rdB hL 18 (by omega) (by omega)).trans (congrArg (λd=>some ((),d,())) (bsel r.iD 3));have f19:Zbq (reqI r) 19#64=some ((),r.count,()):=(rdN hL 19 (by omega) (by omega)).trans (congrArg (λd=>some ((),d,())) (nsel hs.e));unfold Zhl;rw[f1,f2,f3,f4,f5,f6,Vgia h,f8,f9,f10,f11,f12,f13,has_q h,f14,f15,f16,f17,f18,f19];simp only[bindS]
theorem Vrh{r:Jb}(h:(reqO r).2=0):valQ r=0/\(reqO r).1=kindB r::encA (reqI r):=by
 unfold reqO at h |-;by_cases hv:valQ r=0
 ·rw[Um hv];exact⟨hv,rfl⟩
 ·rw[Un hv]at h;exact absurd h hv
theorem Vzj{r:Jb}(h:GoodQ r):decO (encA (reqI r))=(reqI r,((encA (reqI r)).length:Int),0):=by
 have hd:=Vy8 (fitF h).enc.2 [];rw[List.append_nil]at hd;exact hd
theorem beqb(b:Bool):(b==b)=true:=by cases b<;>rfl
theorem Vwx(r:Jb)(h:r.list.length<900):Zap r r=some ((),true,()):=by
 unfold Zap;have e:Zap_L0 ((r,()),(r,()),0,())=some (Sum.inr ((r,()),(r,()),())):=by
  unfold Zap_L0 i3;obtain⟨t,_,h2⟩:=Vd4a (f:=λ(y:Y_Zap_L0)=>Zap_L0b y.1 y.2.1 y.2.2.1) r.list.length (λi (t:Unit)=>((r,()),(r,()),((i:Nat):Int),())) (λt=>Sum.inr ((r,()),(r,()),())) (λi t=>True) (by omega) () trivial
   (by
    rintro i t hi _;refine⟨(),?_,trivial⟩;have hx:=List.getElem?_eq_getElem hi;simp only[Zap_L0b,Vgga hi,Ui];rw[gIn hx];simp only[bindS,Uk,Bool.not_true,Uj,Vb0 (i:=i) (by omega)])
   (by rintro t _;simp only[Zap_L0b,Vgha,Uj])
  exact h2
 rw[e,Um rfl];simp only[Bool.not_true,Uj,bindS,Sum.elim_inr,Uk,Ui,beqb]
theorem d6{n:Nat}(h:n<100000):n<1000000:=by omega
end Go.Proofs.YtnfhkhlbdgbkjaaGreatDoor

/- The bytes of a request and its digest: both are one. -/
import Derived.Test.YtnfhkhlbdgbkjaaGreatDoorMqF
set_option linter.unusedVariables false
set_option linter.unusedSimpArgs false
set_option maxRecDepth 100000
namespace Go.Proofs.YtnfhkhlbdgbkjaaGreatDoor
open Go Go.Abs
open _root_.BitVec renaming ofInt → Qa
open _root_.Bool renaming not_true → Qb
open _root_.List renaming flatten_cons → Qc
open _root_.UInt8 renaming ofBitVec → Qd
theorem Vqa{r:Jb}(h:GoodQ r):r.iD.length<=176:=by
 have hi:=h.id;unfold idsQ at hi;rw[show r.list.all idl=true from List.all_eq_true.2 λx hx=>Um (by rw[h.el x hx];rfl)]at hi;simp only[Qb,Uj]at hi;cases hb:(mkQ r.kind).getLsbD 18
 ·have hf:=h.ft;unfold fitQ at hf;have:=List.all_eq_true.1 hf 17 (by decide);rw[hb,show (useQ r).getD 17 false=decide ((0:Int)<(r.iD.length:Int)) from rfl]at this;simp at this;rw[this];simp
 ·rw[hb]at hi;cases hc:decide ((r.iD.length:Int)=176)
  ·rw[hc]at hi;simp at hi
  ·have:=Uo hc;omega
theorem Vwy{r:Jb}(h:GoodQ r):(valsQ r).flatten.length<=400:=by
 have:=Vfs r.list;have:=h.li;unfold valsQ;simp only[Qc,List.flatten_nil,List.length_append,textI,bytesI,uintI,boolI,List.length_cons,List.length_nil];omega
theorem fitF{r:Jb}(h:GoodQ r):Fit (useQ r) (valsQ r):=
 ⟨rfl,rfl,λo ho=>(Voe h (by have:=Vqa h;omega) o ho).1,Vwy h,λo ho=>(Voe h (by have:=Vqa h;omega) o ho).2.1,Vefa h⟩
theorem fv_s3(s:Ua)(li au:List Ja)(k:Nat)(h7:Nat.beq k 7=false)(h13:Nat.beq k 13=false)(h1:(Nat.beq k 1||Nat.beq k 3)=false):fv 0#64 s false li au k=bif !decide (s=[]) then bytesI s else []:=by
 unfold fv;rw[h7,h13,h1];cases decide (s=[])<;>rfl
theorem fv_s4(s:Ua)(li au:List Ja)(k:Nat)(h7:Nat.beq k 7=false)(h13:Nat.beq k 13=false)(h1:(Nat.beq k 1||Nat.beq k 3)=true):fv 0#64 s false li au k=bif !decide (s=[]) then textI s else []:=by
 unfold fv;rw[h7,h13,h1];cases decide (s=[])<;>rfl
theorem fv_n1(n:Ub)(li au:List Ja)(k:Nat)(h7:Nat.beq k 7=false)(h13:Nat.beq k 13=false):fv n [] false li au k=bif !decide (n=0#64) then uintI n else []:=by
 unfold fv;rw[h7,h13];cases decide (n=0#64)<;>rfl
theorem fv_b1(b:Bool)(li au:List Ja)(k:Nat)(h7:Nat.beq k 7=false)(h13:Nat.beq k 13=false):fv 0#64 [] b li au k=bif b then boolI b else []:=by
 unfold fv;rw[h7,h13];cases b<;>rfl
theorem Vgna(l:List Ua):liI l=certI l:=by
 unfold liI certI arrI;have:(l.map bytesI).flatten=l.map λx=>(⟨3,0#64,x⟩:Ja):=by
  induction l with
  |nil=>rfl
  |cons a l ih=>simp only[List.map_cons,Qc,ih];rfl
 rw[this,List.length_map];rfl
theorem Vgoa{r:Jb}(h:SaneQ r)(g:GoodQ r):GQ r=[]::fld (useQ r) (valsQ r):=by
 have e1:FQ r 1=bif !decide (r.rP=[]) then textI r.rP else []:=fv_s4 _ _ _ 1 rfl rfl rfl;have e2:FQ r 2=bif !decide (r.user=[]) then bytesI r.user else []:=fv_s3 _ _ _ 2 rfl rfl rfl;have e3:FQ r 3=bif !decide (r.name=[]) then textI r.name else []:=fv_s4 _ _ _ 3 rfl rfl rfl;have e4:FQ r 4=bif !decide (r.jz=0#64) then uintI r.jz else []:=fv_n1 _ _ _ 4 rfl rfl;have e5:FQ r 5=bif !decide (r.jd=0) then uintI (Qa 64 r.jd) else []:=(fv_n1 _ _ _ 5 rfl rfl).trans (by rw[show (numsQ r).getD 5 0#64=Qa 64 r.jd from rfl,Vew h.i1]);have e6:FQ r 6=bif !decide (r.je=0) then uintI (Qa 64 r.je) else []:=(fv_n1 _ _ _ 6 rfl rfl).trans (by rw[show (numsQ r).getD 6 0#64=Qa 64 r.je from rfl,Vew h.i2]);have e7:FQ r 7=bif decide ((0:Int)<(r.list.length:Int)) then certI r.list else []:=by rw[<-Vgna];rfl
 have e8:FQ r 8=bif r.jg then boolI r.jg else []:=fv_b1 _ _ _ 8 rfl rfl;have e9:FQ r 9=bif r.js then boolI r.js else []:=fv_b1 _ _ _ 9 rfl rfl;have e10:FQ r 10=bif r.jt then boolI r.jt else []:=fv_b1 _ _ _ 10 rfl rfl;have e11:FQ r 11=bif r.jo then boolI r.jo else []:=fv_b1 _ _ _ 11 rfl rfl;have e12:FQ r 12=bif !decide (r.jk=0) then uintI (Qa 64 r.jk) else []:=(fv_n1 _ _ _ 12 rfl rfl).trans (by rw[show (numsQ r).getD 12 0#64=Qa 64 r.jk from rfl,Vew h.i3]);have e13:FQ r 13=bif (r.jl||!decide (r.auth=0#64)) then uintI r.auth else []:=by
  show auQ r=_;unfold auQ;have ha:=g.au;revert ha;cases r.jl<;>cases decide (r.auth=0#64)<;>simp[uintI]
 have e14:FQ r 14=bif !decide (r.jv=0#64) then uintI r.jv else []:=fv_n1 _ _ _ 14 rfl rfl;have e15:FQ r 15=bif decide ((0:Int)<(r.box.length:Int)) then bytesI r.box else []:=(fv_s3 _ _ _ 15 rfl rfl rfl).trans (by rw[posl];rfl);have e16:FQ r 16=bif decide ((0:Int)<(r.proof.length:Int)) then bytesI r.proof else []:=(fv_s3 _ _ _ 16 rfl rfl rfl).trans (by rw[posl];rfl);have e17:FQ r 17=bif !decide (r.jb=0) then uintI (Qa 64 r.jb) else []:=(fv_n1 _ _ _ 17 rfl rfl).trans (by rw[show (numsQ r).getD 17 0#64=Qa 64 r.jb from rfl,Vew h.i4]);have e18:FQ r 18=bif decide ((0:Int)<(r.iD.length:Int)) then bytesI r.iD else []:=(fv_s3 _ _ _ 18 rfl rfl rfl).trans (by rw[posl];rfl);have e19:FQ r 19=bif !decide (r.count=0) then uintI (Qa 64 r.count) else []:=(fv_n1 _ _ _ 19 rfl rfl).trans (by rw[show (numsQ r).getD 19 0#64=Qa 64 r.count from rfl,Vew h.i5]);unfold GQ;rw[e1,e2,e3,e4,e5,e6,e7,e8,e9,e10,e11,e12,e13,e14,e15,e16,e17,e18,e19];rfl
def kindB(r:Jb):UInt8:=Qd (Qa 8 r.kind)
def reqO(r:Jb):Ua×Int:=bif !decide (valQ r=0) then ([],valQ r) else (kindB r::encA (chosI (useQ r) (valsQ r)),0)
theorem Vjs(r:Jb)(h:SaneQ r):Zbo r=some ((),(reqO r).1,(reqO r).2,()):=by
 unfold Zbo reqO;rw[Vm1 r h];simp only[bindU];by_cases hv:valQ r=0
 ·have hg:=Vii hv;rw[Um hv];simp only[Qb,Uj];obtain⟨t,u1,u2⟩:=Vb2a r;rw[u1];simp only[bindU,Vbxa,Vf9a,Vgaa,Vgba];rw[(Vjr hg.li (λc hc=>by rw[hg.el c hc];omega)).1];simp only[bindU];have e:=Vwu (fitF hg) (kindB r) u2;unfold valsQ kindB at e;rw[e];rfl
 ·rw[Un hv];rfl
theorem Vof(r:Jb)(h:SaneQ r):Zaf r=some ((),(reqO r).1,(reqO r).2,()):=by
 unfold Zaf reqO;rw[Vcc r h];simp only[bindU];by_cases hv:valQ r=0
 ·have hg:=Vii hv;rw[Um hv];simp only[Qb,Uj];rw[Vm2 r h.li];simp only[bindU];have e:=Vrg (fitF hg) λo ho=>(Voe hg (by have:=Vqa hg;omega) o ho).2.2;rw[<-Vgoa h hg]at e;unfold GQ at e;rw[e];simp only[bindU];have hle:=Vk9 (chosI (useQ r) (valsQ r)) (fitF hg).data;have hl:=(fitF hg).len;rw[show small ([Qd (Qa 8 r.kind)].length+(encA (chosI (useQ r) (valsQ r))).length) 1=true from by unfold small;simp;omega];rfl
 ·rw[Un hv];rfl
end Go.Proofs.YtnfhkhlbdgbkjaaGreatDoor

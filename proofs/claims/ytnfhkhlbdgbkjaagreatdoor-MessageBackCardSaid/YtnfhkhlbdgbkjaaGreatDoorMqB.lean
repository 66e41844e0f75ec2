/- The error of a request: what the program's Validate answers. -/
import Derived.Test.YtnfhkhlbdgbkjaaGreatDoorMqA
set_option linter.unusedVariables false
set_option linter.unusedSimpArgs false
set_option maxRecDepth 100000
namespace Go.Proofs.YtnfhkhlbdgbkjaaGreatDoor
open Go Go.Abs
open _root_.BitVec renaming getLsbD_and → Qa, getLsbD_shiftLeft → Qc, eq_of_getLsbD_eq → Qd, getLsbD_one → Qe, getLsbD_not → Qf
open _root_.List renaming getD_eq_getElem?_getD → Qb
theorem bindU{α β:Type}(x:α)(f:α->Option β):(some x).bind f=f x:=by cases h:f x<;>exact h
def in64(n:Int):Prop:=-9223372036854775808<=n/\n<9223372036854775808
structure SaneQ(r:Jb):Prop where
 rp:r.rP.length<1000000
 us:r.user.length<1000000
 nm:r.name.length<1000000
 li:r.list.length<900
 bx:r.box.length<1000000
 pf:r.proof.length<1000000
 ii:r.iD.length<1000000
 i1:in64 r.jd
 i2:in64 r.je
 i3:in64 r.jk
 i4:in64 r.jb
 i5:in64 r.count
 i6:in64 r.kind
def useQ(r:Jb):List Bool:=[(!decide (r.rP=([]:Ua))),(!decide (r.user=([]:Ua))),(!decide (r.name=([]:Ua))),(!decide (r.jz=0#64)),(!decide (r.jd=(0:Int))),(!decide (r.je=(0:Int))),(decide ((0:Int)<((r.list).length:Int))),r.jg,r.js,r.jt,r.jo,(!decide (r.jk=(0:Int))),(r.jl||!decide (r.auth=0#64)),(!decide (r.jv=0#64)),(decide ((0:Int)<((r.box).length:Int))),(decide ((0:Int)<((r.proof).length:Int))),(!decide (r.jb=(0:Int))),(decide ((0:Int)<((r.iD).length:Int))),(!decide (r.count=(0:Int)))]
theorem Vb2a(r:Jb):∃t:BitVec 32,Zii r=some ((),t,())/\∀k,t.getLsbD k=(decide (1<=k)&&(useQ r).getD (k-1) false):=by
 obtain⟨t,h1,h2⟩:=Vdwa (useQ r) (by simp[useQ]);refine⟨t,?_,h2⟩;unfold Zii;unfold useQ at h1;cases ha:r.jl
 ·rw[ha,Bool.false_or]at h1;rw[Uj];dsimp only;rw[h1];rfl
 ·rw[ha,Bool.true_or]at h1;rw[Ui];dsimp only;rw[h1];rfl
def maskT:List (BitVec 32):=[0#32,0#32,15870#32,9874#32,0#32,0#32,0#32,49152#32,114688#32,212994#32,0#32,8192#32,270336#32,811008#32,57344#32]
def mkQ(k:Int):BitVec 32:=maskT.getD k.toNat 0#32
def fitQ(m:BitVec 32)(u:List Bool):Bool:=(List.range 19).all λi=>!(u.getD i false)||m.getLsbD (i+1)
theorem Vgma{u:List Bool}{t m:BitVec 32}(hl:u.length=19)(h:∀k,t.getLsbD k=(decide (1<=k)&&u.getD (k-1) false)):decide ((t &&& ~~~m)=0#32)=fitQ m u:=by
 rw[Bool.eq_iff_iff];simp only[Uq,fitQ,List.all_eq_true,List.mem_range];constructor
 ·intro e i hi;have hb:(t &&& ~~~m).getLsbD (i+1)=false:=by rw[e];simp
  rw[Qa,Qf,h (i+1)]at hb;rw[dT (1<=i+1) (by omega),Nat.add_sub_cancel,dT (i+1<32) (by omega)]at hb;revert hb;cases u.getD i false<;>cases m.getLsbD (i+1)<;>decide
 ·intro e;apply Qd;intro k hk;rw[Qa,Qf,h k];by_cases h1:1<=k
  ·by_cases h2:k-1<19
   ·have:=e (k-1) h2;rw[show k-1+1=k by omega]at this;revert this;rw[Um h1,Um hk];cases u.getD (k-1) false<;>cases m.getLsbD k<;>simp
   ·have:u.getD (k-1) false=false:=by rw[Qb,List.getElem?_eq_none (by omega)];rfl
    rw[this];simp
  ·rw[Un h1];simp
def numQ(r:Jb):Bool:=smallI r.jd&&(smallI r.je&&(smallI r.jk&&(smallI r.jb&&smallI r.count)))
def bigQ(r:Jb):Bool:=decide ((64:Int)<(r.rP.length:Int))||(decide ((16:Int)<(r.user.length:Int))||(decide ((32:Int)<(r.name.length:Int))||(decide ((8:Int)<(r.list.length:Int))||(decide ((1024:Int)<(r.box.length:Int))||decide ((1024:Int)<(r.proof.length:Int))))))
def idl(x:Ua):Bool:=decide ((x.length:Int)=176)
def idsQ(r:Jb):Int:=bif !r.list.all idl then 4 else bif (mkQ r.kind).getLsbD 18&&!decide ((r.iD.length:Int)=176) then 4 else 0
def valQ(r:Jb):Int:=bif !(decide (1<=r.kind)&&decide (r.kind<=14)) then 3 else bif !fitQ (mkQ r.kind) (useQ r) then 4 else bif !decide (r.auth=0#64)&&!r.jl then 4 else bif !numQ r then 9 else bif bigQ r then 8 else bif !(Lib.validD r.rP&&Lib.validD r.name) then 6 else idsQ r
theorem valL1(r:Jb)(m:BitVec 32)(h:SaneQ r):Zga_L1 ((r,()),m,r.list,(r.list.length:Int),(0:Int),())=some (bif r.list.all idl then Sum.inr ((r,()),m,()) else Sum.inl (4,())):=by
 unfold Zga_L1 i5;rw[show ((0:Int))=((0:Nat):Int) from rfl,Vk6 r.list idl (λi=>((r,()),m,r.list,(r.list.length:Int),(i:Int),())) (Sum.inl (4,())) (Sum.inr ((r,()),m,())) (by have:=h.li;omega)]
 ·intro i x hx;have h1:=Va7 hx;have h2:=h.li;simp only[Zga_L1b,Vh9 hx,gIn hx,Option.bind_some,Ui,Vb0 (i:=i) (by omega),idl];cases decide ((x.length:Int)=176)<;>rfl
 ·simp[Zga_L1b]
theorem bit18(m:BitVec 32):decide ((m&&&262144#32)=0#32) = !m.getLsbD 18:=by
 have e:m&&&262144#32=bif m.getLsbD 18 then 262144#32 else 0#32:=by
  apply Qd;intro k hk;rw[Qa,show (262144#32:BitVec 32)=1#32<<<18 from rfl,Qc,Qe];by_cases h:k=18
  ·subst h;cases m.getLsbD 18<;>decide
  ·cases m.getLsbD 18
   ·by_cases h2:k<18
    ·simp[h2]
    ·simp[h2,show k-18≠0 by omega,show ¬ (0=k-18) by omega]
   ·simp only[Ui];rw[Qc,Qe];by_cases h2:k<18
    ·simp[h2]
    ·simp[h2,show k-18≠0 by omega,show ¬ (0=k-18) by omega]
 rw[e];cases m.getLsbD 18<;>decide
theorem tailQ(r:Jb)(h:SaneQ r):(Zga_L1 ((r,()),mkQ r.kind,r.list,(r.list.length:Int),(0:Int),())).bind (Sum.elim (λ(z47:(Int×Unit))=>(some ((),(z47.1,())))) (λ(z48:((Jb×Unit)×(BitVec 32)×Unit))=>(bif (!decide ((z48.2.1&&&262144#32)=0#32)) then (bif (!decide (((z48.1.1.iD).length:Int)=(176:Int))) then (some ((),((4:Int),()))) else (some ((),((0:Int),())))) else (some ((),((0:Int),()))))))=some ((),(idsQ r,())):=by
 rw[valL1 r _ h,bindU];unfold idsQ;cases r.list.all idl
 ·rfl
 ·rw[Ui,Sum.elim_inr];dsimp only;rw[bit18,Bool.not_not];cases (mkQ r.kind).getLsbD 18<;>cases decide ((r.iD.length:Int)=176)<;>rfl
theorem Vd8a(r:Jb):Zgb [r.jd,r.je,r.jk,r.jb,r.count]=some ((),numQ r,()):=by
 rw[Voa _ (by simp)];simp[numQ]
theorem Vm1(r:Jb)(h:SaneQ r):Zga r=some ((),valQ r,()):=by
 obtain⟨t,u1,u2⟩:=Vb2a r;have hf:=Vgma (m:=mkQ r.kind) rfl u2;have tl:=tailQ r h;unfold Zga valQ;by_cases k1:r.kind<1
 ·rw[Um k1,Un (by omega:¬ 1<=r.kind)];rfl
 by_cases k2:14<r.kind
 ·rw[Un k1,Um k2,Um (by omega:1<=r.kind),Un (by omega:¬ r.kind<=14)];rfl
 have hm:([0#32,0#32,15870#32,9874#32,0#32,0#32,0#32,49152#32,114688#32,212994#32,0#32,8192#32,270336#32,811008#32,57344#32]:List (BitVec 32))[(r.kind).toNat]? = some (mkQ r.kind):=by
  unfold mkQ;rw[Qb];have:r.kind.toNat<maskT.length:=by simp[maskT];omega
  show maskT[r.kind.toNat]? = _;rw[List.getElem?_eq_getElem this];rfl
 rw[Un k1,Un k2,Um (by omega:1<=r.kind),Um (by omega:r.kind<=14),Um (by omega:0<=r.kind),Um (by omega:r.kind<15)];simp only[Ui,Uj,Bool.and_true,Bool.not_true,hm,bindU,u1,hf,Vd8a,Vg1 h.rp,Vg1 h.nm];unfold bigQ;cases fitQ (mkQ r.kind) (useQ r)
 ·rfl
 cases decide (r.auth=0#64)<;>cases r.jl<;>cases numQ r<;>(try rfl)<;>cases decide ((64:Int)<(r.rP.length:Int))<;>(try rfl)<;>cases decide ((16:Int)<(r.user.length:Int))<;>(try rfl)<;>cases decide ((32:Int)<(r.name.length:Int))<;>(try rfl)<;>cases decide ((8:Int)<(r.list.length:Int))<;>(try rfl)<;>cases decide ((1024:Int)<(r.box.length:Int))<;>(try rfl)<;>cases decide ((1024:Int)<(r.proof.length:Int))<;>(try rfl)<;>cases Lib.validD r.rP<;>(try rfl)<;>cases Lib.validD r.name<;>first|rfl|exact tl
end Go.Proofs.YtnfhkhlbdgbkjaaGreatDoor

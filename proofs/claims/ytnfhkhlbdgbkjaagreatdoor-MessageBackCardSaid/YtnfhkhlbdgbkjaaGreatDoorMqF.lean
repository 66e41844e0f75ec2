/- What a valid request is; its bytes, of both. -/
import Derived.Test.YtnfhkhlbdgbkjaaGreatDoorMqE
set_option linter.unusedVariables false
set_option linter.unusedSimpArgs false
set_option maxRecDepth 100000
namespace Go.Proofs.YtnfhkhlbdgbkjaaGreatDoor
open Go Go.Abs
structure GoodQ(r:Jb):Prop where
 k1:1<=r.kind
 k2:r.kind<=14
 ft:fitQ (mkQ r.kind) (useQ r)=true
 au:(!decide (r.auth=0#64)&&!r.jl)=false
 nu:numQ r=true
 rp:r.rP.length<=64
 us:r.user.length<=16
 nm:r.name.length<=32
 li:r.list.length<=8
 bx:r.box.length<=1024
 pf:r.proof.length<=1024
 vr:Lib.validD r.rP=true
 vn:Lib.validD r.name=true
 id:idsQ r=0
 el:∀x∈r.list,x.length=176
theorem Vii{r:Jb}(hv:valQ r=0):GoodQ r:=by
 unfold valQ at hv;cases h1:(decide (1<=r.kind)&&decide (r.kind<=14))
 ·rw[h1]at hv;simp at hv
 rw[h1]at hv;cases h2:fitQ (mkQ r.kind) (useQ r)
 ·rw[h2]at hv;simp at hv
 rw[h2]at hv;cases h3:(!decide (r.auth=0#64)&&!r.jl)
 case true=>rw[h3]at hv;simp at hv
 rw[h3]at hv;cases h4:numQ r
 ·rw[h4]at hv;simp at hv
 rw[h4]at hv;cases h5:bigQ r
 case true=>rw[h5]at hv;simp at hv
 rw[h5]at hv;cases h6:(Lib.validD r.rP&&Lib.validD r.name)
 ·rw[h6]at hv;simp at hv
 rw[h6]at hv;simp only[Bool.not_true,Uj]at hv;unfold bigQ at h5;simp only[Bool.or_eq_false_iff,decide_eq_false_iff_not]at h5;obtain⟨b1,b2,b3,b4,b5,b6⟩:=h5;simp only[Bool.and_eq_true,Uq]at h1;rw[Bool.and_eq_true]at h6;have h7:r.list.all idl=true:=by
  cases h7:r.list.all idl
  ·unfold idsQ at hv;rw[h7]at hv;simp at hv
  ·rfl
 exact⟨h1.1,h1.2,h2,h3,h4,by omega,by omega,by omega,by omega,by omega,by omega,h6.1,h6.2,hv,λx hx=>by
  have:=List.all_eq_true.1 h7 x hx;unfold idl at this;have:=Uo this;omega⟩
theorem Vp9:∀(l:List Bool) (i:Nat),(selN i l).length=l.count true
 |[],i=>by unfold selN;rfl
 |b::l,i=>by
  unfold selN;have:=Vp9 l (i+1);cases b<;>simp[this]
theorem Vb3a:∀(l m:List Bool),l.length=m.length->(∀i,l.getD i false=true->m.getD i false=true)->l.count true<=m.count true
 |[],[],_,_=>Nat.le_refl _
 |a::l,b::m,hl,h=>by
  have ih:=Vb3a l m (by simpa using hl) λi hi=>by simpa using h (i+1) (by simpa using hi)
  have h0:=h 0;simp only[List.getD_cons_zero]at h0;cases a<;>cases b<;>simp_all<;>omega
def mskL(m:BitVec 32):List Bool:=(List.range 19).map λi=>m.getLsbD (i+1)
theorem Veea{k:Int}(h1:1<=k)(h2:k<=14):(mskL (mkQ k)).count true<=12:=by
 rcases (by omega:k=1\/k=2\/k=3\/k=4\/k=5\/k=6\/k=7\/k=8\/k=9\/k=10\/k=11\/k=12\/k=13\/k=14) with rfl|rfl|rfl|rfl|rfl|rfl|rfl|rfl|rfl|rfl|rfl|rfl|rfl|rfl<;>decide +kernel
theorem Vefa{r:Jb}(h:GoodQ r):(selN 1 (useQ r)).length<=12:=by
 rw[Vp9];refine Nat.le_trans (Vb3a (useQ r) (mskL (mkQ r.kind)) rfl λi hi=>?_) (Veea h.k1 h.k2);by_cases hlt:i<19
 ·have:=h.ft;unfold fitQ at this;have:=List.all_eq_true.1 this i (List.mem_range.2 hlt);rw[hi]at this;simpa[mskL,List.getD_eq_getElem?_getD,hlt]using this
 ·have:(useQ r).getD i false=false:=by
   rw[List.getD_eq_getElem?_getD,List.getElem?_eq_none (by simp[useQ];omega)];rfl
  rw[this]at hi;cases hi
def valsQ(r:Jb):List (List Ja):=[textI r.rP,bytesI r.user,textI r.name,uintI r.jz,uintI (BitVec.ofInt 64 r.jd),uintI (BitVec.ofInt 64 r.je),certI r.list,boolI r.jg,boolI r.js,boolI r.jt,boolI r.jo,uintI (BitVec.ofInt 64 r.jk),uintI r.auth,uintI r.jv,bytesI r.box,bytesI r.proof,uintI (BitVec.ofInt 64 r.jb),bytesI r.iD,uintI (BitVec.ofInt 64 r.count)]
theorem PV_l{l:List Ua}(hl:l.length<=8)(h:∀x∈l,x.length=176):PV (certI l):=by
 have h2:=(Vjr hl λc hc=>by rw[h c hc];omega).2;refine⟨Vv9 (by omega) h2,⟨by rw[Vfs];omega,λx hx=>?_⟩,by unfold certI arrI;simp⟩;unfold certI arrI at hx;rcases List.mem_cons.1 hx with rfl|hx
 ·show ([]:Ua).length<100000;decide
 ·obtain⟨o,ho,hx⟩:=List.mem_flatten.1 hx;obtain⟨c,hc,rfl⟩:=List.mem_map.1 ho;simp only[bytesI,List.mem_singleton]at hx;subst hx;show c.length<100000;rw[h c hc];omega
theorem Voe{r:Jb}(h:GoodQ r)(hid:r.iD.length<=1024):∀o∈valsQ r,PV o:=by
 intro o ho;have h1:=h.rp;have h2:=h.us;have h3:=h.nm;have h4:=h.bx;have h5:=h.pf;unfold valsQ at ho;simp only[List.mem_cons,List.not_mem_nil,or_false]at ho;rcases ho with rfl|rfl|rfl|rfl|rfl|rfl|rfl|rfl|rfl|rfl|rfl|rfl|rfl|rfl|rfl|rfl|rfl|rfl|rfl
 ·exact PV_t (by omega) h.vr
 ·exact PV_b (by omega)
 ·exact PV_t (by omega) h.vn
 ·exact PV_u _
 ·exact PV_u _
 ·exact PV_u _
 ·exact PV_l h.li h.el
 ·exact PV_o _
 ·exact PV_o _
 ·exact PV_o _
 ·exact PV_o _
 ·exact PV_u _
 ·exact PV_u _
 ·exact PV_u _
 ·exact PV_b (by omega)
 ·exact PV_b (by omega)
 ·exact PV_u _
 ·exact PV_b hid
 ·exact PV_u _
end Go.Proofs.YtnfhkhlbdgbkjaaGreatDoor

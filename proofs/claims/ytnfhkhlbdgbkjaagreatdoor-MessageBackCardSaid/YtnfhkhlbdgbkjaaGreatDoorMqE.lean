/- The error of a request: what the document's Validate answers. -/
import Derived.Test.YtnfhkhlbdgbkjaaGreatDoorMqD
set_option linter.unusedVariables false
set_option linter.unusedSimpArgs false
set_option maxRecDepth 100000
namespace Go.Proofs.YtnfhkhlbdgbkjaaGreatDoor
open Go Go.Abs
open _root_.List renaming range → Qa, getD_eq_getElem?_getD → Qc, length_range → Qe, all_eq_true → Qi, mem_range → Ql
open _root_.BitVec renaming ofInt → Qb
open _root_.Sum renaming elim_inr → Qd, inr → Qg, inl → Qh
open _root_.Bool renaming not_eq_true' → Qf, and_eq_true → Qj, eq_iff_iff → Qk, not_true → Qm, or_comm → Qn
def okk(U:List Bool)(G:List (List Ja))(k:Nat):Bool:=U.getD k false||!decide ((0:Int)<((G.getD k []).length:Int))
theorem vL0(r:Jb)(U:List Bool)(G:List (List Ja))(hU:U.length=20)(hG:G.length=20):Zbw_L0 ((r,()),U,G,(1:Int),())=some (bif ((Qa 20).drop 1).all (okk U G) then Qg ((r,()),U,()) else Qh (4,())):=by
 unfold Zbw_L0 i4;rw[show ((1:Int))=((1:Nat):Int) from rfl];refine Via (l:=Qa 20) (p:=okk U G) (mk:=λk=>((r,()),U,G,(k:Int),())) (bad:=Qh (4,())) (good:=Qg ((r,()),U,())) (λi x hx=>?_) ?_ 19 rounds 1 rfl (by rw[Vaa];omega)
 ·obtain⟨hi,hx⟩:=List.getElem?_eq_some_iff.1 hx;rw[Qe]at hi;rw[List.getElem_range]at hx;subst hx;show Zbw_L0b (r,()) U G (i:Int)=_;unfold Zbw_L0b okk;rw[Um (by omega:(i:Int)<20),Um (by omega:(0:Int)<=(i:Int)),Int.toNat_natCast,gd false (by omega:i<U.length),gd [] (by omega:i<G.length),Vb0 (by omega)];simp only[Bool.and_self,Ui,bindU];cases U.getD i false<;>cases decide ((0:Int)<((G.getD i []).length:Int))<;>rfl
 ·show Zbw_L0b (r,()) U G (((Qa 20).length:Nat):Int)=_;unfold Zbw_L0b;rw[Qe,Un (by omega)];rfl
theorem vL2(r:Jb)(U:List Bool)(h:SaneQ r):Zbw_L2 ((r,()),U,(0:Int),())=some (bif r.list.all idl then Qg ((r,()),U,()) else Qh (4,())):=by
 unfold Zbw_L2 i3;rw[show ((0:Int))=((0:Nat):Int) from rfl,Vk6 r.list idl (λi=>((r,()),U,(i:Int),())) (Qh (4,())) (Qg ((r,()),U,())) (by have:=h.li;omega)]
 ·intro i x hx;have h1:=Va7 hx;have h2:=h.li;simp only[Zbw_L2b,Vh9 hx,gIn hx,Option.bind_some,Ui,Vb0 (i:=i) (by omega),idl];cases decide ((x.length:Int)=176)<;>rfl
 ·simp[Zbw_L2b]
theorem fv_n(n:Ub)(li au:List Ja)(k:Nat)(h7:Nat.beq k 7=false)(h13:Nat.beq k 13=false):decide ((0:Int)<((fv n [] false li au k).length:Int)) = !decide (n=0#64):=by
 unfold fv;rw[h7,h13];cases decide (n=0#64)<;>simp
theorem fv_s(s:Ua)(li au:List Ja)(k:Nat)(h7:Nat.beq k 7=false)(h13:Nat.beq k 13=false):decide ((0:Int)<((fv 0#64 s false li au k).length:Int)) = !decide (s=[]):=by
 unfold fv;rw[h7,h13];cases decide (s=[])<;>cases Nat.beq k 1<;>cases Nat.beq k 3<;>simp
theorem fv_b(b:Bool)(li au:List Ja)(k:Nat)(h7:Nat.beq k 7=false)(h13:Nat.beq k 13=false):decide ((0:Int)<((fv 0#64 [] b li au k).length:Int))=b:=by
 unfold fv;rw[h7,h13];cases b<;>simp
theorem Vew{n:Int}(h:in64 n):decide (Qb 64 n=0#64)=decide (n=0):=by
 unfold in64 at h;rw[Qk,Uq,Uq];constructor
 ·intro e;have:=congrArg BitVec.toInt e;rw[BitVec.toInt_ofInt]at this;simp[Int.bmod]at this;split at this<;>omega
 ·rintro rfl;rfl
theorem posl{α:Type}[DecidableEq α](l:List α):decide ((0:Int)<(l.length:Int)) = !decide (l=[]):=by
 cases l with
 |nil=>rfl
 |cons a l=>simp
theorem uq(r:Jb)(h:SaneQ r)(ha:(!decide (r.auth=0#64)&&!r.jl)=false):(Qa 19).map (λi=>decide ((0:Int)<((FQ r (i+1)).length:Int)))=useQ r:=by
 have e1:decide ((0:Int)<((FQ r 1).length:Int)) = !decide (r.rP=[]):=fv_s _ _ _ 1 rfl rfl;have e2:decide ((0:Int)<((FQ r 2).length:Int)) = !decide (r.user=[]):=fv_s _ _ _ 2 rfl rfl;have e3:decide ((0:Int)<((FQ r 3).length:Int)) = !decide (r.name=[]):=fv_s _ _ _ 3 rfl rfl;have e4:decide ((0:Int)<((FQ r 4).length:Int)) = !decide (r.jz=0#64):=fv_n _ _ _ 4 rfl rfl;have e5:decide ((0:Int)<((FQ r 5).length:Int)) = !decide (r.jd=0):=(fv_n _ _ _ 5 rfl rfl).trans (by rw[show (numsQ r).getD 5 0#64=Qb 64 r.jd from rfl,Vew h.i1]);have e6:decide ((0:Int)<((FQ r 6).length:Int)) = !decide (r.je=0):=(fv_n _ _ _ 6 rfl rfl).trans (by rw[show (numsQ r).getD 6 0#64=Qb 64 r.je from rfl,Vew h.i2]);have e7:decide ((0:Int)<((FQ r 7).length:Int))=decide ((0:Int)<(r.list.length:Int)):=by
  show decide ((0:Int)<((liQ r (liI r.list)).length:Int))=_;unfold liQ;cases hc:decide ((0:Int)<(r.list.length:Int))
  ·rfl
  ·rw[Ui];exact Um (by simp[liI])
 have e8:decide ((0:Int)<((FQ r 8).length:Int))=r.jg:=fv_b _ _ _ 8 rfl rfl;have e9:decide ((0:Int)<((FQ r 9).length:Int))=r.js:=fv_b _ _ _ 9 rfl rfl;have e10:decide ((0:Int)<((FQ r 10).length:Int))=r.jt:=fv_b _ _ _ 10 rfl rfl;have e11:decide ((0:Int)<((FQ r 11).length:Int))=r.jo:=fv_b _ _ _ 11 rfl rfl;have e12:decide ((0:Int)<((FQ r 12).length:Int)) = !decide (r.jk=0):=(fv_n _ _ _ 12 rfl rfl).trans (by rw[show (numsQ r).getD 12 0#64=Qb 64 r.jk from rfl,Vew h.i3]);have e13:decide ((0:Int)<((FQ r 13).length:Int))=(r.jl||!decide (r.auth=0#64)):=by
  show decide ((0:Int)<((auQ r).length:Int))=_;unfold auQ;revert ha;cases r.jl<;>cases decide (r.auth=0#64)<;>simp
 have e14:decide ((0:Int)<((FQ r 14).length:Int)) = !decide (r.jv=0#64):=fv_n _ _ _ 14 rfl rfl;have e15:decide ((0:Int)<((FQ r 15).length:Int))=decide ((0:Int)<(r.box.length:Int)):=(fv_s _ _ _ 15 rfl rfl).trans (posl _).symm;have e16:decide ((0:Int)<((FQ r 16).length:Int))=decide ((0:Int)<(r.proof.length:Int)):=(fv_s _ _ _ 16 rfl rfl).trans (posl _).symm;have e17:decide ((0:Int)<((FQ r 17).length:Int)) = !decide (r.jb=0):=(fv_n _ _ _ 17 rfl rfl).trans (by rw[show (numsQ r).getD 17 0#64=Qb 64 r.jb from rfl,Vew h.i4]);have e18:decide ((0:Int)<((FQ r 18).length:Int))=decide ((0:Int)<(r.iD.length:Int)):=(fv_s _ _ _ 18 rfl rfl).trans (posl _).symm;have e19:decide ((0:Int)<((FQ r 19).length:Int)) = !decide (r.count=0):=(fv_n _ _ _ 19 rfl rfl).trans (by rw[show (numsQ r).getD 19 0#64=Qb 64 r.count from rfl,Vew h.i5]);unfold useQ;rw[<-e1,<-e2,<-e3,<-e4,<-e5,<-e6,<-e7,<-e8,<-e9,<-e10,<-e11,<-e12,<-e13,<-e14,<-e15,<-e16,<-e17,<-e18,<-e19];rfl
theorem Veda(r:Jb)(h:SaneQ r)(ha:(!decide (r.auth=0#64)&&!r.jl)=false)(m:BitVec 32){U:List Bool}(hU:∀i,i<19->U.getD (i+1) false=m.getLsbD (i+1)){G:List (List Ja)}(hG:∀i,i<19->G.getD (i+1) []=FQ r (i+1)):((Qa 20).drop 1).all (okk U G)=fitQ m (useQ r):=by
 have hu:∀i,i<19->(useQ r).getD i false=decide ((0:Int)<((FQ r (i+1)).length:Int)):=λi hi=>by
  rw[<-uq r h ha,Qc,List.getElem?_map,List.getElem?_range hi];rfl
 rw[show (Qa 20).drop 1=(Qa 19).map (·+1) from rfl,List.all_map,Qk];unfold fitQ;rw[Qi,Qi];constructor
 ·intro e i hi;have:=e i hi;rw[Ql]at hi;rw[hu i hi];simp only[Function.comp,okk,hU i hi,hG i hi]at this;rw[Qn];exact this
 ·intro e i hi;have:=e i hi;rw[Ql]at hi;rw[hu i hi]at this;simp only[Function.comp,okk,hU i hi,hG i hi];rw[Qn];exact this
def UQ(m:BitVec 32):List Bool:=[false,m.getLsbD 1,m.getLsbD 2,m.getLsbD 3,m.getLsbD 4,m.getLsbD 5,m.getLsbD 6,m.getLsbD 7,m.getLsbD 8,m.getLsbD 9,m.getLsbD 10,m.getLsbD 11,m.getLsbD 12,m.getLsbD 13,m.getLsbD 14,m.getLsbD 15,m.getLsbD 16,m.getLsbD 17,m.getLsbD 18,m.getLsbD 19]
def GQ(r:Jb):List (List Ja):=[FQ r 0,FQ r 1,FQ r 2,FQ r 3,FQ r 4,FQ r 5,FQ r 6,FQ r 7,FQ r 8,FQ r 9,FQ r 10,FQ r 11,FQ r 12,FQ r 13,FQ r 14,FQ r 15,FQ r 16,FQ r 17,FQ r 18,FQ r 19]
theorem UQ_at(m:BitVec 32)(i:Nat)(hi:i<19):(UQ m).getD (i+1) false=m.getLsbD (i+1):=by
 have e:(UQ m).drop 1=(Qa 19).map λj=>m.getLsbD (j+1):=rfl;have:=congrArg (λl=>l.getD i false) e;simpa[Qc,hi,Nat.add_comm]using this
theorem GQ_at(r:Jb)(i:Nat)(hi:i<19):(GQ r).getD (i+1) []=FQ r (i+1):=by
 have e:(GQ r).drop 1=(Qa 19).map λj=>FQ r (j+1):=rfl;have:=congrArg (λl=>l.getD i []) e;simpa[Qc,hi,Nat.add_comm]using this
theorem rtail(r:Jb)(h:SaneQ r):(Zbw_L2 ((r,()),UQ (mkQ r.kind),(0:Int),())).bind (Sum.elim (λ(z16:(Int×Unit))=>(some ((),(z16.1,())))) (λ(z17:((Jb×Unit)×(List (Bool))×Unit))=>(((z17.2.1)[18]?).bind λx18=>(bif x18 then (bif (!decide (((z17.1.1.iD).length:Int)=(176:Int))) then (some ((),((4:Int),()))) else (some ((),((0:Int),())))) else (some ((),((0:Int),())))))))=some ((),idsQ r,()):=by
 rw[vL2 r _ h,bindU];unfold idsQ;cases r.list.all idl
 ·rfl
 ·rw[Ui,Qd];dsimp only;rw[show (UQ (mkQ r.kind))[18]? = some ((mkQ r.kind).getLsbD 18) from rfl,bindU];cases (mkQ r.kind).getLsbD 18<;>cases decide ((r.iD.length:Int)=176)<;>rfl
theorem Vcc(r:Jb)(h:SaneQ r):Zbw r=some ((),valQ r,()):=by
 have tl:=rtail r h;unfold Zbw valQ;simp only[Vob,bindU];cases hk:(decide (1<=r.kind)&&decide (r.kind<=14))
 ·rfl
 simp only[Qj,Uq]at hk;rw[Vd9a _ hk.1 hk.2,Vm2 r h.li];simp only[bindU,Qm,Uj];change (Zbw_L0 ((r,()),UQ (mkQ r.kind),GQ r,(1:Int),())).bind _=_;rw[vL0 r _ _ rfl rfl,bindU];have hal:=Veda r h (m:=mkQ r.kind) (U:=UQ (mkQ r.kind)) (G:=GQ r);generalize ((Qa 20).drop 1).all (okk (UQ (mkQ r.kind)) (GQ r))=A at hal;cases ha:(!decide (r.auth=0#64)&&!r.jl)
 ·obtain rfl:=hal ha (UQ_at _) (GQ_at r);cases fitQ (mkQ r.kind) (useQ r)
  ·rfl
  simp only[Ui,Qd,Qm,Uj,Vg1 h.rp,Vg1 h.nm,bindU];rw[show numQ r=((decide (0<=r.jd)&&decide (r.jd<=255))&&((decide (0<=r.je)&&decide (r.je<=255))&&((decide (0<=r.jk)&&decide (r.jk<=255))&&((decide (0<=r.jb)&&decide (r.jb<=255))&&(decide (0<=r.count)&&decide (r.count<=255)))))) from rfl];unfold bigQ;cases hb:decide (r.auth=0#64)<;>cases hc:r.jl<;>first
   |exact absurd ha (by rw[hb,hc];decide)
   |(cases (decide (0<=r.jd)&&decide (r.jd<=255))<;>(try rfl)<;>cases (decide (0<=r.je)&&decide (r.je<=255))<;>(try rfl)<;>cases (decide (0<=r.jk)&&decide (r.jk<=255))<;>(try rfl)<;>cases (decide (0<=r.jb)&&decide (r.jb<=255))<;>(try rfl)<;>cases (decide (0<=r.count)&&decide (r.count<=255))<;>(try rfl)<;>cases decide ((64:Int)<(r.rP.length:Int))<;>(try rfl)<;>cases decide ((16:Int)<(r.user.length:Int))<;>(try rfl)<;>cases decide ((32:Int)<(r.name.length:Int))<;>(try rfl)<;>cases decide ((8:Int)<(r.list.length:Int))<;>(try rfl)<;>cases decide ((1024:Int)<(r.box.length:Int))<;>(try rfl)<;>cases decide ((1024:Int)<(r.proof.length:Int))<;>(try rfl)<;>cases Lib.validD r.rP<;>(try rfl)<;>cases Lib.validD r.name<;>first|rfl|exact tl)
 ·rw[Qj,Qf,Qf]at ha;cases A
  ·cases fitQ (mkQ r.kind) (useQ r)<;>rfl
  ·rw[Ui,Qd];dsimp only;rw[ha.1,ha.2];cases fitQ (mkQ r.kind) (useQ r)<;>rfl
end Go.Proofs.YtnfhkhlbdgbkjaaGreatDoor

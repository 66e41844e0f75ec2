/- The device as it leaves the factory is switched on. -/
import Derived.Test.YtnfhkhlbdgbkjaaGreatDoorMqN
set_option linter.unusedVariables false
set_option linter.unusedSimpArgs false
set_option maxRecDepth 100000
namespace Go.Proofs.YtnfhkhlbdgbkjaaGreatDoor
open Go Go.Abs
open _root_.List renaming getElem?_eq_getElem → Qa, replicate → Qc, length_cons → Qe, length_nil → Qg, getElem?_replicate → Qh, length_append → Qi, take → Qj, length_take → Qk, getD_eq_getElem?_getD → Ql, getElem?_eq_none → Qo, drop → Qp, getElem?_take → Qq, not_mem_nil → Qr, getElem?_append_right → Qs, ext_getElem? → Qv, length_drop → Qw, append_nil → Qy, mem_cons → Qz
open Go.IntKind renaming wrap → Qb
open _root_.Int renaming toNat_natCast → Qd
open _root_.BitVec renaming ofInt → Qf
open _root_.Nat renaming zero_le → Qm
open _root_.Bool renaming not_true → Qn, and_eq_true → Qx
open _root_.Sum renaming inr → Qt, elim_inr → Qu
def FF(ps:Nat):Jk:=⟨ps,Qc (2*ps) 255⟩
def F1(ps:Nat):Jk:=⟨ps,hdrF 1++Qc (2*ps-16) 255⟩
def J1(ps:Nat):Jh:=⟨F1 ps,0,1,16,false⟩
theorem FF_ok(ps:Nat)(h1:512<=ps)(h2:ps<=8192):FOk (FF ps):=⟨by show (512:Int)<=(ps:Int);omega,by show (ps:Int)<=8192;omega,by simp[FF]⟩
theorem F1_ok(ps:Nat)(h1:512<=ps)(h2:ps<=8192):FOk (F1 ps):=⟨by show (512:Int)<=(ps:Int);omega,by show (ps:Int)<=8192;omega,by simp[F1,Vav];omega⟩
theorem Vr1(ps:Nat)(q:Int×Ua×Unit)(h1:512<=ps)(h2:ps<=8192):Ok (Zco_L0 ((ps:Int),2,q,((ps:Int),[],()),(0:Int),())) λz=>z.2.1=((ps:Int),Qc (2*ps) 255,()):=by
 unfold Zco_L0 Yi5;refine Ok.iter (λs=>∃k:Nat,k<=2*ps/\s=((ps:Int),2,q,((ps:Int),Qc k 255,()),(k:Int),())) (λs=>(2*(ps:Int)-s.2.2.2.2.1).toNat) ⟨0,by omega,rfl⟩ (by rw[Vaa];dsimp only;omega) ?_;rintro s ⟨k,hk,rfl⟩;dsimp only;unfold Zco_L0b;refine Ok.cond (λhc=>?_) (λhc=>?_)
 ·have hc:=Uo hc;rw[Vaw (by omega) (by omega)]at hc;dsimp only;rw[Vab (by simp;omega) (by omega),Ui,wI ((k:Int)+1) (by omega)];refine Ok.some ⟨⟨k+1,by omega,?_⟩,?_⟩
  ·rw[List.replicate_succ'];rfl
  ·dsimp only;omega
 ·have hc:=Up hc;rw[Vaw (by omega) (by omega)]at hc;rw[show 2*ps=k by omega];exact Ok.some rfl
theorem Vix(ps:Nat)(h1:512<=ps)(h2:ps<=8192):Zco (ps:Int) 2=some ((),FF ps,0,()):=by
 have key:Ok (Zco (ps:Int) 2) λr=>r=((),FF ps,0,()):=by
  unfold Zco;rw[Un (by omega),Un (by omega),Un (by omega),Un (by omega)];simp only[Uj];refine Ok.bm (Vr1 ps _ h1 h2) ?_;rintro⟨_,⟨p,l,_⟩,_⟩ e;cases e;exact Ok.some rfl
 obtain⟨r,h,rfl⟩:=key;exact h
theorem Vyc(f:Jk)(h:FOk f)(p:Nat)(hp:p<=1)(e:Qp (p*f.ja.toNat) (Qj (p*f.ja.toNat+16) f.bytes)=Qc 16 255):Zbm f (p:Int)=some ((),0,()):=by
 have a1:=h.lo;have a2:=h.hi;have a3:=h.ln;obtain⟨m,hm⟩:∃m:Nat,f.ja=(m:Int):=⟨f.ja.toNat,by omega⟩;have hq:p*m<=m:=by
  rcases (by omega:p=0\/p=1) with rfl|rfl<;>omega
 rw[hm,Qd]at e;unfold Zbm;rw[hm,show (p:Int)*(m:Int)=((p*m:Nat):Int) by rw[Int.natCast_mul],wI (((p*m:Nat):Int)) (by omega),wI (((p*m:Nat):Int)+16) (by omega)];dsimp only;rw[Um (by omega:0<=((p*m:Nat):Int)+16),Um (by omega:((p*m:Nat):Int)+16<=(f.bytes.length:Int)),Um (by omega:0<=((p*m:Nat):Int)),Um (by omega:((p*m:Nat):Int)<=((((p*m:Nat):Int)+16).toNat:Int)),show (((p*m:Nat):Int)+16).toNat=p*m+16 by omega,Qd,e];rw[show Zgv (Qj 8 (Qc 16 255))=some ((),0xffffffffffffffff#64,()) by kernel_rfl];rfl
theorem Vfma(l:Ua)(n:Nat)(h:∀j,j<n->l[j]? = some 255)(hl:l.length=n):l=Qc n 255:=by
 apply Qv;intro j;by_cases hj:j<n
 ·rw[h j hj,Qh,if_pos hj]
 ·rw[Qo (by omega),Qo (by simp;omega)]
theorem Vyd(l:Ua)(a n:Nat)(h:∀j,j<n->l[a+j]? = some 255)(hl:a+n<=l.length):Qp a (Qj (a+n) l)=Qc n 255:=by
 refine Vfma _ n (λj hj=>?_) (by rw[Qw,Qk];omega);rw[List.getElem?_drop,Qq,if_pos (by omega),h j hj]
theorem Vc7a(ps j:Nat)(h:j<2*ps):(FF ps).bytes[j]? = some 255:=by
 show (Qc (2*ps) (255:UInt8))[j]? = _;rw[Qh,if_pos h]
theorem Vqy(ps j:Nat)(h0:16<=j)(h:j<2*ps):(F1 ps).bytes[j]? = some 255:=by
 show (hdrF 1++Qc (2*ps-16) (255:UInt8))[j]? = _;rw[Qs (by rw[Vav];omega),Qh,if_pos (by rw[Vav];omega)]
theorem Vc8a(ps:Nat)(h1:512<=ps)(h2:ps<=8192)(p:Nat)(hp:p<=1):Zbm (FF ps) (p:Int)=some ((),0,()):=by
 have hq:p*ps<=ps:=by
  rcases (by omega:p=0\/p=1) with rfl|rfl<;>omega
 refine Vyc _ (FF_ok ps h1 h2) p hp ?_;show Qp (p*ps) (Qj (p*ps+16) (FF ps).bytes)=_;exact Vyd _ _ _ (λj hj=>Vc7a _ _ (by omega)) (by simp[FF];omega)
theorem Vfna(ps:Nat)(h1:512<=ps)(h2:ps<=8192):Zbm (F1 ps) 1=some ((),0,()):=by
 refine Vyc _ (F1_ok ps h1 h2) 1 (by omega) ?_;show Qp (1*ps) (Qj (1*ps+16) (F1 ps).bytes)=_;exact Vyd _ _ _ (λj hj=>Vqy _ _ (by omega) (by omega)) (by simp[F1,Vav];omega)
theorem Vfoa(ps:Nat)(h1:512<=ps)(h2:ps<=8192):Zbm (F1 ps) 0=some ((),1,()):=
 Vfja _ (F1_ok ps h1 h2) (by
  show Qj 16 (hdrF 1++_)=_;rw[List.take_append_of_le_length (by rw[Vav];omega),List.take_of_length_le (by rw[Vav];omega)])
theorem Va0a(ps:Nat)(h1:512<=ps)(h2:ps<=8192):Zfw (FF ps)=some ((),⟨⟨0,[]⟩,0,0,0,false⟩,11,()):=by
 have hf:=FF_ok ps h1 h2;have a1:=hf.lo;have a2:=hf.hi;have a3:=hf.ln;unfold Zfw;rw[Vba _ hf,bindU];simp only[Uk,Qn,Uj];rw[wI (2*(FF ps).ja) (by omega),Un (by omega),Uj];rw[show (0:Int)=((0:Nat):Int) from rfl,Vc8a ps h1 h2 0 (by omega),bindU,show (1:Int)=((1:Nat):Int) from rfl,Vc8a ps h1 h2 1 (by omega),bindU];rfl
theorem Vye(ps:Nat)(h1:512<=ps)(h2:ps<=8192):Zhj (F1 ps) 0 1=some ((),[],16,()):=by
 have hf:=F1_ok ps h1 h2;have a1:=hf.lo;have a2:=hf.hi;have a3:=hf.ln;unfold Zhj;rw[show Qb .i64 ((0:Int)*(F1 ps).ja)=0 by rw[Int.zero_mul];rfl,show Qb .i64 ((Qb .i64 ((0:Int)+1))*(F1 ps).ja)=(ps:Int) by rw[show Qb .i64 ((0:Int)+1)=1 from rfl,Int.one_mul];exact Vaw (by show (-9223372036854775808:Int)<=(ps:Int);omega) (by show (ps:Int)<_;omega)];dsimp only;have hb:(F1 ps).bytes.length=2*ps:=by simp[F1,Vav];omega
 rw[Um (by omega:0<=(ps:Int)),Um (by omega:(ps:Int)<=((F1 ps).bytes.length:Int)),Um (by omega:(0:Int)<=0),Um (by omega:(0:Int)<=(((ps:Int)).toNat:Int))];simp only[Bool.and_self,Ui];rw[show (0:Int).toNat=0 from rfl,List.drop_zero,Qd];unfold Zhj_L0 Yi4;rw[Vaa,show (1180591620717411303424:Nat)=1180591620717411303423+1 from rfl,Vac];dsimp only;have hl:(Qj ps (F1 ps).bytes).length=ps:=by rw[Qk];omega
 have g16:getI (Qj ps (F1 ps).bytes) 16=some 255:=gIn (i:=16) (by rw[Qq,if_pos (by omega),Vqy _ _ (by omega) (by omega)]);have g17:getI (Qj ps (F1 ps).bytes) 17=some 255:=gIn (i:=17) (by rw[Qq,if_pos (by omega),Vqy _ _ (by omega) (by omega)]);have body:Zhj_L0b 1 (Qj ps (F1 ps).bytes) [] 16=some (Qt ([],16,())):=by
  unfold Zhj_L0b;rw[show Qb .i64 ((16:Int)+10)=26 from rfl,show Qb .i64 ((16:Int)+1)=17 from rfl,hl,Um (by omega:(26:Int)<(ps:Int)),Ui,g16,bindU,g17,bindU];rfl
 rw[body];rfl
theorem Vyf(ps:Nat)(h1:512<=ps)(h2:ps<=8192)(q:Jh×Unit):Ok (Zfw_L0 ((F1 ps,()),q,((ps:Int),(F1 ps).bytes,0,1,16,false,()),16,())) λz=>z=(q,((ps:Int),(F1 ps).bytes,0,1,16,false,()),()):=by
 have hf:=F1_ok ps h1 h2;have a1:=hf.lo;have a2:=hf.hi;have a3:=hf.ln;unfold Zfw_L0 Yi4;refine Ok.iter (λs=>∃k:Nat,16<=k/\k<=ps/\s=((F1 ps,()),q,((ps:Int),(F1 ps).bytes,0,1,16,false,()),(k:Int),())) (λs=>((ps:Int)-s.2.2.2.1).toNat) ⟨16,by omega,by omega,rfl⟩ (by rw[Vaa];dsimp only;omega) ?_;rintro s ⟨k,hk0,hk,rfl⟩;dsimp only;unfold Zfw_L0b;dsimp only;refine Ok.cond (λhc=>?_) (λhc=>Ok.some rfl);have hc:=Uo hc;have hc:(k:Int)<(ps:Int):=hc;rw[wI ((k:Int)+1) (by omega),Uj];rw[show Qb .i64 (Qb .i64 ((0:Int)*(F1 ps).ja)+(k:Int))=(k:Int) by
  rw[Int.zero_mul,show Qb .i64 0=0 from rfl,Int.zero_add];exact Vaw (by omega) (by omega)]
 rw[gIn (Vqy ps k hk0 (by omega)),bindU];exact Ok.some ⟨⟨k+1,by omega,by omega,rfl⟩,by dsimp only;omega⟩
theorem Vqz(ps:Nat)(h1:512<=ps)(h2:ps<=8192):Zfw (F1 ps)=some ((),J1 ps,0,()):=by
 have hf:=F1_ok ps h1 h2;have a1:=hf.lo;have a2:=hf.hi;have a3:=hf.ln;unfold Zfw;rw[Vba _ hf,bindU];simp only[Uk,Qn,Uj];rw[wI (2*(F1 ps).ja) (by omega),Un (by omega),Uj];rw[Vfoa ps h1 h2,bindU,Vfna ps h1 h2,bindU];dsimp only;rw[show decide ((1:Int)=0)=false from rfl,show decide ((1:Int)<0)=false from rfl,Uj,Vab (by omega) (by omega),Ui,Uj,bindU];dsimp only;rw[Vye ps h1 h2,bindU];dsimp only;obtain⟨z,e,rfl⟩:=Vyf ps h1 h2 (⟨⟨0,[]⟩,0,0,0,false⟩,());rw[show (F1 ps).ja=(ps:Int) from rfl,e,bindU];rfl
theorem Vex(ps:Nat)(h1:512<=ps)(h2:ps<=8192):Zdn (J1 ps)=some ((),true,()):=by
 unfold Zdn;rw[show (J1 ps).jf=F1 ps from rfl,Vqz ps h1 h2,bindU];dsimp only;rw[show decide ((0:Int)=0)=true from rfl,Ui,Ve4,bindU,Um rfl]
theorem Vnr(ps:Nat)(h1:512<=ps)(h2:ps<=8192):Zev (J1 ps)=some ((),[],()):=by
 unfold Zev Zdp;rw[Vex ps h1 h2,bindU];dsimp only;rw[show (!true)=false from rfl,Uj,show Zhj (J1 ps).jf (J1 ps).jak (J1 ps).jr=_ from Vye ps h1 h2,bindU,bindU];rfl
theorem Vc9a(l0 l1:Ua)(a n:Nat)(h0:∀j,j<l0.length->l0[j]? = some 255)(w:Wr a [] l0 l1 n)(j:Nat)(h:j<l0.length):l1[j]? = some 255:=by
 rw[w j];by_cases hj:a<=j/\j<a+n
 ·rw[if_pos hj,h0 j h];rfl
 ·rw[if_neg hj,h0 j h]
theorem Vyg(ps:Nat)(h1:512<=ps)(h2:ps<=8192):Zeu (FF ps) (-1)=some ((),J1 ps,-1,0,()):=by
 have key:Ok (Zeu (FF ps) (-1)) λr=>r=((),J1 ps,-1,0,()):=by
  have hf:=FF_ok ps h1 h2;have a1:=hf.lo;have a2:=hf.hi;have a3:=hf.ln;have hl0:(FF ps).bytes.length=2*ps:=by simp[FF]
  unfold Zeu;rw[Vba _ hf,bindU];simp only[Uk,Qn,Uj];rw[wI (2*(FF ps).ja) (by omega),Un (by omega),Uj];refine Ok.bm (Vc4a _ hf 0 (-1) (by omega) (by omega) (by omega)) ?_;rintro⟨_,f1,c1,e1,_⟩ ⟨⟨k1,k2,k3,k4⟩,w1⟩;dsimp only at *;subst k3;subst k4;have b1:=k1.ln;have g1:∀j,j<f1.bytes.length->f1.bytes[j]? = some 255:=λj hj=>Vc9a _ _ _ _ (λj hj=>Vc7a _ _ (by omega)) w1 j (by omega);rw[show decide ((0:Int)=0)=true from rfl,Ui];refine Ok.bind ?_;refine Ok.bm (Vc4a f1 k1 1 _ (by omega) (by omega) (by omega)) ?_;rintro⟨_,f2,c2,e2,_⟩ ⟨⟨m1,m2,m3,m4⟩,w2⟩;dsimp only at *;subst m3;subst m4;have b2:=m1.ln;have g2:∀j,j<f2.bytes.length->f2.bytes[j]? = some 255:=λj hj=>Vc9a _ _ _ _ g1 w2 j (by omega);refine Ok.some ?_;dsimp only;rw[show decide ((0:Int)=0)=true from rfl,Ui];refine Ok.bind ?_;rw[Viu,bindU];refine Ok.bm (Vaxa f2 m1 (hdrF 1) _ (by omega) (by omega) (by rw[Vav];have:=m1.lo;omega)) ?_;rintro⟨_,f3,c3,e3,_⟩ ⟨⟨n1,n2,n3,n4⟩,w3⟩;dsimp only at *;subst n3;subst n4;have b3:=n1.ln;have e:f3=F1 ps:=by
   have hp:f3.ja=(ps:Int):=by rw[n2,m2,k2];rfl
   have hb:f3.bytes=(F1 ps).bytes:=by
    apply Qv;intro j;rw[w3 j,Vav];show _=(hdrF 1++Qc (2*ps-16) (255:UInt8))[j]?;by_cases hj:j<16
    ·rw[if_pos (by omega),g2 j (by omega),List.getElem?_append_left (by rw[Vav];omega),Qa (by rw[Vav];omega:j<(hdrF 1).length)];simp only[Option.map_some,Nat.sub_zero];congr 1;unfold updB;rw[Un (by rw[Vav];omega),Uj,Ql,Qa (by rw[Vav];omega:j<(hdrF 1).length)];exact Vhua _
    ·rw[if_neg (by omega),Qs (by rw[Vav];omega),Vav];by_cases h2:j<2*ps
     ·rw[g2 j (by omega),Qh,if_pos (by omega)]
     ·rw[Qo (by omega),Qh,if_neg (by omega)]
   cases f3;dsimp only at hp hb;rw[hp,hb];rfl
  subst e;refine Ok.some ?_;dsimp only;rw[show (!decide ((0:Int)=0))=false from rfl,Uj,Vqz ps h1 h2,bindU];exact Ok.some rfl
 obtain⟨r,h,rfl⟩:=key;exact h
theorem Vfpa(ps:Nat)(h1:512<=ps)(h2:ps<=8192):Zhd (FF ps) (-1)=some ((),⟨J1 ps,[]⟩,-1,0,()):=by
 unfold Zhd;rw[Va0a ps h1 h2,bindU];dsimp only;rw[show decide ((11:Int)=11)=true from rfl,Ui,Vyg ps h1 h2,bindU,bindU];dsimp only;rw[show (!decide ((0:Int)=0))=false from rfl,Uj,Vnr ps h1 h2,bindU];rfl
theorem Vyh(ps:Nat)(h1:512<=ps)(h2:ps<=8192):Zhe (J1 ps)=some ((),256,()):=by
 unfold Zhe;rw[Vex ps h1 h2,bindU];dsimp only;rw[show (!true)=false from rfl,Uj,show (J1 ps).jat=false from rfl,Uj,show (J1 ps).jf.ja=(ps:Int) from rfl,show (J1 ps).tail=16 from rfl,wI ((ps:Int)-16) (by omega),wI ((ps:Int)-16-10) (by omega),Un (by omega:¬ (ps:Int)-16-10<256),Uj];rfl
theorem Vyi(ps:Nat)(h1:512<=ps)(h2:ps<=8192)(x:Ub)(a0 a1 a2 a3 b0 b1 b2:UInt8):Ok (Zid ⟨J1 ps,[]⟩ [⟨1,w8 x⟩,⟨2,[a0,a1,a2,a3]⟩,⟨16,w8 0++[b0,b1,b2]⟩] (-1)) λr=>VOk r.2.1/\r.2.2.2.1=0:=by
 have hf:=F1_ok ps h1 h2;unfold Zid Zas;dsimp only;rw[Vex ps h1 h2,bindU];dsimp only;rw[Ui,Vnr ps h1 h2,bindU];dsimp only;rw[show Zcc [] []=some ((),true,()) by kernel_rfl,bindU,bindU];dsimp only;rw[show (!true)=false from rfl,Uj,show decide ((([⟨1,w8 x⟩,⟨2,[a0,a1,a2,a3]⟩,⟨16,w8 0++[b0,b1,b2]⟩]:List Jf).length:Int)=0)=false from rfl,Uj];rw[show Zid_L0 ([⟨1,w8 x⟩,⟨2,[a0,a1,a2,a3]⟩,⟨16,w8 0++[b0,b1,b2]⟩],-1,((⟨J1 ps,[]⟩:Jm),()),((⟨⟨⟨(0:Int),[]⟩,(0:Int),(0:Int),(0:Int),false⟩,[]⟩:Jm),()),(0:Int),())=some (Qt ([⟨1,w8 x⟩,⟨2,[a0,a1,a2,a3]⟩,⟨16,w8 0++[b0,b1,b2]⟩],-1,((⟨J1 ps,[]⟩:Jm),()),((⟨⟨⟨(0:Int),[]⟩,(0:Int),(0:Int),(0:Int),false⟩,[]⟩:Jm),()),())) by kernel_rfl,bindU];simp only[Qu];have hs:Zhf [⟨1,w8 x⟩,⟨2,[a0,a1,a2,a3]⟩,⟨16,w8 0++[b0,b1,b2]⟩]=some ((),32,()):=by kernel_rfl
 rw[hs,bindU];dsimp only;rw[show decide ((256:Int)<32)=false from rfl,Uj];rw[show Zhg [] [⟨1,w8 x⟩,⟨2,[a0,a1,a2,a3]⟩,⟨16,w8 0++[b0,b1,b2]⟩]=some ((),[⟨1,w8 x⟩,⟨2,[a0,a1,a2,a3]⟩,⟨16,w8 0++[b0,b1,b2]⟩],()) by kernel_rfl,bindU];dsimp only;rw[hs,bindU];dsimp only;rw[show (J1 ps).jf.ja=(ps:Int) from rfl,Un (by
  rw[show (Qb .i64 (Qb .i64 ((16:Int)+Qb .i64 ((10:Int)*(([⟨1,w8 x⟩,⟨2,[a0,a1,a2,a3]⟩,⟨16,w8 0++[b0,b1,b2]⟩]:List Jf).length:Int)))+32))=78 from rfl];omega),Uj,bindU,Vyh ps h1 h2,bindU]
 dsimp only;rw[show decide ((32:Int)<=256)=true from rfl,Ui];obtain⟨rc,hrc,hlen⟩:∃rc:Ua,Zez [⟨1,w8 x⟩,⟨2,[a0,a1,a2,a3]⟩,⟨16,w8 0++[b0,b1,b2]⟩]=some ((),rc,())/\rc.length=32:=⟨[1,0,8]++w8 x++[2,0,4,a0,a1,a2,a3,16,0,11]++(w8 0++[b0,b1,b2]),by kernel_rfl,rfl⟩;rw[hrc,bindU];dsimp only;unfold Zet;rw[Vex ps h1 h2,bindU];dsimp only;rw[show (!true)=false from rfl,Uj,hlen,show decide (((32:Nat):Int)<1)=false from rfl,Uj,show decide ((256:Int)<((32:Nat):Int))=false from rfl,Uj,show (J1 ps).jat=false from rfl,Uj,Vyh ps h1 h2,bindU];dsimp only;rw[show decide ((256:Int)<((32:Nat):Int))=false from rfl,Uj];obtain⟨⟨_,fr,_⟩,hfr,hfl⟩:=frame_ok (J1 ps).jr rc (by omega);rw[hfr,bindU];dsimp only at *;obtain⟨⟨_,f3,c3,e3,_⟩,hp,n1,n2,n3,n4⟩:=Vew (F1 ps) hf 0 16 fr (-1) (by omega) (by omega) (by omega) (by omega) (by omega) (by show 16+(fr.length:Int)<=(ps:Int);omega);dsimp only at *;subst n3;subst n4;rw[show Zdo (J1 ps).jf (J1 ps).jak (J1 ps).tail fr (-1)=_ from hp,bindU];dsimp only;rw[show (!decide ((0:Int)=0))=false from rfl,Uj,bindU,bindU];dsimp only;rw[show (!decide ((0:Int)=0))=false from rfl,Uj];refine Ok.bm (Viv _ n1) ?_;rintro⟨_,s,_⟩ ⟨s1,s2⟩;exact Ok.some ⟨⟨n1,s1,s2⟩,rfl⟩
theorem Vfqa(l:List Ub)(b:Ua)(k:Nat)(hk:k<l.length)(hb:b.length<=100000):Ok (passkeyref1_Words_L2 (l,b,(k:Int),7,())) λz=>∃b2:Ua,z=(l,b2,(k:Int),())/\b2.length=b.length+8:=by
 unfold passkeyref1_Words_L2 Yi4;refine Ok.iter (λs=>∃(m:Int) (b2:Ua),-1<=m/\m<=7/\(b2.length:Int)=b.length+(7-m)/\s=(l,b2,(k:Int),m,())) (λs=>(s.2.2.2.1+1).toNat) ⟨7,b,by omega,by omega,by omega,rfl⟩ (by rw[Vaa];dsimp only;omega) ?_;rintro s ⟨m,b2,hm,hm2,hl,rfl⟩;dsimp only;unfold passkeyref1_Words_L2b;refine Ok.cond (λhc=>?_) (λhc=>Ok.some ⟨b2,rfl,by have:=Up hc;omega⟩);have hc:=Uo hc;rw[gIn (Qa hk),bindU];dsimp only;rw[Vab (by simp only[Qe,Qg];omega) (by omega),Ui,wI (m-1) (by omega)];exact Ok.some ⟨⟨m-1,_,by omega,by omega,by rw[Qi];simp only[Qe,Qg];omega,rfl⟩,by dsimp only;omega⟩
theorem Va1a(l:List Ub)(hl:l.length<=1000):Ok (passkeyref1_Words l) λr=>r.2.1.length=8*l.length:=by
 unfold passkeyref1_Words passkeyref1_Words_L0 Yi3;refine Ok.bm (Ok.iter (Q:=λz=>z.1.length=8*l.length) (λs=>∃(k:Nat) (b:Ua),k<=l.length/\b.length=8*k/\s=(l,b,(k:Int),())) (λs=>((l.length:Int)-s.2.2.1).toNat) ⟨0,[],by omega,rfl,rfl⟩ (by rw[Vaa];dsimp only;omega) ?_) ?_
 ·rintro s ⟨k,b,hk,hb,rfl⟩;dsimp only;unfold passkeyref1_Words_L0b;refine Ok.cond (λhc=>?_) (λhc=>Ok.some (by have:=Up hc;dsimp only;omega));have hc:=Uo hc;refine Ok.bm (Vfqa l b k (by omega) (by omega)) ?_;rintro z ⟨b2,rfl,h2⟩;dsimp only;rw[wI ((k:Int)+1) (by omega)];exact Ok.some ⟨⟨k+1,b2,by omega,by omega,rfl⟩,by dsimp only;omega⟩
 ·rintro⟨b,_⟩ hb;exact Ok.some hb
theorem Vdaa(a b:Ub):Ok (Zhy a b) λ_=>True:=by
 unfold Zhy Zhy_L0 Yi4;refine Ok.bm (Ok.iter (Q:=λ_=>True) (λs=>∃(x y z:Ub) (j:Nat),j<=61/\s=(x,y,z,60-(j:Int),())) (λs=>(s.2.2.2.1+1).toNat) ⟨_,_,_,0,by omega,rfl⟩ (by rw[Vaa];dsimp only;omega) ?_) λ_ _=>Ok.some trivial;rintro s ⟨x,y,z,j,hj,rfl⟩;dsimp only;unfold Zhy_L0b;refine Ok.cond (λhc=>?_) (λ_=>Ok.some trivial);have hc:=Uo hc;rw[wI (60-(j:Int)-1) (by omega)];have nx:∀w,∃(x2 y2 z2:Ub) (j2:Nat),j2<=61/\(x,y,w,60-(j:Int)-1,())=((x2,y2,z2,60-(j2:Int),()):Y_Zhy_L0):=λw=>⟨x,y,w,j+1,by omega,by rw[show (60:Int)-((j+1:Nat):Int)=60-(j:Int)-1 by omega]⟩;exact Ok.cond (λ_=>Ok.some ⟨nx _,by dsimp only;omega⟩) (λ_=>Ok.some ⟨nx _,by dsimp only;omega⟩)
theorem Vq0(a b:Ub):Ok (Zfu a b) λ_=>True:=by
 unfold Zfu Zfu_L0 Yi4;refine Ok.bm (Ok.iter (Q:=λ_=>True) (λs=>∃(x y z:Ub) (j:Nat),j<=64/\s=(x,y,z,63-(j:Int),())) (λs=>(s.2.2.2.1+1).toNat) ⟨_,_,_,0,by omega,rfl⟩ (by rw[Vaa];dsimp only;omega) ?_) λ_ _=>Ok.some trivial;rintro s ⟨x,y,z,j,hj,rfl⟩;dsimp only;unfold Zfu_L0b;refine Ok.cond (λhc=>?_) (λ_=>Ok.some trivial);have hc:=Uo hc;rw[wI (63-(j:Int)-1) (by omega)];have nx:∀w,∃(x2 y2 z2:Ub) (j2:Nat),j2<=64/\(x,y,w,63-(j:Int)-1,())=((x2,y2,z2,63-(j2:Int),()):Y_Zfu_L0):=λw=>⟨x,y,w,j+1,by omega,by rw[show (63:Int)-((j+1:Nat):Int)=63-(j:Int)-1 by omega]⟩;refine Ok.bm (Vdaa _ _) λ_ _=>?_;refine Ok.cond (λ_=>Ok.bm (Vdaa _ _) λ_ _=>?_) (λ_=>?_);all_goals exact Ok.some ⟨nx _,by dsimp only;omega⟩
theorem Vf6(a:Ub):Ok (Zbl a) λ_=>True:=by
 unfold Zbl Zcn;rw[bindU];exact Ok.bm (Vq0 _ _) λ_ _=>Ok.some trivial
theorem Vns(a b:Ub):Ok (Zep a b) λ_=>True:=by
 unfold Zep Zcn;refine Ok.cond (λ_=>Ok.some trivial) λ_=>Ok.cond (λ_=>Ok.some trivial) λ_=>?_;rw[bindU];refine Ok.bm (Vq0 _ _) λ_ _=>?_;rw[rW1,bindU,rHash _ _ (by simp[w8]),bindU];exact Ok.some trivial
theorem Viy(a b:Ub)(n:Int):Ok (Zeq a b n) λr=>(r.2.1.length:Int)=min (max n 0) 1024:=by
 unfold Zeq;have hm:(bif decide ((1024:Int)<(bif decide (n<(0:Int)) then (0:Int) else n)) then (1024:Int) else (bif decide (n<(0:Int)) then (0:Int) else n))=min (max n 0) 1024:=by
  by_cases h:n<0
  ·rw[Um h,Ui,show decide ((1024:Int)<0)=false from rfl,Uj];omega
  ·rw[Un h,Uj];by_cases h2:1024<n
   ·rw[Um h2,Ui];omega
   ·rw[Un h2,Uj];omega
 rw[hm];obtain⟨m,hm2,hm3⟩:∃m:Nat,min (max n 0) 1024=(m:Int)/\m<=1024:=⟨(min (max n 0) 1024).toNat,by omega,by omega⟩;rw[hm2];dsimp only;unfold Zeq_L0 Yi5;refine Ok.bm (Ok.iter (Q:=λz=>∃l:Ua,z=((m:Int),l,())/\m<=l.length) (λs=>∃(k:Nat) (l:Ua),l.length=8*k/\l.length<=m+8/\s=(a,b,(m:Int),l,(k:Int),())) (λs=>((m:Int)+8-s.2.2.2.1.length).toNat) ⟨0,[],rfl,by simp,rfl⟩ (by rw[Vaa];dsimp only;omega) ?_) ?_
 ·rintro s ⟨k,l,hl,hl2,rfl⟩;dsimp only;unfold Zeq_L0b;refine Ok.cond (λhc=>?_) (λhc=>Ok.some ⟨l,rfl,by have:=Up hc;omega⟩);have hc:=Uo hc;rw[rW2,bindU,rMac _ _ _ (by simp[w8]),bindU,rW1,bindU];dsimp only;rw[Vab (by simp[w8];omega) (by omega),Ui,wI ((k:Int)+1) (by omega)];exact Ok.some ⟨⟨k+1,_,by simp[w8];omega,by simp[w8];omega,rfl⟩,by simp[w8];omega⟩
 ·rintro z ⟨l,rfl,hl⟩;dsimp only;rw[Um (by omega:0<=(m:Int)),Um (by omega:(m:Int)<=(l.length:Int)),Um (by omega:(m:Int).toNat<=l.length),show (true&&true)=true from rfl,Ui,Ui];refine Ok.some ?_;dsimp only;rw[Qk];omega
theorem Vdba(a b:Ub)(l:Ua)(hl:l.length<=1024):Ok (Zia a b l) λr=>r.2.1.length=l.length:=by
 unfold Zia;refine Ok.bm (Viy a b _) ?_;rintro⟨_,st,_⟩ hst;dsimp only at *;have hst:st.length=l.length:=by omega
 unfold Zia_L0 Yi4;refine Ok.bm (Ok.iter (Q:=λz=>z.1.length=l.length) (λs=>∃(k:Nat) (q:Ua),k<=l.length/\q.length=k/\s=(l,st,q,(k:Int),())) (λs=>((l.length:Int)-s.2.2.2.1).toNat) ⟨0,[],by omega,rfl,rfl⟩ (by rw[Vaa];dsimp only;omega) ?_) ?_
 ·rintro s ⟨k,q,hk,hq,rfl⟩;dsimp only;unfold Zia_L0b;refine Ok.cond (λhc=>?_) (λhc=>Ok.some (by have:=Up hc;dsimp only;omega));have hc:=Uo hc;have hkl:k<l.length:=by omega
  have hks:k<st.length:=by omega
  rw[gIn (Qa hkl),bindU,Um (by omega:0<=(k:Int)),Um (by omega:(k:Int)<(st.length:Int)),show (true&&true)=true from rfl,Ui,Qd,Qa hks,bindU];dsimp only;rw[Vab (by simp only[Qe,Qg];omega) (by omega),Ui,wI ((k:Int)+1) (by omega)];exact Ok.some ⟨⟨k+1,_,by omega,by rw[Qi];simp only[Qe,Qg];omega,rfl⟩,by dsimp only;omega⟩
 ·rintro⟨q,_⟩ hq;exact Ok.some hq
theorem Vyj(a b:Ub)(l m:Ua)(hl:l.length<=10000)(hm:m.length<=10000):Ok (Zib a b l m) λ_=>True:=by
 unfold Zib;dsimp only;rw[rW2,bindU];dsimp only;rw[Vab (by simp[w8];omega) (by omega),Ui,Vab (by simp[w8];omega) (by omega),Ui,rMac _ _ _ (by simp[w8];omega),bindU];exact Ok.some trivial
theorem Vlu(a b:Ub)(l m:Ua):Ok (Zha a b l m) λr=>r.2.1.length<=1040/\(m.length<=1024->l.length<=1024->r.2.1.length=m.length+16):=by
 unfold Zha;refine Ok.cond (λh=>Ok.some ⟨by simp,λh1=>by have:=Uo h;omega⟩) λh1=>Ok.cond (λh=>Ok.some ⟨by simp,λ_ h2=>by have:=Uo h;omega⟩) λh2=>?_;have h1:=Up h1;have h2:=Up h2;refine Ok.bm (Vdba a b m (by omega)) ?_;rintro⟨_,x,_⟩ hx;dsimp only at *;rw[rW1,bindU];dsimp only;rw[Vab (by simp[w8];omega) (by omega),Ui];refine Ok.bm (Vyj a b l x (by omega) (by omega)) ?_;rintro⟨_,t,_⟩ _;rw[rW1,bindU];dsimp only;rw[Vab (by simp[w8];omega) (by omega),Ui];exact Ok.some ⟨by simp[w8];omega,λ_ _=>by simp[w8];omega⟩
theorem Vq1(a:Ub)(l m:Ua):Ok (Zgz a l m) λr=>r.2.1.length<=1024:=by
 unfold Zgz;have z:∀e:Int,Ok (some ((),(([]:Ua),e,())):Option (Unit×(Ua×Int×Unit))) λr=>r.2.1.length<=1024:=λe=>Ok.some (Qm _);refine Ok.cond (λ_=>z _) λh1=>Ok.cond (λ_=>z _) λh2=>Ok.cond (λ_=>z _) λh3=>?_;have h1:=Up h1;have h2:=Up h2;have h3:=Up h3;rw[Um (by omega:(8:Int)<=(m.length:Int)),Ui];refine Ok.bm (Vc9 _) ?_;rintro⟨_,w,_⟩ _;rw[wI ((m.length:Int)-8) (by omega),Um (by omega:0<=(m.length:Int)-8),Um (by omega:(m.length:Int)-8<=(m.length:Int)),Um (by omega:(8:Int)<=(((m.length:Int)-8).toNat:Int)),show (true&&true)=true from rfl];simp only[Ui];refine Ok.bm (Vc9 _) ?_;rintro⟨_,w2,_⟩ _;have hx:(Qp 8 (Qj ((m.length:Int)-8).toNat m)).length<=1024:=by rw[Qw,Qk];omega
 refine Ok.bm (Vyj _ _ _ _ (by omega) (by omega)) ?_;rintro⟨_,t,_⟩ _;refine Ok.cond (λ_=>z _) λ_=>?_;refine Ok.bm (Vdba _ _ _ hx) ?_;rintro⟨_,x,_⟩ hx2;exact Ok.some (by dsimp only at *;omega)
theorem Vyk(a:Ub)(b c:Int):Ok (Zeo a b c) λ_=>True:=by
 unfold Zeo;dsimp only;rw[rW2,bindU,rMac _ _ _ (by simp[w8]),bindU];exact Ok.some trivial
theorem Vfra(a b c d:Int)(x:Ub)(h:c<=100):Ok (Zhz a b c d x) λ_=>True:=by
 unfold Zhz Zhz_L0 Yi5;have hc:0<=(bif decide (c<(0:Int)) then (0:Int) else c)/\(bif decide (c<(0:Int)) then (0:Int) else c)<=100:=by
  by_cases h:c<0
  ·rw[Um h,Ui];omega
  ·rw[Un h,Uj];omega
 generalize (bif decide (c<(0:Int)) then (0:Int) else c)=c0 at hc;have hm:(bif decide ((15:Int)<d) then (15:Int) else d)<=15:=by
  by_cases h:15<d
  ·rw[Um h,Ui];omega
  ·rw[Un h,Uj];omega
 refine Ok.bm (Ok.iter (Q:=λ_=>True) (λs=>∃(x:Ub) (k:Int),0<=k/\k<=100/\s=(a,b,d,x,k,())) (λs=>(200-s.2.2.2.2.1).toNat) ⟨x,c0,hc.1,hc.2,rfl⟩ (by rw[Vaa];dsimp only;omega) ?_) λ_ _=>Ok.some trivial;rintro s ⟨x,k,hk,hk2,rfl⟩;dsimp only;unfold Zhz_L0b;dsimp only;refine Ok.cond (λhc=>?_) (λ_=>Ok.some trivial);have hc:=Uo hc;rw[rW4,bindU,rHash _ _ (by simp[w8]),bindU,wI (k+1) (by omega)];exact Ok.some ⟨⟨_,k+1,by omega,by omega,rfl⟩,by dsimp only;omega⟩
theorem Vfsa(a:Int)(l:List Ub)(hl:l.length<=1000):Ok (Zhb a l) λ_=>True:=by
 unfold Zhb;rw[rW1,bindU];refine Ok.bm (Va1a l hl) ?_;rintro⟨_,b,_⟩ hb;dsimp only at *;rw[Vab (by simp[w8];omega) (by omega),Ui,rHash _ _ (by simp[w8];omega),bindU];exact Ok.some trivial
theorem Vfta(a:Ub)(n:Int):Ok (Zgy a n) λ_=>True:=by
 unfold Zgy ZgyG Zgy_L0 Yi4;refine Ok.bm (Ok.iter (Q:=λz=>∃l:List Ub,z=(n,l,())/\l.length<=18) (λs=>∃(k:Nat) (l:List Ub),k<=18/\l.length=k/\s=(a,n,l,(k:Int),())) (λs=>((18:Int)-s.2.2.2.1).toNat) ⟨0,[],by omega,rfl,rfl⟩ (by rw[Vaa];dsimp only;omega) ?_) ?_
 ·rintro s ⟨k,l,hk,hl,rfl⟩;dsimp only;unfold Zgy_L0b;refine Ok.cond (λhc=>?_) (λhc=>Ok.some ⟨l,rfl,by omega⟩);have hc:=Uo hc;refine Ok.bm (Vyk _ _ _) ?_;rintro⟨_,s,_⟩ _;refine Ok.bm (Vfra _ _ _ _ _ (by omega)) ?_;rintro⟨_,x,_⟩ _;dsimp only;rw[Vab (by simp only[Qe,Qg];omega) (by omega),Ui,wI ((k:Int)+1) (by omega)];exact Ok.some ⟨⟨k+1,_,by omega,by rw[Qi];simp only[Qe,Qg];omega,rfl⟩,by dsimp only;omega⟩
 ·rintro z ⟨l,rfl,hl⟩;dsimp only;exact Ok.bm (Vfsa _ _ (by omega)) λ_ _=>Ok.some trivial
theorem Vo4(a:Ub):∀(n k:Nat) (i:Int),k<n->n<=100->Ok (Zhc_n n a (k:Int) i) λ_=>True
 |0,k,i,h,hn=>by omega
 |n+1,k,i,h,hn=>by
  show Ok (Zhc_R (Zhc_n n) a (k:Int) i) _;unfold Zhc_R;refine Ok.cond (λ_=>Ok.bm (Vfta _ _) λ_ _=>Ok.some trivial) λhc=>?_;have hc:=Up hc;rw[wI ((k:Int)-1) (by omega),show (k:Int)-1=((k-1:Nat):Int) by omega];refine Ok.bm (Vo4 a n (k-1) _ (by omega) (by omega)) λ_ _=>?_;refine Ok.bm (Vo4 a n (k-1) _ (by omega) (by omega)) λ_ _=>?_;unfold Zes;rw[rW3,bindU,rHash _ _ (by simp[w8]),bindU,bindU];exact Ok.some trivial
theorem Viz(n:Int):Zer n=some ((),(decide (0<=n)&&decide (n<=4)),()):=by
 unfold Zer;cases decide (0<=n)<;>rfl
theorem Vyl(a:Ub)(n:Int):Ok (Zen a n) λr=>0<=r.2.1.jc/\r.2.1.jc<=4:=by
 unfold Zen;rw[Viz,bindU];dsimp only;refine Ok.cond (λ_=>Ok.some ⟨by dsimp only;omega,by dsimp only;omega⟩) λh=>?_;have h:0<=n/\n<=4:=by
  have:(decide (0<=n)&&decide (n<=4))=true:=by revert h;cases (decide (0<=n)&&decide (n<=4))<;>simp
  simpa using this
 unfold Zhc;rw[show n=(n.toNat:Int) by omega];refine Ok.bm (Vo4 a 8 n.toNat 0 (by omega) (by omega)) λ_ _=>Ok.some ⟨by dsimp only;omega,by dsimp only;omega⟩
theorem Vgw(k:Js):Ok (Zca k) λr=>r.2.1.length<=9:=by
 unfold Zca;rw[Viz,bindU];refine Ok.cond (λ_=>Ok.some (Qm _)) λ_=>?_;dsimp only;rw[rW1,bindU];dsimp only;rw[Vab (by simp[w8]) (by omega),Ui];exact Ok.some (by simp[w8])
theorem Vnt(l:Ua):Ok (Zbz l) λr=>r.2.2.1=0->0<=r.2.1.jc/\r.2.1.jc<=4:=by
 unfold Zbz;refine Ok.cond (λ_=>Ok.some λh=>by cases h) λh=>?_;have h:l.length=9:=by
  have:decide ((l.length:Int)=(9:Int))=true:=by revert h;cases decide ((l.length:Int)=(9:Int))<;>simp
  have:=Uo this;omega
 have g0:getI l 0=some (l[0]'(by omega)):=gIn (i:=0) (Qa (by omega));rw[g0,bindU,Viz,bindU];dsimp only;refine Ok.cond (λ_=>Ok.some λh=>by cases h) λh2=>?_;have h2:(decide (0<=((l[0]'(by omega)).toBitVec.toNat:Int))&&decide (((l[0]'(by omega)).toBitVec.toNat:Int)<=4))=true:=by revert h2;cases (decide (0<=((l[0]'(by omega)).toBitVec.toNat:Int))&&decide (((l[0]'(by omega)).toBitVec.toNat:Int)<=4))<;>simp
 simp only[Qx,Uq]at h2;rw[bindU,Um (by omega:(1:Int)<=(l.length:Int)),Ui];refine Ok.bm (Vc9 _) ?_;rintro⟨_,w,_⟩ _;exact Ok.some λ_=>h2
theorem Vgo(l:Ua)(hl:l.length<=100000):Ok (Zcg l) λ_=>True:=by
 unfold Zcg;rw[rHash _ _ (by omega),bindU];exact Ok.some trivial
theorem Vi0(a b:Ub):Ok (Zbu a b) λ_=>True:=by
 unfold Zbu;rw[rW1,bindU,rMac _ _ _ (by simp[w8]),bindU];exact Ok.some trivial
theorem Vj9(a b:Ub)(l:Ua):Ok (Zci a b l) λr=>r.2.1.length<=1040/\(l.length<=63->r.2.1.length=80):=by
 unfold Zci;refine Ok.cond (λh=>Ok.some ⟨by simp,λh1=>by have:=Uo h;omega⟩) λh=>?_;have h:=Up h;dsimp only;rw[Um (by simp;omega),Ui];refine Ok.bm (Vlu _ _ _ _) ?_;rintro⟨_,x,e,_⟩ ⟨h1,h2⟩;dsimp only at *;have hl:(l++Qp l.length (Qc 64 (0:UInt8))).length=64:=by simp;omega
 rw[hl]at h2;exact Ok.some ⟨h1,λ_=>h2 (by omega) (by simp)⟩
theorem Vfg(a b c:Ub):Ok (Zbw a b c) λr=>r.2.1.length=24:=by
 unfold Zbw;rw[rW1,bindU];refine Ok.bm (Vlu _ _ _ _) ?_;rintro⟨_,x,e,_⟩ ⟨h1,h2⟩;exact Ok.some (h2 (by simp[w8]) (by simp))
theorem Vo5(a:Ub)(l:Ua):Ok (Zbv a l) λ_=>True:=by
 unfold Zbv;refine Ok.bm (Vq1 _ _ _) ?_;rintro⟨_,x,e,_⟩ _;refine Ok.cond (λ_=>Ok.some trivial) λ_=>Ok.cond (λ_=>Ok.some trivial) λ_=>?_;exact Ok.bm (Vc9 _) λ_ _=>Ok.some trivial
theorem Vr2(a:Ub)(l:Ua):Ok (Zch a l) λr=>r.2.1.length<=64:=by
 unfold Zch;refine Ok.bm (Vq1 _ _ _) ?_;rintro⟨_,x,e,_⟩ hx;dsimp only at *;have z:∀e:Int,Ok (some ((),(([]:Ua),e,())):Option (Unit×(Ua×Int×Unit))) λr=>r.2.1.length<=64:=λe=>Ok.some (Qm _);refine Ok.cond (λ_=>z _) λ_=>?_;unfold Zch_L0 Yi2;refine Ok.bm (Ok.iter (Q:=λz=>∃n:Nat,z=(x,(n:Int),())/\n<=x.length) (λs=>∃k:Nat,k<=x.length/\s=(x,(k:Int),())) (λs=>((x.length:Int)-s.2.1).toNat) ⟨0,by omega,rfl⟩ (by rw[Vaa];dsimp only;omega) ?_) ?_
 ·rintro s ⟨k,hk,rfl⟩;dsimp only;unfold Zch_L0b;refine Ok.cond (λhc=>?_) (λ_=>Ok.some ⟨k,rfl,hk⟩);have hc:=Uo hc;have hkx:k<x.length:=by omega
  rw[Um (by omega:0<=(k:Int)),Um hc,show (true&&true)=true from rfl,Ui,Qd,Qa hkx,bindU,wI ((k:Int)+1) (by omega)];exact Ok.cond (λ_=>Ok.some ⟨⟨k+1,hkx,rfl⟩,by dsimp only;omega⟩) λ_=>Ok.some ⟨k,rfl,hk⟩
 rintro q ⟨n,rfl,hn⟩;dsimp only;refine Ok.cond (λ_=>z _) λh64=>Ok.cond (λ_=>z _) λ_=>?_;have h64:x.length=64:=by
  have:decide ((x.length:Int)=(64:Int))=true:=by revert h64;cases decide ((x.length:Int)=(64:Int))<;>simp
  have:=Uo this;omega
 unfold Zch_L2 Yi3;refine Ok.bm (Ok.iter (Q:=λz=>(∃e,z=Sum.inl (([]:Ua),e,()))\/z=Qt (x,(n:Int),())) (λs=>∃k:Nat,k<=x.length/\s=(x,(n:Int),(k:Int),())) (λs=>((x.length:Int)-s.2.2.1).toNat) ⟨n,hn,rfl⟩ (by rw[Vaa];dsimp only;omega) ?_) ?_
 ·rintro s ⟨k,hk,rfl⟩;dsimp only;unfold Zch_L2b;refine Ok.cond (λhc=>?_) (λ_=>Ok.some (.inr rfl));have hc:=Uo hc;have hkx:k<x.length:=by omega
  rw[Um (by omega:0<=(k:Int)),Um hc,show (true&&true)=true from rfl,Ui,Qd,Qa hkx,bindU,wI ((k:Int)+1) (by omega)];exact Ok.cond (λ_=>Ok.some (.inl ⟨_,rfl⟩)) λ_=>Ok.some ⟨⟨k+1,hkx,rfl⟩,by dsimp only;omega⟩
 ·rintro q (⟨e,rfl⟩|rfl)
  ·exact z _
  ·simp only[Qu];rw[Um (by omega:0<=(n:Int)),Um (by omega:(n:Int)<=(x.length:Int)),Um (by omega:(n:Int).toNat<=x.length),show (true&&true)=true from rfl,Ui,Ui];exact Ok.some (by dsimp only;rw[Qk];omega)
theorem Vym(p:Jo):Ok (Zda p) λ_=>True:=by
 unfold Zda;exact Ok.cond (λ_=>Ok.some trivial) λ_=>Ok.cond (λ_=>Ok.some trivial) λ_=>Ok.cond (λ_=>Ok.some trivial) λ_=>Ok.some trivial
theorem Vyn(p:Jo)(b:Bool):Ok (Zdb p b) λ_=>True:=by
 unfold Zdb;refine Ok.cond (λ_=>Ok.some trivial) λ_=>Ok.bind (Ok.cond (λ_=>Ok.some ?_) λ_=>Ok.some ?_);all_goals exact Ok.cond (λ_=>Ok.some trivial) λ_=>Ok.cond (λ_=>Ok.some trivial) λ_=>Ok.some trivial
theorem Vgx(a b:Ub):Ok (Zbh a b) λ_=>True:=by
 unfold Zbh;rw[rW1,bindU,rMac _ _ _ (by simp[w8]),bindU];exact Ok.some trivial
theorem Vjd(t:Jt)(a b:Int)(l:Ua)(x y:Ub):Ok (Zao t a b l x y) λ_=>True:=by
 unfold Zao;refine Ok.bm (Q:=λ_=>True) (Ok.cond (λ_=>Ok.some trivial) (λ_=>Ok.some trivial)) λj _=>?_;dsimp only;repeat' first
  |with_reducible exact Ok.some trivial
  |with_reducible refine Ok.cond (λ_=>?_) (λ_=>?_)
  |with_reducible refine Ok.bm (Vgx _ _) λ_ _=>?_
theorem Vhya(t:Jt)(a:Int):Ok (Zgk t a) λ_=>True:=by
 unfold Zgk;exact Ok.cond (λ_=>Ok.some trivial) λ_=>Ok.cond (λ_=>Ok.some trivial) λ_=>Ok.cond (λ_=>Ok.some trivial) λ_=>Ok.some trivial
theorem Va2a(t:Jt)(v:Ub)(a:Int)(l:Ua)(b:Int):Ok (Zea t v a l b) λ_=>True:=by
 unfold Zea;repeat' refine Ok.cond (λ_=>?_) (λ_=>?_)
 all_goals exact Ok.some trivial
theorem Vfua(n:Int)(f v:Bool)(g:List Jl)(hg:g.length<=1000000)(c:Jn)(at_:Int):Ok (Zdz_L2 (n,f,v,g,(c,()),at_,0,())) λz=>(∃c2 e,z=Sum.inl ((c2,()),e,())/\(e=0->c2.at_=at_))\/z=Qt (n,f,v,g,(c,()),at_,()):=by
 unfold Zdz_L2 Yi7;refine Ok.iter (λs=>∃k:Nat,k<=g.length/\s=(n,f,v,g,(c,()),at_,(k:Int),())) (λs=>((g.length:Int)-s.2.2.2.2.2.2.1).toNat) ⟨0,by omega,rfl⟩ (by rw[Vaa];dsimp only;omega) ?_;rintro s ⟨k,hk,rfl⟩;dsimp only;unfold Zdz_L2b;refine Ok.cond (λhc=>?_) (λ_=>Ok.some (.inr rfl));have hc:=Uo hc;have hkg:k<g.length:=by omega
 have gk:=gIn (Qa hkg);simp only[gk,bindU];have nx:(∃k2:Nat,k2<=g.length/\((n,f,v,g,(c,()),at_,(k:Int)+1,()):Y_Zdz_L2)=(n,f,v,g,(c,()),at_,(k2:Int),()))/\((g.length:Int)-((k:Int)+1)).toNat<((g.length:Int)-(k:Int)).toNat:=⟨⟨k+1,hkg,rfl⟩,by omega⟩;have ws:Qb .i64 ((k:Int)+1)=(k:Int)+1:=Vaw (by omega) (by omega);refine Ok.cond (λ_=>by rw[ws];exact Ok.some nx) (λ_=>?_);refine Ok.bm (Q:=λj=>∃b:Bool,j=(n,f,v,g,(c,()),at_,(k:Int),b,())) (by
  repeat' first
   |exact Ok.some ⟨_,rfl⟩
   |refine Ok.cond (λ_=>?_) (λ_=>?_)) ?_
 rintro j ⟨b,rfl⟩;dsimp only;refine Ok.bm (Q:=λj=>∃b:Bool,j=(n,f,v,g,(c,()),at_,(k:Int),b,())) (Ok.cond (λ_=>Ok.some ⟨_,rfl⟩) (λ_=>Ok.some ⟨_,rfl⟩)) ?_;rintro j ⟨b2,rfl⟩;dsimp only;refine Ok.cond (λ_=>Ok.some (.inl ⟨_,_,rfl,λ_=>rfl⟩)) (λ_=>?_);rw[gk,bindU];refine Ok.bm (Q:=λj=>∃b:Bool,j=(n,f,v,g,(c,()),at_,(k:Int),b,())) (Ok.cond (λ_=>Ok.some ⟨_,rfl⟩) (λ_=>Ok.some ⟨_,rfl⟩)) ?_;rintro j ⟨b3,rfl⟩;dsimp only;refine Ok.cond (λ_=>Ok.some (.inl ⟨_,_,rfl,λ_=>rfl⟩)) (λ_=>?_);simp only[gk,bindU];refine Ok.bm (Q:=λj=>∃b:Bool,j=(n,f,v,g,(c,()),at_,(k:Int),b,())) (by
  repeat' first
   |exact Ok.some ⟨_,rfl⟩
   |refine Ok.cond (λ_=>?_) (λ_=>?_)) ?_
 rintro j ⟨b4,rfl⟩;dsimp only;refine Ok.cond (λ_=>Ok.some (.inl ⟨_,_,rfl,λh=>by cases h⟩)) (λ_=>?_);rw[gk,bindU,ws];exact Ok.cond (λ_=>Ok.some (.inl ⟨_,_,rfl,λh=>by cases h⟩)) (λ_=>Ok.some nx)
theorem Vfva(n:Int)(f v:Bool)(g:List Jl)(hg:g.length<=1000000)(c:Jn)(h0:0<=n)(h1:n<=1099511627776):Ok (Zdz_L0 (n,f,v,g,(c,()),n+1,())) λz=>(∃c2 e,z=Sum.inl ((c2,()),e,())/\(e=0->0<=c2.at_/\c2.at_<=1099511627776))\/z=Qt ((c,()),()):=by
 unfold Zdz_L0 Yi6;refine Ok.iter (λs=>∃k:Int,n<=k/\k<=n+100/\s=(n,f,v,g,(c,()),k,())) (λs=>(n+1000-s.2.2.2.2.2.1).toNat) ⟨n+1,by omega,by omega,rfl⟩ (by rw[Vaa];dsimp only;omega) ?_;rintro s ⟨k,hk,hk2,rfl⟩;dsimp only;unfold Zdz_L0b;dsimp only;rw[wI (n+30) (by omega)];have hm:(bif decide ((1099511627776:Int)<n+30) then (1099511627776:Int) else n+30)<=1099511627776/\(bif decide ((1099511627776:Int)<n+30) then (1099511627776:Int) else n+30)<=n+30:=by
  by_cases h:(1099511627776:Int)<n+30
  ·rw[Um h,Ui];omega
  ·rw[Un h,Uj];omega
 refine Ok.cond (λhc=>?_) (λ_=>Ok.some (.inr rfl));have hc:=Uo hc;refine Ok.bm (Vfua n f v g hg c k) ?_;rintro q (⟨c2,e,rfl,h⟩|rfl)
 ·exact Ok.some (.inl ⟨c2,e,rfl,λhe=>by have:=h he;omega⟩)
 ·simp only[Qu];rw[wI (k+1) (by omega)];exact Ok.some ⟨⟨k+1,by omega,by omega,rfl⟩,by dsimp only;omega⟩
theorem Va3a(n:Int)(f v:Bool)(g:List Jl)(hg:g.length<=1000000)(h0:0<=n)(h1:n<=1099511627776):Ok (Zdz n f v g) λr=>r.2.2.1=0->0<=r.2.1.at_/\r.2.1.at_<=1099511627776:=by
 unfold Zdz;rw[Un (by omega:¬ n<0),Uj,Un (by omega:¬ 1099511627776<n),Uj,bindU];simp only[Sum.elim_inl];have hl:Ok ((Zdz_L0 (n,f,v,g,((⟨false,false,(0:Int)⟩:Jn),()),Qb .i64 (n+1),())).bind (Sum.elim (λ(z4:((Jn×Unit)×Int×Unit))=>(some ((),(z4.1.1,z4.2.1,())))) (λ(z5:((Jn×Unit)×Unit))=>(some ((),((⟨false,false,(0:Int)⟩:Jn),(19:Int),())):Option (Unit×(Jn×Int×Unit)))))) λr=>r.2.2.1=0->0<=r.2.1.at_/\r.2.1.at_<=1099511627776:=by
  rw[wI (n+1) (by omega)];refine Ok.bm (Vfva n f v g hg _ h0 h1) ?_;rintro q (⟨c2,e,rfl,h⟩|rfl)
  ·exact Ok.some h
  ·exact Ok.some λh=>by cases h
 cases v
 ·rw[Uj,bindU];exact hl
 ·rw[Ui];cases f
  ·exact Ok.some λh=>by cases h
  ·rw[Qn,Uj,bindU];exact hl
theorem Va4a(b:Ua)(hb:b.length<1000000):Ok (Zei b) λr=>0<=r.2.2.1/\r.2.2.1<=b.length/\∀x∈r.2.1,x.data.length<1000000:=by
 rw[Vj0 b hb];refine Ok.some ?_;dsimp only;by_cases h:(decO b).2.2=0
 ·obtain⟨_,t,h1,h2⟩:=Vik h;have:=congrArg List.length h1;rw[Qi]at this;exact⟨by omega,by omega,λx hx=>by have:=(Vxq h).d x hx;omega⟩
 ·have e:decO b=([],0,(mach getB 600 [] 0 b).1):=by
   unfold decO at h |-;cases hc:decide ((mach getB 600 [] 0 b).1=0)
   ·rfl
   ·rw[hc]at h;exact absurd rfl h
  rw[e];exact⟨by dsimp only;omega,by dsimp only;omega,λx hx=>absurd hx Qr⟩
def words:List Ua:=[([]:Ua),([97]:Ua),([98]:Ua),([108,111,103,105,110]:Ua),([107,101,121]:Ua),([101,120,97,109,112,108,101,46,111,114,103]:Ua),([195,169]:Ua),([48,49,50,51,52,53,54,55,56,57,48,49,50,51,52,53]:Ua)]
theorem Vyo:∀a:Fin 8,(words[a.val]'(by have:=a.isLt;simp only[words,Qe,Qg];omega)).length<=16:=by decide
theorem Vyp(n:Int):∃a b:Fin 8,Zgh n=some ((),words.getD a.val []++words.getD b.val [],()):=by
 obtain⟨a,ha,ea⟩:=mask n 7 (by omega);obtain⟨b,hb,eb⟩:=mask (Int.fdiv n (2^(min 3 (IntKind.bits .i64)))) 7 (by omega);refine⟨⟨a,by omega⟩,⟨b,by omega⟩,?_⟩;unfold Zgh;dsimp only;rw[show ((7:Nat):Int)=7 from rfl]at ea eb;rw[ea,eb];rw[show (decide ((0:Int)<=(a:Int))&&decide ((a:Int)<8))=true by simp;omega,show (decide ((0:Int)<=(b:Int))&&decide ((b:Int)<8))=true by simp;omega,Qd,Qd];have w8:∀c:Nat,c<=7->∃w,words[c]? = some w/\w.length<=16:=by
  intro c hc;have:c<words.length:=by simp[words];omega
  exact⟨words[c],by simp[this],Vyo ⟨c,by omega⟩⟩
 obtain⟨wa,qa,la⟩:=w8 a ha;obtain⟨wb,qb,lb⟩:=w8 b hb;have qa':([([]:Ua),([97]:Ua),([98]:Ua),([108,111,103,105,110]:Ua),([107,101,121]:Ua),([101,120,97,109,112,108,101,46,111,114,103]:Ua),([195,169]:Ua),([48,49,50,51,52,53,54,55,56,57,48,49,50,51,52,53]:Ua)]:List Ua)[a]? = some wa:=qa;have qb':([([]:Ua),([97]:Ua),([98]:Ua),([108,111,103,105,110]:Ua),([107,101,121]:Ua),([101,120,97,109,112,108,101,46,111,114,103]:Ua),([195,169]:Ua),([48,49,50,51,52,53,54,55,56,57,48,49,50,51,52,53]:Ua)]:List Ua)[b]? = some wb:=qb;rw[qa',qb'];simp only[Ui,bindS];rw[Vcma (by omega),Ql,Ql,qa,qb];rfl
theorem Vka:∀a b:Fin 8,Lib.validD (words.getD a.val []++words.getD b.val [])=true/\(words.getD a.val []++words.getD b.val []).length<=32:=by decide +kernel
def rngC(c:Jg):Bool:=(decide ((1:Int)<=(c.rP.length:Int))&&decide ((c.rP.length:Int)<=64))&&((decide ((1:Int)<=(c.user.length:Int))&&decide ((c.user.length:Int)<=16))&&(!decide ((32:Int)<(c.name.length:Int))&&((decide ((1:Int)<=c.jc)&&decide (c.jc<=4))&&(decide ((1:Int)<=c.jd)&&decide (c.jd<=3)))))
def valC(c:Jg):Int:=bif rngC c then (bif Lib.validD c.rP&&Lib.validD c.name then (bif (c.jm&&!c.je)||(c.jai&&!c.jm) then 18 else 0) else 6) else 9
theorem Vdv(c:Jg)(h1:c.rP.length<1000000)(h2:c.name.length<1000000):Zaa c=some ((),valC c,()):=by
 obtain⟨rp,us,nm,sd,ht,rs,pr,sh,bk⟩:=c;dsimp only at h1 h2;unfold Zaa valC rngC Zdh;simp only[Vbc h1,Vbc h2];generalize decide ((1:Int)<=(rp.length:Int))=b1;generalize decide ((rp.length:Int)<=64)=b2;generalize decide ((1:Int)<=(us.length:Int))=b3;generalize decide ((us.length:Int)<=16)=b4;generalize decide ((32:Int)<(nm.length:Int))=b5;generalize decide ((1:Int)<=ht)=b6;generalize decide (ht<=4)=b7;generalize decide ((1:Int)<=pr)=b8;generalize decide (pr<=3)=b9;generalize Lib.validD rp=v1;generalize Lib.validD nm=v2;cases b1
 ·rfl
 cases b2
 ·rfl
 cases b3
 ·rfl
 cases b4
 ·rfl
 cases b5
 case true=>rfl
 cases b6
 ·rfl
 cases b7
 ·rfl
 cases b8
 ·rfl
 cases b9
 ·rfl
 cases v1
 ·rfl
 cases v2
 ·rfl
 cases sh<;>cases rs<;>cases bk<;>rfl
structure OkC(c:Jg):Prop where
 rp1:1<=c.rP.length
 rp:c.rP.length<=64
 us1:1<=c.user.length
 us:c.user.length<=16
 nm:c.name.length<=32
 ht1:1<=c.jc
 ht:c.jc<=4
 pr1:1<=c.jd
 pr:c.jd<=3
 vr:Lib.validD c.rP=true
 vn:Lib.validD c.name=true
theorem Vnu{c:Jg}(h:valC c=0):OkC c:=by
 unfold valC at h;cases hr:rngC c with
 |false=>rw[hr]at h;cases h
 |true=>
  rw[hr,Ui]at h;cases hv:(Lib.validD c.rP&&Lib.validD c.name) with
  |false=>rw[hv]at h;cases h
  |true=>
   unfold rngC at hr;simp only[Qx,Uq,Bool.not_eq_true',decide_eq_false_iff_not]at hr hv;obtain⟨⟨a1,a2⟩,⟨a3,a4⟩,a5,⟨a6,a7⟩,a8,a9⟩:=hr;exact⟨by omega,by omega,by omega,by omega,by omega,a6,a7,a8,a9,hv.1,hv.2⟩
def bI(b:Bool):Ja:=⟨7,bif b then 1#64 else 0#64,[]⟩
def keysC:List Ub:=[1#64,2#64,3#64,4#64,5#64,6#64,7#64,8#64,9#64]
def valsC(c:Jg):List (List Ja):=[[⟨4,0#64,c.rP⟩],[⟨3,0#64,c.user⟩],[⟨4,0#64,c.name⟩],[⟨1,c.jah,[]⟩],[⟨1,Qf 64 c.jc,[]⟩],[bI c.je],[⟨1,Qf 64 c.jd,[]⟩],[bI c.jm],[bI c.jai]]
def itemsC(c:Jg):List Ja:=[⟨6,9#64,[]⟩,⟨1,1#64,[]⟩,⟨4,0#64,c.rP⟩,⟨1,2#64,[]⟩,⟨3,0#64,c.user⟩,⟨1,3#64,[]⟩,⟨4,0#64,c.name⟩,⟨1,4#64,[]⟩,⟨1,c.jah,[]⟩,⟨1,5#64,[]⟩,⟨1,Qf 64 c.jc,[]⟩,⟨1,6#64,[]⟩,bI c.je,⟨1,7#64,[]⟩,⟨1,Qf 64 c.jd,[]⟩,⟨1,8#64,[]⟩,bI c.jm,⟨1,9#64,[]⟩,bI c.jai]
theorem Vlv{k:Int}{l:Ua}(hk:k=3\/k=4)(hl:l.length<=1024)(hv:Lib.validD l=true\/k=3):VT 1 [⟨k,0#64,l⟩]:=by
 have hb:big ⟨k,0#64,l⟩=false:=by
  unfold big isN;rcases hk with rfl|rfl<;>(dsimp only;rw[Un (by omega:¬ 1024<l.length)];rfl)
 rcases hk with rfl|rfl
 ·exact Vdt (by dsimp only;decide) (by dsimp only;decide) λn d b hn hd=>Vch (by dsimp only;decide) (by dsimp only;decide) rfl hb (λh=>by cases h) hn hd
 ·refine Vdt (by dsimp only;decide) (by dsimp only;decide) λn d b hn hd=>Vch (by dsimp only;decide) (by dsimp only;decide) rfl hb (λ_=>?_) hn hd;rcases hv with h|h
  ·exact h
  ·cases h
theorem Vlw(n:Ub):VT 1 [⟨1,n,[]⟩]:=Vdt (x:=⟨1,n,[]⟩) (by dsimp only;decide) (by dsimp only;decide) λ_ d b hn hd=>Vch (x:=⟨1,n,[]⟩) (by dsimp only;decide) (by dsimp only;decide) rfl rfl (λh=>by cases h) hn hd
theorem Vi1(q:Bool):VT 1 [bI q]:=by
 cases q<;>exact Vdt (by decide) (by decide) λ_ d b hn hd=>Vch (by decide) (by decide) (by decide) (by decide) (λh=>by cases h) hn hd
theorem Vhza{h:Nat}{o:List Ja}(hh:h<=9)(hl:o.length<=512)(H:VT h o):valO o=0:=by
 have hv:=H 12 0 0 [] [] (by omega) (by omega) (by omega);rw[Qy]at hv;unfold valO;rw[(Vm7 Vli 12 (by omega) o).2 (by rw[hv]),hv];rfl
theorem Vfwa{c:Jg}(h:OkC c):∀o∈valsC c,VT 1 o/\o.length=1/\∀x∈o,x.data.length<100000:=by
 have h1:=h.rp;have h2:=h.us;have h3:=h.nm;intro o ho;simp only[valsC,Qz,Qr,or_false]at ho;rcases ho with rfl|rfl|rfl|rfl|rfl|rfl|rfl|rfl|rfl
 ·exact⟨Vlv (.inr rfl) (by omega) (.inl h.vr),rfl,by simp;omega⟩
 ·exact⟨Vlv (.inl rfl) (by omega) (.inr rfl),rfl,by simp;omega⟩
 ·exact⟨Vlv (.inr rfl) (by omega) (.inl h.vn),rfl,by simp;omega⟩
 ·exact⟨Vlw _,rfl,by simp⟩
 ·exact⟨Vlw _,rfl,by simp⟩
 ·exact⟨Vi1 _,rfl,by simp[bI]⟩
 ·exact⟨Vlw _,rfl,by simp⟩
 ·exact⟨Vi1 _,rfl,by simp[bI]⟩
 ·exact⟨Vi1 _,rfl,by simp[bI]⟩
theorem Va5a:keysOk [] (keysC.map λk=>(⟨1,k,[]⟩:Ja)):=by
 have K:∀(k:Ub) (last:Ua),(last=[]\/lss last (enc ⟨1,k,[]⟩)=true)->∀n d,n<512->d<=8->chk ⟨1,k,[]⟩ n d true last=0:=λk last h n d hn hd=>Vwu (x:=⟨1,k,[]⟩) (.inl rfl) rfl rfl (λh=>by cases h) h hn hd;exact⟨rfl,K _ _ (.inl rfl),rfl,K _ _ (.inr (by decide +kernel)),rfl,K _ _ (.inr (by decide +kernel)),rfl,K _ _ (.inr (by decide +kernel)),rfl,K _ _ (.inr (by decide +kernel)),rfl,K _ _ (.inr (by decide +kernel)),rfl,K _ _ (.inr (by decide +kernel)),rfl,K _ _ (.inr (by decide +kernel)),rfl,K _ _ (.inr (by decide +kernel)),trivial⟩
theorem Vr3{c:Jg}(h:OkC c):valO (itemsC c)=0:=
 Vhza (h:=2) (by omega) (by simp[itemsC]) (Vcpa (h:=1) (k:=9) (ks:=keysC.map λk=>(⟨1,k,[]⟩:Ja)) (os:=valsC c) rfl rfl (by omega) (by omega) Va5a λo ho=>(Vfwa h o ho).1)
theorem Vr4{c:Jg}(h:OkC c):∀x∈itemsC c,x.data.length<100000:=by
 have h1:=h.rp;have h2:=h.us;have h3:=h.nm;intro x hx;simp only[itemsC,Qz,Qr,or_false]at hx;rcases hx with rfl|rfl|rfl|rfl|rfl|rfl|rfl|rfl|rfl|rfl|rfl|rfl|rfl|rfl|rfl|rfl|rfl|rfl|rfl<;>first|exact Nat.lt_of_le_of_lt (Qm _) (by omega)|(dsimp only;omega)|(dsimp only[bI,Qg];omega)
def bytC(c:Jg):Ua:=encA (itemsC c)
def encP(c:Jg):Ua×Int:=bif decide (valC c=0) then (bytC c,0) else ([],valC c)
theorem Vr5{c:Jg}(h:OkC c):encO (itemsC c)=(bytC c,0):=by
 unfold encO;rw[Vr3 h];rfl
theorem Vr6(b:Bool):Zck b=some ((),bI b,()):=by cases b<;>rfl
theorem encCL(x1 x2 x3 x4 x5 x6 x7 x8 x9 h:Ja):Zad_L0 ([x1,x2,x3,x4,x5,x6,x7,x8,x9],[h],0,())=some ([h,⟨1,1#64,[]⟩,x1,⟨1,2#64,[]⟩,x2,⟨1,3#64,[]⟩,x3,⟨1,4#64,[]⟩,x4,⟨1,5#64,[]⟩,x5,⟨1,6#64,[]⟩,x6,⟨1,7#64,[]⟩,x7,⟨1,8#64,[]⟩,x8,⟨1,9#64,[]⟩,x9],()):=by kernel_rfl
theorem Vi2(c:Jg)(h1:c.rP.length<1000000)(h2:c.name.length<1000000):Zad c=some ((),(encP c).1,(encP c).2,()):=by
 unfold Zad encP;rw[Vdv c h1 h2];simp only[bindS];by_cases h:valC c=0
 ·have hc:=Vnu h;simp only[h,Uk,Qn,Uj,Ui,Vr6,bindS,Zfi,Zff,Zdg];rw[encCL];simp only[bindS];rw[show ([⟨6,9#64,[]⟩,⟨1,1#64,[]⟩,⟨4,0#64,c.rP⟩,⟨1,2#64,[]⟩,⟨3,0#64,c.user⟩,⟨1,3#64,[]⟩,⟨4,0#64,c.name⟩,⟨1,4#64,[]⟩,⟨1,c.jah,[]⟩,⟨1,5#64,[]⟩,⟨1,Qf 64 c.jc,[]⟩,⟨1,6#64,[]⟩,bI c.je,⟨1,7#64,[]⟩,⟨1,Qf 64 c.jd,[]⟩,⟨1,8#64,[]⟩,bI c.jm,⟨1,9#64,[]⟩,bI c.jai]:List Ja)=itemsC c from rfl,Vjx (itemsC c) (by simp[itemsC]) (Vr4 hc),Vr5 hc];rfl
 ·simp only[h,Ul,Bool.not_false,Ui,Uj]
theorem tmod3(k:Nat):∃j:Nat,j<3/\Int.tmod (k:Int) 3=(j:Int):=⟨k % 3,Nat.mod_lt _ (by omega),by rw[Int.tmod_eq_emod_of_nonneg (by omega)];omega⟩
theorem three{j:Nat}(h:j<3):j=0\/j=1\/j=2:=by omega
theorem RP_ok(n:Int):∃l,Zii n=some ((),l,())/\1<=l.length/\l.length<=64/\Lib.validD l=true:=by
 obtain⟨k,hk,e⟩:=mask n 65535 (by omega);obtain⟨j,hj,ej⟩:=tmod3 k;unfold Zii;dsimp only;rw[show ((65535:Nat):Int)=(65535:Int) from rfl]at e;rw[e,ej];rcases three hj with rfl|rfl|rfl
 ·exact⟨_,rfl,by decide,by decide,by decide +kernel⟩
 ·exact⟨_,rfl,by decide,by decide,by decide +kernel⟩
 ·exact⟨_,rfl,by decide,by decide,by decide +kernel⟩
theorem Vo6(n:Int):∃l,Zgi n=some ((),l,())/\1<=l.length/\l.length<=16:=by
 obtain⟨k,hk,e⟩:=mask n 65535 (by omega);obtain⟨j,hj,ej⟩:=tmod3 k;unfold Zgi;dsimp only;rw[show ((65535:Nat):Int)=(65535:Int) from rfl]at e;rw[e,ej];rcases three hj with rfl|rfl|rfl
 ·exact⟨_,rfl,by decide,by decide⟩
 ·exact⟨_,rfl,by decide,by decide⟩
 ·exact⟨_,rfl,by decide,by decide⟩
theorem Vo7{k:Int}{l:Ua}(hk:k=3\/k=4)(hl:l.length<256):(enc ⟨k,0#64,l⟩).length<=2+l.length:=by
 have h7:hdI ⟨k,0#64,l⟩=hdr (mj k) (Qf 64 (l.length:Int)):=by rcases hk with rfl|rfl<;>rfl
 have hn:(Qf 64 (l.length:Int)).toNat=l.length:=Vw0 (by omega);unfold enc;rw[h7,Vqg,Qi,Qe,Vcv];have:sho (Qf 64 (l.length:Int))<=1:=by
  unfold sho;rw[hn];cases decide (l.length<24) with
  |true=>exact Qm _
  |false=>rw[Uj,Um hl,Ui];exact Nat.le_refl _
 dsimp only;omega
theorem Vfxa(n:Ub):(enc ⟨1,n,[]⟩).length<=9:=by
 unfold enc;rw[Qy];exact (Vif _).2
theorem Vlx(b:Bool):(enc (bI b)).length=1:=by cases b<;>decide +kernel
theorem Vnv{n:Int}(h1:1<=n)(h2:n<=4):(enc ⟨1,Qf 64 n,[]⟩).length=1:=by
 have:n=1\/n=2\/n=3\/n=4:=by omega
 rcases this with rfl|rfl|rfl|rfl<;>decide +kernel
theorem Va6a{c:Jg}(h:OkC c):(bytC c).length<=160:=by
 have a1:=Vo7 (k:=4) (l:=c.rP) (.inr rfl) (by have:=h.rp;omega);have a2:=Vo7 (k:=3) (l:=c.user) (.inl rfl) (by have:=h.us;omega);have a3:=Vo7 (k:=4) (l:=c.name) (.inr rfl) (by have:=h.nm;omega);have a4:=Vfxa c.jah;have a5:=Vnv h.ht1 h.ht;have a6:=Vnv h.pr1 (by have:=h.pr;omega);have a7:=Vlx c.je;have a8:=Vlx c.jm;have a9:=Vlx c.jai;have b1:=h.rp;have b2:=h.us;have b3:=h.nm;have k0:(enc ⟨6,9#64,[]⟩).length=1:=by decide +kernel
 have k1:(enc ⟨1,1#64,[]⟩).length=1:=by decide +kernel
 have k2:(enc ⟨1,2#64,[]⟩).length=1:=by decide +kernel
 have k3:(enc ⟨1,3#64,[]⟩).length=1:=by decide +kernel
 have k4:(enc ⟨1,4#64,[]⟩).length=1:=by decide +kernel
 have k5:(enc ⟨1,5#64,[]⟩).length=1:=by decide +kernel
 have k6:(enc ⟨1,6#64,[]⟩).length=1:=by decide +kernel
 have k7:(enc ⟨1,7#64,[]⟩).length=1:=by decide +kernel
 have k8:(enc ⟨1,8#64,[]⟩).length=1:=by decide +kernel
 have k9:(enc ⟨1,9#64,[]⟩).length=1:=by decide +kernel
 unfold bytC itemsC;simp only[Vf0,Qi];rw[k0,k1,k2,k3,k4,k5,k6,k7,k8,k9,a5,a6,a7,a8,a9,show (encA []).length=0 from rfl];clear k0 k1 k2 k3 k4 k5 k6 k7 k8 k9 a5 a6 a7 a8 a9;generalize (enc ⟨4,0#64,c.rP⟩).length=n1 at a1 |-;generalize (enc ⟨3,0#64,c.user⟩).length=n2 at a2 |-;generalize (enc ⟨4,0#64,c.name⟩).length=n3 at a3 |-;generalize (enc ⟨1,c.jah,[]⟩).length=n4 at a4 |-;omega
theorem Vq2(c:Jg):(encP c).1.length<=160:=by
 unfold encP;by_cases h:valC c=0
 ·rw[Um h];exact Va6a (Vnu h)
 ·rw[Un h];exact Qm _
theorem Va7a(n:Ub):Zec n=some ((),(((bif decide ((1048576#64).toNat<n.toNat) then 1048576#64 else n):Ub).toNat:Int),()):=by
 unfold Zec;dsimp only;have h:((bif decide ((1048576#64).toNat<n.toNat) then 1048576#64 else n):Ub).toNat<=1048576:=by
  by_cases q:(1048576#64).toNat<n.toNat
  ·rw[Um q,Ui];decide
  ·rw[Un q,Uj];have:(1048576#64).toNat=1048576:=rfl;omega
 rw[Vaw (by omega) (by omega)]
end Go.Proofs.YtnfhkhlbdgbkjaaGreatDoor

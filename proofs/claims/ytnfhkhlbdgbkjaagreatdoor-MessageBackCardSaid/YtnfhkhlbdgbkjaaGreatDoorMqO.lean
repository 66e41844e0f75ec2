/- The device as it leaves the factory is switched on. -/
import Derived.Test.YtnfhkhlbdgbkjaaGreatDoorMqN
set_option linter.unusedVariables false
set_option linter.unusedSimpArgs false
set_option maxRecDepth 100000
namespace Go.Proofs.YtnfhkhlbdgbkjaaGreatDoor
open Go Go.Abs
open _root_.List renaming replicate → Qa, getElem?_replicate → Qc, take → Qd, getElem?_eq_none → Qe, getElem?_take → Qf, getElem?_append_right → Qh, getElem?_eq_getElem → Qi, drop → Qk, ext_getElem? → Ql, length_take → Qm
open Go.IntKind renaming wrap → Qb
open _root_.Int renaming toNat_natCast → Qg
open _root_.Bool renaming not_true → Qj
def FF(ps:Nat):Jk:=⟨ps,Qa (2*ps) 255⟩
def F1(ps:Nat):Jk:=⟨ps,hdrF 1++Qa (2*ps-16) 255⟩
def J1(ps:Nat):Jh:=⟨F1 ps,0,1,16,false⟩
theorem FF_ok(ps:Nat)(h1:512<=ps)(h2:ps<=8192):FOk (FF ps):=⟨by show (512:Int)<=(ps:Int);omega,by show (ps:Int)<=8192;omega,by simp[FF]⟩
theorem F1_ok(ps:Nat)(h1:512<=ps)(h2:ps<=8192):FOk (F1 ps):=⟨by show (512:Int)<=(ps:Int);omega,by show (ps:Int)<=8192;omega,by simp[F1,Vav];omega⟩
theorem Vrk(ps:Nat)(q:Int×Ua×Unit)(h1:512<=ps)(h2:ps<=8192):Ok (Zcn_L0 ((ps:Int),2,q,((ps:Int),[],()),(0:Int),())) λz=>z.2.1=((ps:Int),Qa (2*ps) 255,()):=by
 unfold Zcn_L0 i5;refine Ok.iter (λs=>∃k:Nat,k<=2*ps/\s=((ps:Int),2,q,((ps:Int),Qa k 255,()),(k:Int),())) (λs=>(2*(ps:Int)-s.2.2.2.2.1).toNat) ⟨0,by omega,rfl⟩ (by rw[Vaa];dsimp only;omega) ?_;rintro s ⟨k,hk,rfl⟩;dsimp only;unfold Zcn_L0b;refine Ok.cond (λhc=>?_) (λhc=>?_)
 ·have hc:=Uo hc;rw[Va1 (by omega) (by omega)]at hc;dsimp only;rw[Vab (by simp;omega) (by omega),Ui,wI ((k:Int)+1) (by omega)];refine Ok.some ⟨⟨k+1,by omega,?_⟩,?_⟩
  ·rw[List.replicate_succ'];rfl
  ·dsimp only;omega
 ·have hc:=Up hc;rw[Va1 (by omega) (by omega)]at hc;rw[show 2*ps=k by omega];exact Ok.some rfl
theorem Vim(ps:Nat)(h1:512<=ps)(h2:ps<=8192):Zcn (ps:Int) 2=some ((),FF ps,0,()):=by
 have key:Ok (Zcn (ps:Int) 2) λr=>r=((),FF ps,0,()):=by
  unfold Zcn;rw[Un (by omega),Un (by omega),Un (by omega),Un (by omega)];simp only[Uj];refine Ok.bm (Vrk ps _ h1 h2) ?_;rintro⟨_,⟨p,l,_⟩,_⟩ e;cases e;exact Ok.some rfl
 obtain⟨r,h,rfl⟩:=key;exact h
theorem Vxe(f:Jk)(h:FOk f)(p:Nat)(hp:p<=1)(e:Qk (p*f.ja.toNat) (Qd (p*f.ja.toNat+16) f.bytes)=Qa 16 255):Zbl f (p:Int)=some ((),0,()):=by
 have a1:=h.lo;have a2:=h.hi;have a3:=h.ln;obtain⟨m,hm⟩:∃m:Nat,f.ja=(m:Int):=⟨f.ja.toNat,by omega⟩;have hq:p*m<=m:=by
  rcases (by omega:p=0\/p=1) with rfl|rfl<;>omega
 rw[hm,Qg]at e;unfold Zbl;rw[hm,show (p:Int)*(m:Int)=((p*m:Nat):Int) by rw[Int.natCast_mul],wI (((p*m:Nat):Int)) (by omega),wI (((p*m:Nat):Int)+16) (by omega)];dsimp only;rw[Um (by omega:0<=((p*m:Nat):Int)+16),Um (by omega:((p*m:Nat):Int)+16<=(f.bytes.length:Int)),Um (by omega:0<=((p*m:Nat):Int)),Um (by omega:((p*m:Nat):Int)<=((((p*m:Nat):Int)+16).toNat:Int)),show (((p*m:Nat):Int)+16).toNat=p*m+16 by omega,Qg,e];rw[show Zgq (Qd 8 (Qa 16 255))=some ((),0xffffffffffffffff#64,()) by kernel_rfl];rfl
theorem Vela(l:Ua)(n:Nat)(h:∀j,j<n->l[j]? = some 255)(hl:l.length=n):l=Qa n 255:=by
 apply Ql;intro j;by_cases hj:j<n
 ·rw[h j hj,Qc,if_pos hj]
 ·rw[Qe (by omega),Qe (by simp;omega)]
theorem Vxf(l:Ua)(a n:Nat)(h:∀j,j<n->l[a+j]? = some 255)(hl:a+n<=l.length):Qk a (Qd (a+n) l)=Qa n 255:=by
 refine Vela _ n (λj hj=>?_) (by rw[List.length_drop,Qm];omega);rw[List.getElem?_drop,Qf,if_pos (by omega),h j hj]
theorem Vb7a(ps j:Nat)(h:j<2*ps):(FF ps).bytes[j]? = some 255:=by
 show (Qa (2*ps) (255:UInt8))[j]? = _;rw[Qc,if_pos h]
theorem Vqg(ps j:Nat)(h0:16<=j)(h:j<2*ps):(F1 ps).bytes[j]? = some 255:=by
 show (hdrF 1++Qa (2*ps-16) (255:UInt8))[j]? = _;rw[Qh (by rw[Vav];omega),Qc,if_pos (by rw[Vav];omega)]
theorem Vb8a(ps:Nat)(h1:512<=ps)(h2:ps<=8192)(p:Nat)(hp:p<=1):Zbl (FF ps) (p:Int)=some ((),0,()):=by
 have hq:p*ps<=ps:=by
  rcases (by omega:p=0\/p=1) with rfl|rfl<;>omega
 refine Vxe _ (FF_ok ps h1 h2) p hp ?_;show Qk (p*ps) (Qd (p*ps+16) (FF ps).bytes)=_;exact Vxf _ _ _ (λj hj=>Vb7a _ _ (by omega)) (by simp[FF];omega)
theorem Vema(ps:Nat)(h1:512<=ps)(h2:ps<=8192):Zbl (F1 ps) 1=some ((),0,()):=by
 refine Vxe _ (F1_ok ps h1 h2) 1 (by omega) ?_;show Qk (1*ps) (Qd (1*ps+16) (F1 ps).bytes)=_;exact Vxf _ _ _ (λj hj=>Vqg _ _ (by omega) (by omega)) (by simp[F1,Vav];omega)
theorem Vena(ps:Nat)(h1:512<=ps)(h2:ps<=8192):Zbl (F1 ps) 0=some ((),1,()):=
 Veia _ (F1_ok ps h1 h2) (by
  show Qd 16 (hdrF 1++_)=_;rw[List.take_append_of_le_length (by rw[Vav];omega),List.take_of_length_le (by rw[Vav];omega)])
theorem Vz0(ps:Nat)(h1:512<=ps)(h2:ps<=8192):Zfs (FF ps)=some ((),⟨⟨0,[]⟩,0,0,0,false⟩,11,()):=by
 have hf:=FF_ok ps h1 h2;have a1:=hf.lo;have a2:=hf.hi;have a3:=hf.ln;unfold Zfs;rw[Va8 _ hf,bindU];simp only[Uk,Qj,Uj];rw[wI (2*(FF ps).ja) (by omega),Un (by omega),Uj];rw[show (0:Int)=((0:Nat):Int) from rfl,Vb8a ps h1 h2 0 (by omega),bindU,show (1:Int)=((1:Nat):Int) from rfl,Vb8a ps h1 h2 1 (by omega),bindU];rfl
theorem Vxg(ps:Nat)(h1:512<=ps)(h2:ps<=8192):Zhe (F1 ps) 0 1=some ((),[],16,()):=by
 have hf:=F1_ok ps h1 h2;have a1:=hf.lo;have a2:=hf.hi;have a3:=hf.ln;unfold Zhe;rw[show Qb .i64 ((0:Int)*(F1 ps).ja)=0 by rw[Int.zero_mul];rfl,show Qb .i64 ((Qb .i64 ((0:Int)+1))*(F1 ps).ja)=(ps:Int) by rw[show Qb .i64 ((0:Int)+1)=1 from rfl,Int.one_mul];exact Va1 (by show (-9223372036854775808:Int)<=(ps:Int);omega) (by show (ps:Int)<_;omega)];dsimp only;have hb:(F1 ps).bytes.length=2*ps:=by simp[F1,Vav];omega
 rw[Um (by omega:0<=(ps:Int)),Um (by omega:(ps:Int)<=((F1 ps).bytes.length:Int)),Um (by omega:(0:Int)<=0),Um (by omega:(0:Int)<=(((ps:Int)).toNat:Int))];simp only[Bool.and_self,Ui];rw[show (0:Int).toNat=0 from rfl,List.drop_zero,Qg];unfold Zhe_L0 i4;rw[Vaa,show (1180591620717411303424:Nat)=1180591620717411303423+1 from rfl,Vac];dsimp only;have hl:(Qd ps (F1 ps).bytes).length=ps:=by rw[Qm];omega
 have g16:getI (Qd ps (F1 ps).bytes) 16=some 255:=gIn (i:=16) (by rw[Qf,if_pos (by omega),Vqg _ _ (by omega) (by omega)]);have g17:getI (Qd ps (F1 ps).bytes) 17=some 255:=gIn (i:=17) (by rw[Qf,if_pos (by omega),Vqg _ _ (by omega) (by omega)]);have body:Zhe_L0b 1 (Qd ps (F1 ps).bytes) [] 16=some (Sum.inr ([],16,())):=by
  unfold Zhe_L0b;rw[show Qb .i64 ((16:Int)+10)=26 from rfl,show Qb .i64 ((16:Int)+1)=17 from rfl,hl,Um (by omega:(26:Int)<(ps:Int)),Ui,g16,bindU,g17,bindU];rfl
 rw[body];rfl
theorem Vxh(ps:Nat)(h1:512<=ps)(h2:ps<=8192)(q:Jh×Unit):Ok (Zfs_L0 ((F1 ps,()),q,((ps:Int),(F1 ps).bytes,0,1,16,false,()),16,())) λz=>z=(q,((ps:Int),(F1 ps).bytes,0,1,16,false,()),()):=by
 have hf:=F1_ok ps h1 h2;have a1:=hf.lo;have a2:=hf.hi;have a3:=hf.ln;unfold Zfs_L0 i4;refine Ok.iter (λs=>∃k:Nat,16<=k/\k<=ps/\s=((F1 ps,()),q,((ps:Int),(F1 ps).bytes,0,1,16,false,()),(k:Int),())) (λs=>((ps:Int)-s.2.2.2.1).toNat) ⟨16,by omega,by omega,rfl⟩ (by rw[Vaa];dsimp only;omega) ?_;rintro s ⟨k,hk0,hk,rfl⟩;dsimp only;unfold Zfs_L0b;dsimp only;refine Ok.cond (λhc=>?_) (λhc=>Ok.some rfl);have hc:=Uo hc;have hc:(k:Int)<(ps:Int):=hc;rw[wI ((k:Int)+1) (by omega),Uj];rw[show Qb .i64 (Qb .i64 ((0:Int)*(F1 ps).ja)+(k:Int))=(k:Int) by
  rw[Int.zero_mul,show Qb .i64 0=0 from rfl,Int.zero_add];exact Va1 (by omega) (by omega)]
 rw[gIn (Vqg ps k hk0 (by omega)),bindU];exact Ok.some ⟨⟨k+1,by omega,by omega,rfl⟩,by dsimp only;omega⟩
theorem Vqh(ps:Nat)(h1:512<=ps)(h2:ps<=8192):Zfs (F1 ps)=some ((),J1 ps,0,()):=by
 have hf:=F1_ok ps h1 h2;have a1:=hf.lo;have a2:=hf.hi;have a3:=hf.ln;unfold Zfs;rw[Va8 _ hf,bindU];simp only[Uk,Qj,Uj];rw[wI (2*(F1 ps).ja) (by omega),Un (by omega),Uj];rw[Vena ps h1 h2,bindU,Vema ps h1 h2,bindU];dsimp only;rw[show decide ((1:Int)=0)=false from rfl,show decide ((1:Int)<0)=false from rfl,Uj,Vab (by omega) (by omega),Ui,Uj,bindU];dsimp only;rw[Vxg ps h1 h2,bindU];dsimp only;obtain⟨z,e,rfl⟩:=Vxh ps h1 h2 (⟨⟨0,[]⟩,0,0,0,false⟩,());rw[show (F1 ps).ja=(ps:Int) from rfl,e,bindU];rfl
theorem Ver(ps:Nat)(h1:512<=ps)(h2:ps<=8192):Zdl (J1 ps)=some ((),true,()):=by
 unfold Zdl;rw[show (J1 ps).jf=F1 ps from rfl,Vqh ps h1 h2,bindU];dsimp only;rw[show decide ((0:Int)=0)=true from rfl,Ui,Vex,bindU,Um rfl]
theorem Vm8(ps:Nat)(h1:512<=ps)(h2:ps<=8192):Zer (J1 ps)=some ((),[],()):=by
 unfold Zer Zdn;rw[Ver ps h1 h2,bindU];dsimp only;rw[show (!true)=false from rfl,Uj,show Zhe (J1 ps).jf (J1 ps).jal (J1 ps).jr=_ from Vxg ps h1 h2,bindU,bindU];rfl
theorem Vb9a(l0 l1:Ua)(a n:Nat)(h0:∀j,j<l0.length->l0[j]? = some 255)(w:Wr a [] l0 l1 n)(j:Nat)(h:j<l0.length):l1[j]? = some 255:=by
 rw[w j];by_cases hj:a<=j/\j<a+n
 ·rw[if_pos hj,h0 j h];rfl
 ·rw[if_neg hj,h0 j h]
theorem Vxi(ps:Nat)(h1:512<=ps)(h2:ps<=8192):Zeq (FF ps) (-1)=some ((),J1 ps,-1,0,()):=by
 have key:Ok (Zeq (FF ps) (-1)) λr=>r=((),J1 ps,-1,0,()):=by
  have hf:=FF_ok ps h1 h2;have a1:=hf.lo;have a2:=hf.hi;have a3:=hf.ln;have hl0:(FF ps).bytes.length=2*ps:=by simp[FF]
  unfold Zeq;rw[Va8 _ hf,bindU];simp only[Uk,Qj,Uj];rw[wI (2*(FF ps).ja) (by omega),Un (by omega),Uj];refine Ok.bm (Vb4a _ hf 0 (-1) (by omega) (by omega) (by omega)) ?_;rintro⟨_,f1,c1,e1,_⟩ ⟨⟨k1,k2,k3,k4⟩,w1⟩;dsimp only at *;subst k3;subst k4;have b1:=k1.ln;have g1:∀j,j<f1.bytes.length->f1.bytes[j]? = some 255:=λj hj=>Vb9a _ _ _ _ (λj hj=>Vb7a _ _ (by omega)) w1 j (by omega);rw[show decide ((0:Int)=0)=true from rfl,Ui];refine Ok.bind ?_;refine Ok.bm (Vb4a f1 k1 1 _ (by omega) (by omega) (by omega)) ?_;rintro⟨_,f2,c2,e2,_⟩ ⟨⟨m1,m2,m3,m4⟩,w2⟩;dsimp only at *;subst m3;subst m4;have b2:=m1.ln;have g2:∀j,j<f2.bytes.length->f2.bytes[j]? = some 255:=λj hj=>Vb9a _ _ _ _ g1 w2 j (by omega);refine Ok.some ?_;dsimp only;rw[show decide ((0:Int)=0)=true from rfl,Ui];refine Ok.bind ?_;rw[Vij,bindU];refine Ok.bm (Vzx f2 m1 (hdrF 1) _ (by omega) (by omega) (by rw[Vav];have:=m1.lo;omega)) ?_;rintro⟨_,f3,c3,e3,_⟩ ⟨⟨n1,n2,n3,n4⟩,w3⟩;dsimp only at *;subst n3;subst n4;have b3:=n1.ln;have e:f3=F1 ps:=by
   have hp:f3.ja=(ps:Int):=by rw[n2,m2,k2];rfl
   have hb:f3.bytes=(F1 ps).bytes:=by
    apply Ql;intro j;rw[w3 j,Vav];show _=(hdrF 1++Qa (2*ps-16) (255:UInt8))[j]?;by_cases hj:j<16
    ·rw[if_pos (by omega),g2 j (by omega),List.getElem?_append_left (by rw[Vav];omega),Qi (by rw[Vav];omega:j<(hdrF 1).length)];simp only[Option.map_some,Nat.sub_zero];congr 1;unfold updB;rw[Un (by rw[Vav];omega),Uj,List.getD_eq_getElem?_getD,Qi (by rw[Vav];omega:j<(hdrF 1).length)];exact Vgra _
    ·rw[if_neg (by omega),Qh (by rw[Vav];omega),Vav];by_cases h2:j<2*ps
     ·rw[g2 j (by omega),Qc,if_pos (by omega)]
     ·rw[Qe (by omega),Qc,if_neg (by omega)]
   cases f3;dsimp only at hp hb;rw[hp,hb];rfl
  subst e;refine Ok.some ?_;dsimp only;rw[show (!decide ((0:Int)=0))=false from rfl,Uj,Vqh ps h1 h2,bindU];exact Ok.some rfl
 obtain⟨r,h,rfl⟩:=key;exact h
theorem Veoa(ps:Nat)(h1:512<=ps)(h2:ps<=8192):Zgy (FF ps) (-1)=some ((),⟨J1 ps,[]⟩,-1,0,()):=by
 unfold Zgy;rw[Vz0 ps h1 h2,bindU];dsimp only;rw[show decide ((11:Int)=11)=true from rfl,Ui,Vxi ps h1 h2,bindU,bindU];dsimp only;rw[show (!decide ((0:Int)=0))=false from rfl,Uj,Vm8 ps h1 h2,bindU];rfl
theorem Vxj(ps:Nat)(h1:512<=ps)(h2:ps<=8192):Zgz (J1 ps)=some ((),256,()):=by
 unfold Zgz;rw[Ver ps h1 h2,bindU];dsimp only;rw[show (!true)=false from rfl,Uj,show (J1 ps).jat=false from rfl,Uj,show (J1 ps).jf.ja=(ps:Int) from rfl,show (J1 ps).tail=16 from rfl,wI ((ps:Int)-16) (by omega),wI ((ps:Int)-16-10) (by omega),Un (by omega:¬ (ps:Int)-16-10<256),Uj];rfl
theorem Vxk(ps:Nat)(h1:512<=ps)(h2:ps<=8192)(x:Ub)(a0 a1 a2 a3 b0 b1 b2:UInt8):Ok (Zhy ⟨J1 ps,[]⟩ [⟨1,w8 x⟩,⟨2,[a0,a1,a2,a3]⟩,⟨16,w8 0++[b0,b1,b2]⟩] (-1)) λr=>VOk r.2.1/\r.2.2.2.1=0:=by
 have hf:=F1_ok ps h1 h2;unfold Zhy Zar;dsimp only;rw[Ver ps h1 h2,bindU];dsimp only;rw[Ui,Vm8 ps h1 h2,bindU];dsimp only;rw[show Zcb [] []=some ((),true,()) by kernel_rfl,bindU,bindU];dsimp only;rw[show (!true)=false from rfl,Uj,show decide ((([⟨1,w8 x⟩,⟨2,[a0,a1,a2,a3]⟩,⟨16,w8 0++[b0,b1,b2]⟩]:List Jf).length:Int)=0)=false from rfl,Uj];rw[show Zhy_L0 ([⟨1,w8 x⟩,⟨2,[a0,a1,a2,a3]⟩,⟨16,w8 0++[b0,b1,b2]⟩],-1,((⟨J1 ps,[]⟩:Jm),()),((⟨⟨⟨(0:Int),[]⟩,(0:Int),(0:Int),(0:Int),false⟩,[]⟩:Jm),()),(0:Int),())=some (Sum.inr ([⟨1,w8 x⟩,⟨2,[a0,a1,a2,a3]⟩,⟨16,w8 0++[b0,b1,b2]⟩],-1,((⟨J1 ps,[]⟩:Jm),()),((⟨⟨⟨(0:Int),[]⟩,(0:Int),(0:Int),(0:Int),false⟩,[]⟩:Jm),()),())) by kernel_rfl,bindU];simp only[Sum.elim_inr];have hs:Zha [⟨1,w8 x⟩,⟨2,[a0,a1,a2,a3]⟩,⟨16,w8 0++[b0,b1,b2]⟩]=some ((),32,()):=by kernel_rfl
 rw[hs,bindU];dsimp only;rw[show decide ((256:Int)<32)=false from rfl,Uj];rw[show Zhb [] [⟨1,w8 x⟩,⟨2,[a0,a1,a2,a3]⟩,⟨16,w8 0++[b0,b1,b2]⟩]=some ((),[⟨1,w8 x⟩,⟨2,[a0,a1,a2,a3]⟩,⟨16,w8 0++[b0,b1,b2]⟩],()) by kernel_rfl,bindU];dsimp only;rw[hs,bindU];dsimp only;rw[show (J1 ps).jf.ja=(ps:Int) from rfl,Un (by
  rw[show (Qb .i64 (Qb .i64 ((16:Int)+Qb .i64 ((10:Int)*(([⟨1,w8 x⟩,⟨2,[a0,a1,a2,a3]⟩,⟨16,w8 0++[b0,b1,b2]⟩]:List Jf).length:Int)))+32))=78 from rfl];omega),Uj,bindU,Vxj ps h1 h2,bindU]
 dsimp only;rw[show decide ((32:Int)<=256)=true from rfl,Ui];obtain⟨rc,hrc,hlen⟩:∃rc:Ua,Zev [⟨1,w8 x⟩,⟨2,[a0,a1,a2,a3]⟩,⟨16,w8 0++[b0,b1,b2]⟩]=some ((),rc,())/\rc.length=32:=⟨[1,0,8]++w8 x++[2,0,4,a0,a1,a2,a3,16,0,11]++(w8 0++[b0,b1,b2]),by kernel_rfl,rfl⟩;rw[hrc,bindU];dsimp only;unfold Zep;rw[Ver ps h1 h2,bindU];dsimp only;rw[show (!true)=false from rfl,Uj,hlen,show decide (((32:Nat):Int)<1)=false from rfl,Uj,show decide ((256:Int)<((32:Nat):Int))=false from rfl,Uj,show (J1 ps).jat=false from rfl,Uj,Vxj ps h1 h2,bindU];dsimp only;rw[show decide ((256:Int)<((32:Nat):Int))=false from rfl,Uj];obtain⟨⟨_,fr,_⟩,hfr,hfl⟩:=frame_ok (J1 ps).jr rc (by omega);rw[hfr,bindU];dsimp only at *;obtain⟨⟨_,f3,c3,e3,_⟩,hp,n1,n2,n3,n4⟩:=Veq (F1 ps) hf 0 16 fr (-1) (by omega) (by omega) (by omega) (by omega) (by omega) (by show 16+(fr.length:Int)<=(ps:Int);omega);dsimp only at *;subst n3;subst n4;rw[show Zdm (J1 ps).jf (J1 ps).jal (J1 ps).tail fr (-1)=_ from hp,bindU];dsimp only;rw[show (!decide ((0:Int)=0))=false from rfl,Uj,bindU,bindU];dsimp only;rw[show (!decide ((0:Int)=0))=false from rfl,Uj];refine Ok.bm (Vik _ n1) ?_;rintro⟨_,s,_⟩ ⟨s1,s2⟩;exact Ok.some ⟨⟨n1,s1,s2⟩,rfl⟩
end Go.Proofs.YtnfhkhlbdgbkjaaGreatDoor

/- Out of the texts of another seat of this program: what the laws of requests need of credentials and of Decode. Written by a program. -/
import Derived.Test.YtnfhkhlbdgbkjaaGreatDoorMqQ
set_option linter.unusedVariables false
set_option linter.unusedSimpArgs false
set_option maxRecDepth 100000
namespace Go.Proofs.YtnfhkhlbdgbkjaaGreatDoor
open Go Go.Abs
open _root_.BitVec renaming ofInt → Qa
open _root_.List renaming getD_eq_getElem?_getD → Qb, length_append → Qd, not_mem_nil → Qe, length_cons → Qf, length_nil → Qh, append_nil → Qi, mem_cons → Qj
open _root_.Nat renaming zero_le → Qc
open _root_.Int renaming toNat_natCast → Qg
def words:List Ua:=[([]:Ua),([97]:Ua),([98]:Ua),([108,111,103,105,110]:Ua),([107,101,121]:Ua),([101,120,97,109,112,108,101,46,111,114,103]:Ua),([195,169]:Ua),([48,49,50,51,52,53,54,55,56,57,48,49,50,51,52,53]:Ua)]
theorem Vxq:∀a:Fin 8,(words[a.val]'(by have:=a.isLt;simp only[words,Qf,Qh];omega)).length<=16:=by decide
theorem Vxr(n:Int):∃a b:Fin 8,Zgd n=some ((),words.getD a.val []++words.getD b.val [],()):=by
 obtain⟨a,ha,ea⟩:=mask n 7 (by omega);obtain⟨b,hb,eb⟩:=mask (Int.fdiv n (2^(min 3 (IntKind.bits .i64)))) 7 (by omega);refine⟨⟨a,by omega⟩,⟨b,by omega⟩,?_⟩;unfold Zgd;dsimp only;rw[show ((7:Nat):Int)=7 from rfl]at ea eb;rw[ea,eb];rw[show (decide ((0:Int)<=(a:Int))&&decide ((a:Int)<8))=true by simp;omega,show (decide ((0:Int)<=(b:Int))&&decide ((b:Int)<8))=true by simp;omega,Qg,Qg];have w8:∀c:Nat,c<=7->∃w,words[c]? = some w/\w.length<=16:=by
  intro c hc;have:c<words.length:=by simp[words];omega
  exact⟨words[c],by simp[this],Vxq ⟨c,by omega⟩⟩
 obtain⟨wa,qa,la⟩:=w8 a ha;obtain⟨wb,qb,lb⟩:=w8 b hb;have qa':([([]:Ua),([97]:Ua),([98]:Ua),([108,111,103,105,110]:Ua),([107,101,121]:Ua),([101,120,97,109,112,108,101,46,111,114,103]:Ua),([195,169]:Ua),([48,49,50,51,52,53,54,55,56,57,48,49,50,51,52,53]:Ua)]:List Ua)[a]? = some wa:=qa;have qb':([([]:Ua),([97]:Ua),([98]:Ua),([108,111,103,105,110]:Ua),([107,101,121]:Ua),([101,120,97,109,112,108,101,46,111,114,103]:Ua),([195,169]:Ua),([48,49,50,51,52,53,54,55,56,57,48,49,50,51,52,53]:Ua)]:List Ua)[b]? = some wb:=qb;rw[qa',qb'];simp only[Ui,bindS];rw[Vbna (by omega),Qb,Qb,qa,qb];rfl
theorem Vjw:∀a b:Fin 8,Lib.validD (words.getD a.val []++words.getD b.val [])=true/\(words.getD a.val []++words.getD b.val []).length<=32:=by decide +kernel
def rngC(c:Jg):Bool:=(decide ((1:Int)<=(c.rP.length:Int))&&decide ((c.rP.length:Int)<=64))&&((decide ((1:Int)<=(c.user.length:Int))&&decide ((c.user.length:Int)<=16))&&(!decide ((32:Int)<(c.name.length:Int))&&((decide ((1:Int)<=c.jd)&&decide (c.jd<=4))&&(decide ((1:Int)<=c.je)&&decide (c.je<=3)))))
def valC(c:Jg):Int:=bif rngC c then (bif Lib.validD c.rP&&Lib.validD c.name then (bif (c.jo&&!c.jg)||(c.jag&&!c.jo) then 18 else 0) else 6) else 9
theorem Vds(c:Jg)(h1:c.rP.length<1000000)(h2:c.name.length<1000000):Zaa c=some ((),valC c,()):=by
 obtain⟨rp,us,nm,sd,ht,rs,pr,sh,bk⟩:=c;dsimp only at h1 h2;unfold Zaa valC rngC Zdf;simp only[Vbk h1,Vbk h2];generalize decide ((1:Int)<=(rp.length:Int))=b1;generalize decide ((rp.length:Int)<=64)=b2;generalize decide ((1:Int)<=(us.length:Int))=b3;generalize decide ((us.length:Int)<=16)=b4;generalize decide ((32:Int)<(nm.length:Int))=b5;generalize decide ((1:Int)<=ht)=b6;generalize decide (ht<=4)=b7;generalize decide ((1:Int)<=pr)=b8;generalize decide (pr<=3)=b9;generalize Lib.validD rp=v1;generalize Lib.validD nm=v2;cases b1
 ·rfl
 cases b2
 ·rfl
 cases b3
 ·rfl
 cases b4
 ·rfl
 cases b5
 case true=>rfl
 cases b6
 ·rfl
 cases b7
 ·rfl
 cases b8
 ·rfl
 cases b9
 ·rfl
 cases v1
 ·rfl
 cases v2
 ·rfl
 cases sh<;>cases rs<;>cases bk<;>rfl
structure OkC(c:Jg):Prop where
 rp1:1<=c.rP.length
 rp:c.rP.length<=64
 us1:1<=c.user.length
 us:c.user.length<=16
 nm:c.name.length<=32
 ht1:1<=c.jd
 ht:c.jd<=4
 pr1:1<=c.je
 pr:c.je<=3
 vr:Lib.validD c.rP=true
 vn:Lib.validD c.name=true
theorem Vnb{c:Jg}(h:valC c=0):OkC c:=by
 unfold valC at h;cases hr:rngC c with
 |false=>rw[hr]at h;cases h
 |true=>
  rw[hr,Ui]at h;cases hv:(Lib.validD c.rP&&Lib.validD c.name) with
  |false=>rw[hv]at h;cases h
  |true=>
   unfold rngC at hr;simp only[Bool.and_eq_true,Uq,Bool.not_eq_true',decide_eq_false_iff_not]at hr hv;obtain⟨⟨a1,a2⟩,⟨a3,a4⟩,a5,⟨a6,a7⟩,a8,a9⟩:=hr;exact⟨by omega,by omega,by omega,by omega,by omega,a6,a7,a8,a9,hv.1,hv.2⟩
def bI(b:Bool):Ja:=⟨7,bif b then 1#64 else 0#64,[]⟩
def keysC:List Ub:=[1#64,2#64,3#64,4#64,5#64,6#64,7#64,8#64,9#64]
def valsC(c:Jg):List (List Ja):=[[⟨4,0#64,c.rP⟩],[⟨3,0#64,c.user⟩],[⟨4,0#64,c.name⟩],[⟨1,c.jah,[]⟩],[⟨1,Qa 64 c.jd,[]⟩],[bI c.jg],[⟨1,Qa 64 c.je,[]⟩],[bI c.jo],[bI c.jag]]
def itemsC(c:Jg):List Ja:=[⟨6,9#64,[]⟩,⟨1,1#64,[]⟩,⟨4,0#64,c.rP⟩,⟨1,2#64,[]⟩,⟨3,0#64,c.user⟩,⟨1,3#64,[]⟩,⟨4,0#64,c.name⟩,⟨1,4#64,[]⟩,⟨1,c.jah,[]⟩,⟨1,5#64,[]⟩,⟨1,Qa 64 c.jd,[]⟩,⟨1,6#64,[]⟩,bI c.jg,⟨1,7#64,[]⟩,⟨1,Qa 64 c.je,[]⟩,⟨1,8#64,[]⟩,bI c.jo,⟨1,9#64,[]⟩,bI c.jag]
theorem Vld{k:Int}{l:Ua}(hk:k=3\/k=4)(hl:l.length<=1024)(hv:Lib.validD l=true\/k=3):VT 1 [⟨k,0#64,l⟩]:=by
 have hb:big ⟨k,0#64,l⟩=false:=by
  unfold big isN;rcases hk with rfl|rfl<;>(dsimp only;rw[Un (by omega:¬ 1024<l.length)];rfl)
 rcases hk with rfl|rfl
 ·exact Vdq (by dsimp only;decide) (by dsimp only;decide) λn d b hn hd=>Vcb (by dsimp only;decide) (by dsimp only;decide) rfl hb (λh=>by cases h) hn hd
 ·refine Vdq (by dsimp only;decide) (by dsimp only;decide) λn d b hn hd=>Vcb (by dsimp only;decide) (by dsimp only;decide) rfl hb (λ_=>?_) hn hd;rcases hv with h|h
  ·exact h
  ·cases h
theorem Vle(n:Ub):VT 1 [⟨1,n,[]⟩]:=Vdq (x:=⟨1,n,[]⟩) (by dsimp only;decide) (by dsimp only;decide) λ_ d b hn hd=>Vcb (x:=⟨1,n,[]⟩) (by dsimp only;decide) (by dsimp only;decide) rfl rfl (λh=>by cases h) hn hd
theorem Viq(q:Bool):VT 1 [bI q]:=by
 cases q<;>exact Vdq (by decide) (by decide) λ_ d b hn hd=>Vcb (by decide) (by decide) (by decide) (by decide) (λh=>by cases h) hn hd
theorem Vgwa{h:Nat}{o:List Ja}(hh:h<=9)(hl:o.length<=512)(H:VT h o):valO o=0:=by
 have hv:=H 12 0 0 [] [] (by omega) (by omega) (by omega);rw[Qi]at hv;unfold valO;rw[(Vpw Vk3 12 (by omega) o).2 (by rw[hv]),hv];rfl
theorem Veva{c:Jg}(h:OkC c):∀o∈valsC c,VT 1 o/\o.length=1/\∀x∈o,x.data.length<100000:=by
 have h1:=h.rp;have h2:=h.us;have h3:=h.nm;intro o ho;simp only[valsC,Qj,Qe,or_false]at ho;rcases ho with rfl|rfl|rfl|rfl|rfl|rfl|rfl|rfl|rfl
 ·exact⟨Vld (.inr rfl) (by omega) (.inl h.vr),rfl,by simp;omega⟩
 ·exact⟨Vld (.inl rfl) (by omega) (.inr rfl),rfl,by simp;omega⟩
 ·exact⟨Vld (.inr rfl) (by omega) (.inl h.vn),rfl,by simp;omega⟩
 ·exact⟨Vle _,rfl,by simp⟩
 ·exact⟨Vle _,rfl,by simp⟩
 ·exact⟨Viq _,rfl,by simp[bI]⟩
 ·exact⟨Vle _,rfl,by simp⟩
 ·exact⟨Viq _,rfl,by simp[bI]⟩
 ·exact⟨Viq _,rfl,by simp[bI]⟩
theorem Vz6:keysOk [] (keysC.map λk=>(⟨1,k,[]⟩:Ja)):=by
 have K:∀(k:Ub) (last:Ua),(last=[]\/lss last (enc ⟨1,k,[]⟩)=true)->∀n d,n<512->d<=8->chk ⟨1,k,[]⟩ n d true last=0:=λk last h n d hn hd=>Vwa (x:=⟨1,k,[]⟩) (.inl rfl) rfl rfl (λh=>by cases h) h hn hd;exact⟨rfl,K _ _ (.inl rfl),rfl,K _ _ (.inr (by decide +kernel)),rfl,K _ _ (.inr (by decide +kernel)),rfl,K _ _ (.inr (by decide +kernel)),rfl,K _ _ (.inr (by decide +kernel)),rfl,K _ _ (.inr (by decide +kernel)),rfl,K _ _ (.inr (by decide +kernel)),rfl,K _ _ (.inr (by decide +kernel)),rfl,K _ _ (.inr (by decide +kernel)),trivial⟩
theorem Vrm{c:Jg}(h:OkC c):valO (itemsC c)=0:=
 Vgwa (h:=2) (by omega) (by simp[itemsC]) (Vbqa (h:=1) (k:=9) (ks:=keysC.map λk=>(⟨1,k,[]⟩:Ja)) (os:=valsC c) rfl rfl (by omega) (by omega) Vz6 λo ho=>(Veva h o ho).1)
theorem Vrn{c:Jg}(h:OkC c):∀x∈itemsC c,x.data.length<100000:=by
 have h1:=h.rp;have h2:=h.us;have h3:=h.nm;intro x hx;simp only[itemsC,Qj,Qe,or_false]at hx;rcases hx with rfl|rfl|rfl|rfl|rfl|rfl|rfl|rfl|rfl|rfl|rfl|rfl|rfl|rfl|rfl|rfl|rfl|rfl|rfl<;>first|exact Nat.lt_of_le_of_lt (Qc _) (by omega)|(dsimp only;omega)|(dsimp only[bI,Qh];omega)
def bytC(c:Jg):Ua:=encA (itemsC c)
def encP(c:Jg):Ua×Int:=bif decide (valC c=0) then (bytC c,0) else ([],valC c)
theorem Vro{c:Jg}(h:OkC c):encO (itemsC c)=(bytC c,0):=by
 unfold encO;rw[Vrm h];rfl
theorem Vrp(b:Bool):Zcj b=some ((),bI b,()):=by cases b<;>rfl
theorem encCL(x1 x2 x3 x4 x5 x6 x7 x8 x9 h:Ja):Zad_L0 ([x1,x2,x3,x4,x5,x6,x7,x8,x9],[h],0,())=some ([h,⟨1,1#64,[]⟩,x1,⟨1,2#64,[]⟩,x2,⟨1,3#64,[]⟩,x3,⟨1,4#64,[]⟩,x4,⟨1,5#64,[]⟩,x5,⟨1,6#64,[]⟩,x6,⟨1,7#64,[]⟩,x7,⟨1,8#64,[]⟩,x8,⟨1,9#64,[]⟩,x9],()):=by kernel_rfl
theorem Vir(c:Jg)(h1:c.rP.length<1000000)(h2:c.name.length<1000000):Zad c=some ((),(encP c).1,(encP c).2,()):=by
 unfold Zad encP;rw[Vds c h1 h2];simp only[bindS];by_cases h:valC c=0
 ·have hc:=Vnb h;simp only[h,Uk,Bool.not_true,Uj,Ui,Vrp,bindS,Zfe,Zfb,Zde];rw[encCL];simp only[bindS];rw[show ([⟨6,9#64,[]⟩,⟨1,1#64,[]⟩,⟨4,0#64,c.rP⟩,⟨1,2#64,[]⟩,⟨3,0#64,c.user⟩,⟨1,3#64,[]⟩,⟨4,0#64,c.name⟩,⟨1,4#64,[]⟩,⟨1,c.jah,[]⟩,⟨1,5#64,[]⟩,⟨1,Qa 64 c.jd,[]⟩,⟨1,6#64,[]⟩,bI c.jg,⟨1,7#64,[]⟩,⟨1,Qa 64 c.je,[]⟩,⟨1,8#64,[]⟩,bI c.jo,⟨1,9#64,[]⟩,bI c.jag]:List Ja)=itemsC c from rfl,Vjm (itemsC c) (by simp[itemsC]) (Vrn hc),Vro hc];rfl
 ·simp only[h,Ul,Bool.not_false,Ui,Uj]
theorem tmod3(k:Nat):∃j:Nat,j<3/\Int.tmod (k:Int) 3=(j:Int):=⟨k % 3,Nat.mod_lt _ (by omega),by rw[Int.tmod_eq_emod_of_nonneg (by omega)];omega⟩
theorem three{j:Nat}(h:j<3):j=0\/j=1\/j=2:=by omega
theorem RP_ok(n:Int):∃l,Zid n=some ((),l,())/\1<=l.length/\l.length<=64/\Lib.validD l=true:=by
 obtain⟨k,hk,e⟩:=mask n 65535 (by omega);obtain⟨j,hj,ej⟩:=tmod3 k;unfold Zid;dsimp only;rw[show ((65535:Nat):Int)=(65535:Int) from rfl]at e;rw[e,ej];rcases three hj with rfl|rfl|rfl
 ·exact⟨_,rfl,by decide,by decide,by decide +kernel⟩
 ·exact⟨_,rfl,by decide,by decide,by decide +kernel⟩
 ·exact⟨_,rfl,by decide,by decide,by decide +kernel⟩
theorem Vol(n:Int):∃l,Zge n=some ((),l,())/\1<=l.length/\l.length<=16:=by
 obtain⟨k,hk,e⟩:=mask n 65535 (by omega);obtain⟨j,hj,ej⟩:=tmod3 k;unfold Zge;dsimp only;rw[show ((65535:Nat):Int)=(65535:Int) from rfl]at e;rw[e,ej];rcases three hj with rfl|rfl|rfl
 ·exact⟨_,rfl,by decide,by decide⟩
 ·exact⟨_,rfl,by decide,by decide⟩
 ·exact⟨_,rfl,by decide,by decide⟩
theorem Vom{k:Int}{l:Ua}(hk:k=3\/k=4)(hl:l.length<256):(enc ⟨k,0#64,l⟩).length<=2+l.length:=by
 have h7:hdI ⟨k,0#64,l⟩=hdr (mj k) (Qa 64 (l.length:Int)):=by rcases hk with rfl|rfl<;>rfl
 have hn:(Qa 64 (l.length:Int)).toNat=l.length:=Vwg (by omega);unfold enc;rw[h7,Vpx,Qd,Qf,Vco];have:sho (Qa 64 (l.length:Int))<=1:=by
  unfold sho;rw[hn];cases decide (l.length<24) with
  |true=>exact Qc _
  |false=>rw[Uj,Um hl,Ui];exact Nat.le_refl _
 dsimp only;omega
theorem Vewa(n:Ub):(enc ⟨1,n,[]⟩).length<=9:=by
 unfold enc;rw[Qi];exact (Ve5 _).2
theorem Vlf(b:Bool):(enc (bI b)).length=1:=by cases b<;>decide +kernel
theorem Vnc{n:Int}(h1:1<=n)(h2:n<=4):(enc ⟨1,Qa 64 n,[]⟩).length=1:=by
 have:n=1\/n=2\/n=3\/n=4:=by omega
 rcases this with rfl|rfl|rfl|rfl<;>decide +kernel
theorem Vz7{c:Jg}(h:OkC c):(bytC c).length<=160:=by
 have a1:=Vom (k:=4) (l:=c.rP) (.inr rfl) (by have:=h.rp;omega);have a2:=Vom (k:=3) (l:=c.user) (.inl rfl) (by have:=h.us;omega);have a3:=Vom (k:=4) (l:=c.name) (.inr rfl) (by have:=h.nm;omega);have a4:=Vewa c.jah;have a5:=Vnc h.ht1 h.ht;have a6:=Vnc h.pr1 (by have:=h.pr;omega);have a7:=Vlf c.jg;have a8:=Vlf c.jo;have a9:=Vlf c.jag;have b1:=h.rp;have b2:=h.us;have b3:=h.nm;have k0:(enc ⟨6,9#64,[]⟩).length=1:=by decide +kernel
 have k1:(enc ⟨1,1#64,[]⟩).length=1:=by decide +kernel
 have k2:(enc ⟨1,2#64,[]⟩).length=1:=by decide +kernel
 have k3:(enc ⟨1,3#64,[]⟩).length=1:=by decide +kernel
 have k4:(enc ⟨1,4#64,[]⟩).length=1:=by decide +kernel
 have k5:(enc ⟨1,5#64,[]⟩).length=1:=by decide +kernel
 have k6:(enc ⟨1,6#64,[]⟩).length=1:=by decide +kernel
 have k7:(enc ⟨1,7#64,[]⟩).length=1:=by decide +kernel
 have k8:(enc ⟨1,8#64,[]⟩).length=1:=by decide +kernel
 have k9:(enc ⟨1,9#64,[]⟩).length=1:=by decide +kernel
 unfold bytC itemsC;simp only[Vdb,Qd];rw[k0,k1,k2,k3,k4,k5,k6,k7,k8,k9,a5,a6,a7,a8,a9,show (encA []).length=0 from rfl];clear k0 k1 k2 k3 k4 k5 k6 k7 k8 k9 a5 a6 a7 a8 a9;generalize (enc ⟨4,0#64,c.rP⟩).length=n1 at a1 |-;generalize (enc ⟨3,0#64,c.user⟩).length=n2 at a2 |-;generalize (enc ⟨4,0#64,c.name⟩).length=n3 at a3 |-;generalize (enc ⟨1,c.jah,[]⟩).length=n4 at a4 |-;omega
theorem Vql(c:Jg):(encP c).1.length<=160:=by
 unfold encP;by_cases h:valC c=0
 ·rw[Um h];exact Vz7 (Vnb h)
 ·rw[Un h];exact Qc _
theorem Vz8(n:Ub):Zdz n=some ((),(((bif decide ((1048576#64).toNat<n.toNat) then 1048576#64 else n):Ub).toNat:Int),()):=by
 unfold Zdz;dsimp only;have h:((bif decide ((1048576#64).toNat<n.toNat) then 1048576#64 else n):Ub).toNat<=1048576:=by
  by_cases q:(1048576#64).toNat<n.toNat
  ·rw[Um q,Ui];decide
  ·rw[Un q,Uj];have:(1048576#64).toNat=1048576:=rfl;omega
 rw[Va1 (by omega) (by omega)]
end Go.Proofs.YtnfhkhlbdgbkjaaGreatDoor

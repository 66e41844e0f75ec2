/- The law MessageBack, plainly. -/
import Derived.Test.YtnfhkhlbdgbkjaaGreatDoorMbD
set_option linter.unusedVariables false
set_option linter.unusedSimpArgs false
set_option maxRecDepth 100000
namespace Go.Proofs.YtnfhkhlbdgbkjaaGreatDoor
open Go Go.Abs
open _root_.List renaming length_cons → Qa, length_append → Qb, flatten_cons → Qc, map_cons → Qf
open _root_.Bool renaming not_true → Qd
open _root_.BitVec renaming ofNat → Qe
def wgt:List Ja->Nat
 |[]=>0
 |x::l=>x.data.length+9+wgt l
theorem Vg2(x:Ja)(l:List Ja):wgt (x::l)=x.data.length+9+wgt l:=rfl
theorem Vd6a:wgt []=0:=rfl
theorem Vgc:∀a b:List Ja,wgt (a++b)=wgt a+wgt b
 |[],b=>by simp[wgt]
 |x::a,b=>by
  rw[List.cons_append,Vg2,Vg2,Vgc a b];omega
theorem Vp6:∀l:List Ja,(encA l).length<=wgt l
 |[]=>by simp[encA,wgt]
 |x::l=>by
  have h1:=Vp6 l;have h2:=(Ve5 x).2;rw[Vdb,Qb,Vg2];unfold enc;rw[Qb];omega
theorem Vd7a:∀a:Fin 20,(enc (keyI a.val)).length=1:=by decide +kernel
theorem Vzk(a b:List Ja):encA (a++b)=encA a++encA b:=by unfold encA;rw[List.flatMap_append]
theorem Vm0:∀(ns:List Nat) (v:List (List Ja)),ns.length=v.length->(∀n∈ns,n<=19)->(encA (pairI ns v)).length<=ns.length+wgt v.flatten
 |[],[],_,_=>by simp[pairI,encA]
 |n::ns,o::v,h,hn=>by
  have ih:=Vm0 ns v (by simpa using h) λm hm=>hn m (by simp[hm]);have e:pairI (n::ns) (o::v)=keyI n::(o++pairI ns v):=by unfold pairI;rw[Qf,List.zip_cons_cons,List.flatMap_cons];rfl
  have k1:=Vd7a ⟨n,by have:=hn n (by simp);omega⟩;have k2:=Vp6 o;rw[e,Vdb,Vzk,Qc,Vgc,Qa,Qb,Qb];dsimp only at k1;omega
theorem Vp7:∀(us:List Bool) (vs:List (List Ja)),wgt (selV us vs).flatten<=wgt vs.flatten
 |[],vs=>by unfold selV;exact Nat.zero_le _
 |b::us,[]=>by unfold selV;exact Nat.zero_le _
 |b::us,v::vs=>by
  have ih:=Vp7 us vs;unfold selV;rw[Qc,Vgc];cases b
  ·show wgt (selV us vs).flatten<=_;omega
  ·show wgt (v::selV us vs).flatten<=_;rw[Qc,Vgc];omega
theorem Vp8:∀l:List Ua,(∀x∈l,x.length=176)->wgt ((l.map bytesI).flatten)=185*l.length
 |[],_=>rfl
 |x::l,h=>by
  have ih:=Vp8 l λy hy=>h y (by simp[hy]);rw[Qf,Qc,Vgc,ih,Qa];show x.length+9+0+185*l.length=_;rw[h x (by simp)];omega
theorem wgt_7(a b c d e f g:Nat)(h1:a<=64)(h2:b<=16)(h3:c<=32)(h4:d<=1024)(h5:e<=1024)(h6:f<=8)(h7:g<=176):a+(b+(c+(27+(9+185*f+(63+(d+(e+(9+(g+9)))))))))<=3987-54:=by omega
theorem Vzl{r:Jb}(h:GoodQ r):wgt (valsQ r).flatten<=3987:=by
 have hc:=Vp8 r.list h.el;have hs:=wgt_7 _ _ _ _ _ _ _ h.rp h.us h.nm h.bx h.pf h.li (Vqa h);have e:wgt (valsQ r).flatten=r.rP.length+9+0+(r.user.length+9+0+(r.name.length+9+0+(9+(9+(9+(9+wgt ((r.list.map bytesI).flatten)+(9+(9+(9+(9+(9+(9+(9+(r.box.length+9+(r.proof.length+9+(9+(r.iD.length+9+9))))))))))))))))):=by
  unfold valsQ certI arrI textI uintI boolI;simp only[Qc,List.flatten_nil,Vgc,Vg2,Vd6a,List.length_nil,bytesI,Nat.zero_add,Nat.add_zero]
 rw[e,hc];refine Nat.le_trans ?_ (Nat.add_le_add_right hs 54);clear e hc hs h;generalize r.list.length=f;generalize r.rP.length=a;generalize r.user.length=b;generalize r.name.length=c;generalize r.box.length=d;generalize r.proof.length=e;generalize r.iD.length=g;omega
theorem Vzm{r:Jb}(h:GoodQ r):(encA (reqI r)).length<=4009:=by
 have hF:=fitF h;have h1:=Vzl h;have h2:=Vp7 (useQ r) (valsQ r);have h3:=Vm0 (selN 1 (useQ r)) (selV (useQ r) (valsQ r)) (Ve6 _ _ 1 hF.l) λn hn=>hF.up.2 n hn;have h4:=hF.c;unfold reqI chosI mapI;rw[Vdb,Qb];have h5:=(Ve5 (⟨6,Qe 64 (selN 1 (useQ r)).length,[]⟩:Ja)).2;have h6:(enc (⟨6,Qe 64 (selN 1 (useQ r)).length,[]⟩:Ja)).length<=9:=by unfold enc;rw[List.append_nil];exact h5
 omega
theorem Vzn{r:Jb}(h:GoodQ r):((kindB r).toBitVec.toNat:Int)=r.kind:=by
 have h1:=h.k1;have h2:=h.k2;unfold kindB;obtain⟨n,hn⟩:∃n:Nat,r.kind=n:=⟨r.kind.toNat,by omega⟩;rw[hn,BitVec.ofInt_natCast];show ((Qe 8 n).toNat:Int)=n;rw[BitVec.toNat_ofNat,Nat.mod_eq_of_lt (by omega)]
theorem Vgd(a0 a1:Int)(hd:MessageBack_dom a0 a1):Ok (Zak a0 a1) λr=>r.2.1=true:=by
 unfold Zak;have aw:Ok ((Zdv).bind λr1=>(some ((),(r1.2.1,())):Option (Unit×(Bool×Unit)))) λr=>r.2.1=true:=by rw[Vgpa];exact⟨_,rfl,rfl⟩
 refine Ok.bm (Vrw _ _) ?_;rintro⟨u,r,u2⟩ hr;dsimp only at hr |-;rw[Vjs r hr,bindU];dsimp only;by_cases h0:(reqO r).2=0
 ·obtain⟨hv,e⟩:=Vrh h0;have hg:=Vii hv;have hl:=Vzm hg;have hk:=Vzn hg;have h1:=hg.k1;have h14:=hg.k2;have q3:Zbn (kindB r::encA (reqI r))=some ((),r,0,()):=by
   have g0:getI (kindB r::encA (reqI r)) (0:Int)=some (kindB r):=rfl;have hE:=Vjs r hr;rw[h0,e]at hE;unfold Zbn;rw[dF (((kindB r::encA (reqI r)).length:Int)=0) (by rw[Qa];omega),dF ((4096:Int)<((kindB r::encA (reqI r)).length:Int)) (by rw[Qa];omega),g0];simp only[Uj,bindS];rw[hk,dF (r.kind<1) (by omega),dF (14<r.kind) (by omega),dT ((1:Int)<=((kindB r::encA (reqI r)).length:Int)) (by rw[Qa];omega)];simp only[bindS,Uj,Ui,List.drop_succ_cons,List.drop_zero];rw[Vwk _ (by omega),Vzj hg];simp only[bindS,Uk,Qd,Uj];rw[Vmz hg];simp only[bindS];rw[hE];unfold Zin
   simp only[bindS,Uk,Qd,Uj]
  rw[Um h0,e,q3];simp only[Qd,Uj,bindS,Uk,Ui];rw[ dT (((kindB r::encA (reqI r)).length:Int)<=4096) (by rw[Qa];omega),Vwx r hr.li];simp only[Ui,bindS];exact aw
 ·rw[Un h0];simp only[Bool.not_false,Ui];rw[Vcc r hr];simp only[bindS];have e:(reqO r).2=valQ r:=by
   unfold reqO at h0 |-;by_cases hv:valQ r=0
   ·rw[Um hv]at h0;exact absurd rfl h0
   ·rw[Un hv];rfl
  rw[Um e];simp only[Ui];exact aw
end Go.Proofs.YtnfhkhlbdgbkjaaGreatDoor

/- The fields of a request, of the document, as a list; its Validate. -/
import Derived.Test.YtnfhkhlbdgbkjaaGreatDoorMqC
set_option linter.unusedVariables false
set_option linter.unusedSimpArgs false
set_option maxRecDepth 100000
namespace Go.Proofs.YtnfhkhlbdgbkjaaGreatDoor
open Go Go.Abs
open _root_.List renaming range → Qa, replicate → Qb, getElem?_eq_getElem → Qd
open _root_.BitVec renaming ofInt → Qc
theorem iter_mk'{σ β:Type}{f:σ->Option (σ⊕β)}(mk:Nat->σ)(n:Nat)(b:β){s0:σ}(h0:mk 0=s0)(hn:n<1000)(h:∀k,k<n->f (mk k)=some (.inl (mk (k+1))))(he:f (mk n)=some (.inr b)):iter f rounds s0=some b:=by
 subst h0;have key:∀(d k fuel:Nat),k+d=n->d<fuel->iter f fuel (mk k)=some b:=by
  intro d;induction d with
  |zero=>
   intro k fuel e hf;obtain⟨m,rfl⟩:∃m,fuel=m+1:=⟨fuel-1,by omega⟩;obtain rfl:k=n:=by omega
   show (f (mk k)).bind _=_;rw[he];rfl
  |succ d ih=>
   intro k fuel e hf;obtain⟨m,rfl⟩:∃m,fuel=m+1:=⟨fuel-1,by omega⟩;show (f (mk k)).bind _=_;rw[h k (by omega),bindU];exact ih (k+1) m (by omega) (by omega)
 exact key n 0 rounds (by omega) (by rw[Vaa];omega)
theorem Vzr{α:Type}(g:Nat->α)(d x:α)(k n:Nat)(h:k<n)(hx:x=g k):List.set ((Qa k).map g++Qb (n-k) d) k x=(Qa (k+1)).map g++Qb (n-(k+1)) d:=by
 subst hx;obtain⟨m,rfl⟩:∃m,n=k+1+m:=⟨n-(k+1),by omega⟩;rw[show k+1+m-k=m+1 by omega,show k+1+m-(k+1)=m by omega,List.set_append_right _ _ (by simp)];simp[List.replicate_succ,List.range_succ]
theorem Vzs{α:Type}(g:Nat->α)(d:α)(k n:Nat)(h:k<n):((Qa k).map g++Qb (n-k) d)[k]? = some d:=by
 obtain⟨m,rfl⟩:∃m,n=k+1+m:=⟨n-(k+1),by omega⟩;rw[List.getElem?_append_right (by simp),show k+1+m-k=m+1 by omega,List.length_map,List.length_range,Nat.sub_self];rfl
theorem Vzt{n w:Nat}(h1:n<=1000)(h2:w<=100):small n w=true:=by
 unfold small;have:=Nat.mul_le_mul (show 2*n+192<=2192 by omega) h2;simp;omega
theorem gd{α:Type}{l:List α}{i:Nat}(d:α)(h:i<l.length):l[i]? = some (l.getD i d):=by
 rw[List.getD_eq_getElem?_getD,Qd h];rfl
def liI(l:List Ua):List Ja:=⟨5,Qc 64 (l.length:Int),[]⟩::l.map λx=>⟨3,0#64,x⟩
theorem Veba(l:List Ua)(hl:l.length<900):Zfc l=some ((),liI l,()):=by
 unfold Zfc Zfc_L0 i3;dsimp only;rw[iter_mk' (λi=>(l,(⟨5,Qc 64 (l.length:Int),[]⟩:Ja)::(l.take i).map (λx=>(⟨3,0#64,x⟩:Ja)),(i:Int),())) l.length (liI l,()) ?_ (by omega) (λk hk=>?_) ?_,bindU]
 ·simp
 ·show Zfc_L0b l ((⟨5,Qc 64 (l.length:Int),[]⟩:Ja)::(l.take l.length).map (λx=>(⟨3,0#64,x⟩:Ja))) (l.length:Int)=_;unfold Zfc_L0b;rw[Un (by omega),Uj,List.take_length];rfl
 ·show Zfc_L0b l ((⟨5,Qc 64 (l.length:Int),[]⟩:Ja)::(l.take k).map (λx=>(⟨3,0#64,x⟩:Ja))) (k:Int)=_;unfold Zfc_L0b Zfb;have hx:l[k]? = some l[k]:=Qd hk;rw[Um (by omega),Ui,gIn hx,bindU,bindU];dsimp only;rw[Vzt (by simp;omega) (by omega),Ui,Vb0 (by omega),List.take_add_one,hx,List.map_append];rfl
def FQ(r:Jb)(k:Nat):List Ja:=bif Nat.beq k 0 then [] else fv ((numsQ r).getD k 0#64) ((strsQ r).getD k []) ((flagsQ r).getD k false) (liQ r (liI r.list)) (auQ r) k
def z20:List (List Ja):=[[],[],[],[],[],[],[],[],[],[],[],[],[],[],[],[],[],[],[],[]]
theorem Veca(r:Jb)(hl:r.list.length<900):Zdd_L0 ((r,()),z20,z20,numsQ r,strsQ r,flagsQ r,(1:Int),())=some (z20,(Qa 20).map (FQ r),()):=by
 unfold Zdd_L0 i7;rw[iter_mk' (λk=>((r,()),z20,(Qa (k+1)).map (FQ r)++Qb (20-(k+1)) [],numsQ r,strsQ r,flagsQ r,((k+1:Nat):Int),())) 19 (z20,(Qa 20).map (FQ r),()) ?_ (by omega) (λk hk=>?_) ?_]
 ·rfl
 ·show Zdd_L0b (r,()) z20 ((Qa 20).map (FQ r)++[]) (numsQ r) (strsQ r) (flagsQ r) ((20:Nat):Int)=_;rw[List.append_nil];rfl
 ·show Zdd_L0b (r,()) z20 ((Qa (k+1)).map (FQ r)++Qb (20-(k+1)) []) (numsQ r) (strsQ r) (flagsQ r) ((k+1:Nat):Int)=_;rw[Veaa r (Veba r.list hl) z20 _ _ _ _ (by omega) (Vzs _ _ _ _ (by omega)) (gd 0#64 (by simp[numsQ];omega)) (gd [] (by simp[strsQ];omega)) (gd false (by simp[flagsQ];omega))];rw[show fv ((numsQ r).getD (k+1) 0#64) ((strsQ r).getD (k+1) []) ((flagsQ r).getD (k+1) false) (liQ r (liI r.list)) (auQ r) (k+1)=FQ r (k+1) from rfl,Vzr (FQ r) [] _ (k+1) 20 (by omega) rfl]
theorem Vm2(r:Jb)(hl:r.list.length<900):Zdd r=some ((),⟨FQ r 0,FQ r 1,FQ r 2,FQ r 3,FQ r 4,FQ r 5,FQ r 6,FQ r 7,FQ r 8,FQ r 9,FQ r 10,FQ r 11,FQ r 12,FQ r 13,FQ r 14,FQ r 15,FQ r 16,FQ r 17,FQ r 18,FQ r 19⟩,()):=by
 unfold Zdd;have h:=Veca r hl;unfold z20 numsQ strsQ flagsQ at h;rw[h];rfl
end Go.Proofs.YtnfhkhlbdgbkjaaGreatDoor

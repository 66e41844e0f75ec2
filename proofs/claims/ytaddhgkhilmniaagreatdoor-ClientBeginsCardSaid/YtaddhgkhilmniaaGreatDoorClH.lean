/- Names of hosts, rules, origins, permits: what both sides compute. No condition. -/
import Derived.Test.YtaddhgkhilmniaaGreatDoorFns
import Derived.Test.YtaddhgkhilmniaaGreatDoorLib8
import Derived.Lib.IndexBytes
import Derived.Lib.Join
import Derived.Lib.Split
import Derived.Lib.SplitLaws
import Derived.Lib.ItoaNum
set_option linter.unusedVariables false
set_option linter.unusedSimpArgs false
set_option maxRecDepth 100000
namespace Go.Proofs.YtaddhgkhilmniaaGreatDoor
open Go Go.Abs
open _root_.List renaming getElem?_eq_getElem → Qa, length_take → Qf, getElem?_eq_none → Qi, mem_cons → Qk, take → Qo, cons_append → Qq, mem_of_getElem? → Qr, length_append → Qs, isPrefixOf_iff_prefix → Qt, getLast?_eq_getElem? → Qu, prefix_iff_eq_take → Qv, length_cons → Qw, head?_eq_getElem? → Qx, take_succ_eq_append_getElem → Q1, ext_getElem? → Q2, append_assoc → Q3, getElem_mem → Q6, drop_eq_getElem_cons → Qaa, all_cons → Qab, take_append_drop → Qae, singleton_append → Qaf, length_singleton → Qag, mem_of_mem_take → Qah, take_succ_cons → Qal, mem_singleton → Qam, getElem?_drop → Qan, take_length → Qao, length_drop → Qap, all_eq_true → Qaq, mem_append → Qar, length_nil → Qas, foldl_cons → Qat, take_zero → Qau
open _root_.BitVec renaming ofInt → Qb, ofInt_natCast → Qac
open _root_.Bool renaming not_true → Qc, true_and → Qd, and_eq_true → Qg, eq_iff_iff → Qj, not_false → Qn, and_self → Q0, not_eq_true' → Q4, or_eq_true → Q8, false_and → Qav
open _root_.Int renaming toNat_natCast → Qh, fdiv → Qaw
open Go.IntKind renaming wrap → Ql, bits → Qp
open _root_.Option.some renaming injEq → Qm
open _root_.Sum renaming elim_inr → Qy, map_inl → Q7
open _root_.UInt8 renaming ofNat → Qz, ofBitVec → Q9, toBitVec_inj → Qai
open _root_.Nat renaming zero_add → Q5, pow_succ → Qad, pow_le_pow_right → Qaj, mul_le_mul_right → Qak
def isDig (x:UInt8):Bool:=decide ((48:UInt8).toBitVec.toNat<=x.toBitVec.toNat)&&decide (x.toBitVec.toNat<=(57:UInt8).toBitVec.toNat)
def isLet (x:UInt8):Bool:=decide ((97:UInt8).toBitVec.toNat<=x.toBitVec.toNat)&&decide (x.toBitVec.toNat<=(122:UInt8).toBitVec.toNat)
def isDash (x:UInt8):Bool:=decide (x.toBitVec=(45:UInt8).toBitVec)
theorem isDash_iff {x:UInt8}:isDash x=true↔x=45:=by
 unfold isDash;rw [decide_eq_true_eq];exact Qai
def okAt (n i:Nat) (x:UInt8):Bool:=(isLet x||isDig x)||(isDash x&&(decide (0 < i)&&decide (i+1 < n)))
def inner (x:UInt8):Bool:=(isLet x||isDig x)||isDash x
def lab (l:List UInt8):Bool:=decide (1<=l.length/\l.length<=63)&&((!decide (l.head? = some 45)&&!decide (l.getLast? = some 45))&&l.all inner)
theorem Vzu (l:List UInt8) (h:1<=l.length):allI (okAt l.length) 0 l=((!decide (l.head? = some 45)&&!decide (l.getLast? = some 45))&&l.all inner):=by
 rw [Qj];rw [Vfe];simp only [Qg,Q4,decide_eq_false_iff_not,Qaq];have hdash:isLet 45=false/\isDig 45=false:=by decide
 constructor
 ·intro hp;refine ⟨⟨λhh=>?_,λhh=>?_⟩,λx hx=>?_⟩
  ·have e:l[0]? = some 45:=by rw [<- Qx]; exact hh
   have:=hp 0 45 e;simp [okAt,hdash] at this
  ·have e:l[l.length - 1]? = some 45:=by rw [<- Qu]; exact hh
   have:=hp _ 45 e;simp [okAt,hdash] at this;omega
  ·obtain ⟨i,hi,rfl⟩:=List.mem_iff_getElem.1 hx;have:=hp i l[i] (by simp [hi]);simp only [okAt,inner,Q8,Qg] at this |-;rcases this with h | h
   ·exact .inl h
   ·exact .inr h.1
 ·rintro ⟨⟨h1,h2⟩,h3⟩ i x hx;obtain ⟨hi,rfl⟩:=List.getElem?_eq_some_iff.1 hx;have:=h3 _ (Q6 hi);simp only [okAt,inner,Q8,Qg,decide_eq_true_eq,Q5] at this |-;rcases this with h | h
  ·exact .inl h
  ·refine .inr ⟨h,?_,?_⟩
   ·rcases Nat.eq_zero_or_pos i with rfl | hi0
    ·exfalso; apply h1;rw [Qx,hx,isDash_iff.1 h]
    ·exact hi0
   ·rcases Nat.lt_or_ge (i+1) l.length with q | q
    ·exact q
    ·exfalso; apply h2;have:i=l.length - 1:=by omega
     subst this;rw [Qu,hx,isDash_iff.1 h]
theorem Vew (l:List UInt8):Zjd l=some ((),lab l,()):=by
 unfold Zjd lab;by_cases h1:1<=l.length
 ·by_cases h2:l.length<=63
  ·rw [show decide ((l.length:Int) < 1)=false by simp; omega,show decide ((63:Int) < (l.length:Int))=false by simp; omega];simp only [cond_false];unfold Zjd_L0 Yi3;rw [Vam (λi (_:Unit)=>(l,(l.length:Int),i,())) l (λi x _=>bif okAt l.length i x then .inl () else .inr (.inl (false,()))) (λ_=>.inr ()) (λ_ _=>True) ?_ ?_ () trivial rounds (by rw [Vab]; omega)]
   ·rw [Vbb,Vzu l h1];simp only [h1,h2,and_self,decide_true,Qd];cases (!decide (l.head? = some 45)&&!decide (l.getLast? = some 45))&&l.all inner<;>rfl
   ·intro i x a hx _;obtain ⟨hi,hx'⟩:=List.getElem?_eq_some_iff.1 hx;refine ⟨?_,λ_ _=>trivial⟩;simp only [Zjd_L0b];have hg:getI l (i:Int)=some x:=by simp [getI,hx]
    rw [hg,show decide ((i:Int) < (l.length:Int))=true by simp; omega,wI ((i:Int)+1) (by omega),wI ((l.length:Int) - 1) (by omega)];simp only [cond_true,bindS];unfold okAt isLet isDig isDash;rw [show decide ((i:Int) < (l.length:Int) - 1)=decide (i+1 < l.length) by rw [decide_eq_decide]; omega,show decide ((0:Int) < (i:Int))=decide (0 < i) by rw [decide_eq_decide]; omega];generalize decide ((97:UInt8).toBitVec.toNat<=x.toBitVec.toNat)=b1;generalize decide (x.toBitVec.toNat<=(122:UInt8).toBitVec.toNat)=b2;generalize decide ((48:UInt8).toBitVec.toNat<=x.toBitVec.toNat)=b3;generalize decide (x.toBitVec.toNat<=(57:UInt8).toBitVec.toNat)=b4;generalize decide (x.toBitVec=(45:UInt8).toBitVec)=b5;generalize decide (0 < i)=b6;generalize decide (i+1 < l.length)=b7;cases b1<;>cases b2<;>cases b3<;>cases b4<;>cases b5<;>cases b6<;>cases b7<;>rfl
   ·intro a _;simp only [Zjd_L0b];simp
  ·rw [show decide ((l.length:Int) < 1)=false by simp; omega,show decide ((63:Int) < (l.length:Int))=true by simp; omega];simp [h2]
 ·rw [show decide ((l.length:Int) < 1)=true by simp; omega];simp [h1]
theorem Vi4 (x:UInt8):Zfl x=some ((),isDig x,()):=by
 unfold Zfl isDig;cases decide ((48:UInt8).toBitVec.toNat<=x.toBitVec.toNat)<;>rfl
theorem Vm1 (l:List UInt8):Zfm l=some ((),lab l,()):=by
 unfold Zfm lab;by_cases h1:1<=l.length
 ·by_cases h2:l.length<=63
  ·rw [show decide ((l.length:Int) < 1)=false by simp; omega,show decide ((63:Int) < (l.length:Int))=false by simp; omega];simp only [cond_false];have e1:getI l 0=some l[0]:=by simp [getI]
   have e2:getI l (Ql .i64 ((l.length:Int) - 1))=some l[l.length - 1]:=by
    rw [Vbl (by omega) (by omega)];have:((l.length:Int) - 1).toNat=l.length - 1:=by omega
    simp only [getI,this];rw [show decide ((0:Int)<=(l.length:Int) - 1)=true by simp; omega];simp only [cond_true];rw [Qa]
   rw [e1,e2];simp only [bindS,h1,h2,and_self,decide_true,Qd];have f1:decide (l.head? = some 45)=decide (l[0].toBitVec=(45:UInt8).toBitVec):=by
    rw [decide_eq_decide,Qx,Qa (by omega),Qm];exact UInt8.toBitVec_inj.symm
   have f2:decide (l.getLast? = some 45)=decide (l[l.length - 1].toBitVec=(45:UInt8).toBitVec):=by
    rw [decide_eq_decide,Qu,Qa (by omega),Qm];exact UInt8.toBitVec_inj.symm
   rw [f1,f2];cases decide (l[0].toBitVec=(45:UInt8).toBitVec)
   ·cases decide (l[l.length - 1].toBitVec=(45:UInt8).toBitVec)
    ·simp only [cond_false,Qn,Q0,Qd];unfold Zfm_L0 Yi2;rw [Vam (λi (_:Unit)=>(l,i,())) l (λi x _=>bif inner x then .inl () else .inr (.inl (false,()))) (λ_=>.inr ()) (λ_ _=>True) ?_ ?_ () trivial rounds (by rw [Vab]; omega)]
     ·rw [Vbb (λ_ x=>inner x),Vdd];cases l.all inner<;>rfl
     ·intro i x a hx _;obtain ⟨hi,hx'⟩:=List.getElem?_eq_some_iff.1 hx;refine ⟨?_,λ_ _=>trivial⟩;simp only [Zfm_L0b];have hg:getI l (i:Int)=some x:=by simp [getI,hx]
      rw [hg,show decide ((i:Int) < (l.length:Int))=true by simp; omega,wI ((i:Int)+1) (by omega)];simp only [cond_true,bindS,Vi4];unfold inner isLet isDash;generalize isDig x=b3;generalize decide ((97:UInt8).toBitVec.toNat<=x.toBitVec.toNat)=b1;generalize decide (x.toBitVec.toNat<=(122:UInt8).toBitVec.toNat)=b2;generalize decide (x.toBitVec=(45:UInt8).toBitVec)=b5;cases b1<;>cases b2<;>cases b3<;>cases b5<;>rfl
     ·intro a _;simp only [Zfm_L0b];simp
    ·rfl
   ·rfl
  ·rw [show decide ((l.length:Int) < 1)=false by simp; omega,show decide ((63:Int) < (l.length:Int))=true by simp; omega];simp [h2]
 ·rw [show decide ((l.length:Int) < 1)=true by simp; omega];simp [h1]
def spl (c:UInt8):List UInt8->List (List UInt8)
 | []=>[[]]
 | x::r=>if x=c then []::spl c r else match spl c r with
  | []=>[[x]]
  | p::ps=>(x::p)::ps
theorem Vxs (c:UInt8):∀ s,spl c s≠[]
 | []=>by simp [spl]
 | x::r=>by
  unfold spl;split
  ·simp
  ·split<;>simp
theorem Vf9 {c:UInt8}:∀ {s:List UInt8},c∉s->spl c s=[s]
 | [],_=>rfl
 | x::r,h=>by
  simp only [Qk,not_or] at h;unfold spl;rw [if_neg (λe=>h.1 e.symm),Vf9 h.2]
theorem Vl2 {c:UInt8}:∀ {a:List UInt8} (b:List UInt8),c∉a->spl c (a++c::b)=a::spl c b
 | [],b,_=>by simp [spl]
 | x::a,b,h=>by
  simp only [Qk,not_or] at h;rw [Qq,spl,if_neg (λe=>h.1 e.symm),Vl2 b h.2]
theorem Vcc (c:UInt8):∀ s:List UInt8,(Lib.indexByte s c = -1/\c∉s)\/∃ a b,s=a++c::b/\c∉a/\Lib.indexByte s c=(a.length:Int)
 | []=>.inl ⟨rfl,by simp⟩
 | x::r=>by
  by_cases hx:x=c
  ·subst hx;exact .inr ⟨[],r,rfl,by simp,by simp [Lib.indexByte]⟩
  ·have hb:(x == c)=false:=by simpa using hx
   rcases Vcc c r with ⟨h1,h2⟩ | ⟨a,b,h1,h2,h3⟩
   ·left;refine ⟨by simp [Lib.indexByte,hb,h1],?_⟩;simp only [Qk,not_or];exact ⟨λe=>hx e.symm,h2⟩
   ·right;refine ⟨x::a,b,by simp [h1],?_,?_⟩
    ·simp only [Qk,not_or];exact ⟨λe=>hx e.symm,h2⟩
    ·have:¬ (Lib.indexByte r c == -1)=true:=by rw [h3]; simp
     rw [Lib.indexByte,hb];simp only [Bool.false_eq_true,if_false,this,h3];simp
theorem Vid (c:UInt8):∀ (k:Nat) (s:List UInt8),s.count c<=k->Lib.splitK [c] 0 k s=spl c s
 | 0,s,h=>by
  have:c∉s:=List.count_eq_zero.1 (by omega);rw [Vf9 this]; rfl
 | k+1,s,h=>by
  unfold Lib.splitK;rw [Lib.index_one];rcases Vcc c s with ⟨h1,h2⟩ | ⟨a,b,h1,h2,h3⟩
  ·rw [h1,Vf9 h2]; rfl
  ·have:¬ ((Lib.indexByte s c == -1)=true):=by rw [h3]; simp
   rw [if_neg this,h3];subst h1;have e1:((a.length:Int).toNat+0)=a.length:=by simp
   have e2:((a.length:Int).toNat+[c].length)=a.length+1:=by simp
   rw [e1,e2,List.take_left',Vl2 b h2,show List.drop (a.length+1) (a++c::b)=b by simp,Vid c k b]
   ·rw [List.count_append,List.count_cons_self] at h;omega
   ·rfl
theorem Vpu (s:List UInt8) (c:UInt8):Lib.split s [c]=spl c s:=by
 unfold Lib.split;rw [Lib.count_one];exact Vid c _ s (Nat.le_refl _)
theorem Vm2 (s:List UInt8) (h:s.length < 4294967281):Zkn s [46]=some ((),spl 46 s,()):=by
 unfold Zkn;rw [Vpu];simp [h]
theorem Vpv {n:Nat} (h:n < 100000000):small n 16=true:=by
 unfold small;simp only [decide_eq_true_eq];omega
theorem Vex (s:List UInt8) (c:UInt8) (hs:s.length < 1000000):Zfn s c=some ((),spl c s,()):=by
 unfold Zfn;have:Ok (Zfn_L0 (s,c,[],0,0,())) λz=>z.1=s/\z.2.1.length<=s.length/\0<=z.2.2.1/\z.2.2.1<=s.length/\z.2.1++[s.drop z.2.2.1.toNat]=spl c s:=by
  unfold Zfn_L0 Yi5;refine Ok.iter (λq=>q.1=s/\q.2.1=c/\(q.2.2.1.length:Int)<=q.2.2.2.2.1/\0<=q.2.2.2.1/\q.2.2.2.1<=q.2.2.2.2.1/\q.2.2.2.2.1<=(s.length:Int)/\c∉(s.drop q.2.2.2.1.toNat).take (q.2.2.2.2.1.toNat - q.2.2.2.1.toNat)/\q.2.2.1++spl c (s.drop q.2.2.2.1.toNat)=spl c s) (λq=>s.length - q.2.2.2.2.1.toNat) ⟨rfl,rfl,by simp,by simp,by simp,by simp,by simp,by simp⟩ (by rw [Vab]; dsimp only; omega) ?_;rintro ⟨y0,y1,y2,y3,y4,u⟩ ⟨h1,h2,h3,h4,h5,h6,h7,h8⟩;dsimp only at *;subst h1; subst h2;simp only [Zfn_L0b];by_cases hi:y4 < (y0.length:Int)
  ·rw [Vb3 (by omega) hi,wI (y4+1) (by omega)];simp only [hi,decide_true,cond_true,bindS];have hx:ati y0 y4=y0[y4.toNat]'(by omega):=by simp [ati,show y4.toNat < y0.length by omega]
   have ex:y0.drop y3.toNat=(y0.drop y3.toNat).take (y4.toNat - y3.toNat)++ati y0 y4::y0.drop (y4.toNat+1):=by
    conv=>lhs; rw [<- Qae (y4.toNat - y3.toNat) (y0.drop y3.toNat)]
    rw [List.drop_drop,show y3.toNat+(y4.toNat - y3.toNat)=y4.toNat by omega,Qaa (show y4.toNat < y0.length by omega),hx]
   by_cases hc:ati y0 y4=y1
   ·rw [show decide ((ati y0 y4).toBitVec=y1.toBitVec)=true by rw [hc]; simp];rw [show (decide ((0:Int)<=y4)&&decide (y4<=(y0.length:Int)))=true by simp; omega,show (decide ((0:Int)<=y3)&&decide (y3<=(y4.toNat:Int)))=true by simp; omega];simp only [cond_true];rw [Vpv (by simp; omega)];simp only [cond_true];refine Ok.some ?_;dsimp only;refine ⟨⟨rfl,rfl,by simp; omega,by omega,by omega,by omega,by simp,?_⟩,by omega⟩;rw [<- h8];rw [hc] at ex;conv=>rhs; rw [ex,Vl2 _ h7]
    rw [show (y4+1).toNat=y4.toNat+1 by omega,Q3];congr 1;rw [Qaf,List.drop_take]
   ·rw [show decide ((ati y0 y4).toBitVec=y1.toBitVec)=false by rw [decide_eq_false_iff_not]; exact λe=>hc (UInt8.toBitVec_inj.1 e)];simp only [cond_false];refine Ok.some ?_;dsimp only;refine ⟨⟨rfl,rfl,by omega,by omega,by omega,by omega,?_,h8⟩,by omega⟩;rw [ex,show (y4+1).toNat - y3.toNat=(y4.toNat - y3.toNat)+1 by omega,List.take_append];have hl:((y0.drop y3.toNat).take (y4.toNat - y3.toNat)).length=y4.toNat - y3.toNat:=by simp; omega
    rw [hl];simp only [Qar,not_or];refine ⟨λh=>h7 (Qah h),?_⟩;rw [show y4.toNat - y3.toNat+1 - (y4.toNat - y3.toNat)=1 by omega];simp only [Qal,Qau,Qk,List.not_mem_nil,or_false];exact λe=>hc e.symm
  ·simp only [hi,decide_false,cond_false];refine Ok.some ?_;dsimp only;refine ⟨rfl,by omega,h4,by omega,?_⟩;rw [<- h8];congr 1;rw [Vf9];intro hm;apply h7;rwa [List.take_of_length_le (by simp; omega)]
 obtain ⟨⟨z0,z1,z2,u⟩,h0,h1,h2,h3,h4,h5⟩:=this;dsimp only at *;subst h1;rw [h0];simp only [bindS];rw [show (decide ((0:Int)<=z2)&&decide (z2<=(z0.length:Int)))=true by simp; omega];simp only [cond_true];rw [Vpv (by simp; omega)];simp only [cond_true];rw [h5]
theorem Vv5 (l:List UInt8):Lib.trimS l [48,49,50,51,52,53,54,55,56,57]=[]↔l.all isDig=true:=by
 have hp:∀ x:UInt8,([48,49,50,51,52,53,54,55,56,57]:List UInt8).contains x=isDig x:=λx=>by
  have hq:∀ n:Fin 256,([48,49,50,51,52,53,54,55,56,57]:List UInt8).contains (Qz n.val)=isDig (Qz n.val):=by decide +kernel
  have:=hq ⟨x.toNat,UInt8.toNat_lt x⟩;simpa only [UInt8.ofNat_toNat] using this
 have hdw:∀ m:List UInt8,m.dropWhile (λx=>([48,49,50,51,52,53,54,55,56,57]:List UInt8).contains x)=[]↔m.all isDig=true:=by
  intro m;induction m with
  | nil=>simp
  | cons x r ih=>
   rw [List.dropWhile_cons,hp x,Qab];cases isDig x
   ·simp
   ·simpa using ih
 unfold Lib.trimS Lib.trimLeftS Lib.trimRightS;constructor
 ·intro h;have h2:=(hdw _).1 h;by_cases hn:l.reverse.dropWhile (λx=>([48,49,50,51,52,53,54,55,56,57]:List UInt8).contains x)=[]
  ·have:=(hdw _).1 hn;simpa using this
  ·exfalso;rw [List.all_reverse] at h2;have hh:=List.head_dropWhile_not (λx=>([48,49,50,51,52,53,54,55,56,57]:List UInt8).contains x) hn;have:=List.all_eq_true.1 h2 _ (List.head_mem hn);rw [hp] at hh;rw [hh] at this;cases this
 ·intro h;have:l.reverse.dropWhile (λx=>([48,49,50,51,52,53,54,55,56,57]:List UInt8).contains x)=[]:=(hdw _).2 (by simpa using h);rw [this];rfl
theorem Vzv (l:List UInt8) (h:l.length < 1000000):Zld l [48,49,50,51,52,53,54,55,56,57]=some ((),Lib.trimS l [48,49,50,51,52,53,54,55,56,57],()):=by
 unfold Zld;have h1:l.length<=9223372036854775807:=by omega
 simp only [h1,decide_true,Qd];rfl
def lastL (l:List (List UInt8)):List UInt8:=l.getD (l.length - 1) []
def vali (s:List UInt8):Int:=bif decide (100 < s.length) then 8 else bif (spl 46 s).all lab then (bif (lastL (spl 46 s)).all isDig then 2 else 0) else 2
theorem Vgu (c:UInt8):∀ s:List UInt8,(spl c s).length<=s.length+1/\∀ x∈spl c s,x.length<=s.length
 | []=>by simp [spl]
 | x::r=>by
  obtain ⟨h1,h2⟩:=Vgu c r;unfold spl;split
  ·refine ⟨by simp; omega,?_⟩;intro y hy;rcases List.mem_cons.1 hy with rfl | hy
   ·simp
   ·have:=h2 y hy; simp; omega
  ·split
   ·simp
   ·rename_i p ps e;rw [e] at h1 h2;refine ⟨by simp at h1 |-; omega,?_⟩;intro y hy;rcases List.mem_cons.1 hy with rfl | hy
    ·have:=h2 p (by simp); simp; omega
    ·have:=h2 y (by simp [hy]); simp; omega
theorem Vey (l:List (List UInt8)) (h:l≠[]):l[l.length - 1]? = some (lastL l):=by
 have:l.length - 1 < l.length:=by have:=List.length_pos_iff.2 h; omega
 simp [lastL,this]
theorem Vbt (s:List UInt8):Zke s=some ((),vali s,()):=by
 unfold Zke vali;by_cases h:100 < s.length
 ·rw [show decide ((100:Int) < (s.length:Int))=true by simp; omega];simp [h]
 ·rw [show decide ((100:Int) < (s.length:Int))=false by simp; omega,Vm2 s (by omega)];simp only [h,decide_false,cond_false,bindS];obtain ⟨hl1,hl2⟩:=Vgu 46 s;have hne:=Vxs 46 s;generalize spl 46 s=L at *;unfold Zke_L0 Yi4;rw [Vam (λi (_:Unit)=>(L,L,(L.length:Int),i,())) L (λi x _=>bif lab x then .inl () else .inr (.inl (2,()))) (λ_=>.inr (L,())) (λ_ _=>True) ?_ ?_ () trivial rounds (by rw [Vab]; omega)]
  ·rw [Vbb (λ_ x=>lab x),Vdd];simp only [bindS];cases L.all lab
   ·rfl
   ·simp only [cond_true,Qy];have hp:=List.length_pos_iff.2 hne;rw [Vbl (by omega) (by omega)];have:getI L ((L.length:Int) - 1)=some (lastL L):=by
     unfold getI;rw [show decide ((0:Int)<=(L.length:Int) - 1)=true by simp; omega,show ((L.length:Int) - 1).toNat=L.length - 1 by omega];exact Vey L hne
    rw [this];simp only [bindS];have hm:lastL L∈L:=Qr (Vey L hne);rw [Vzv _ (by have:=hl2 _ hm; omega)];simp only [bindS];rw [show decide (Lib.trimS (lastL L) [48,49,50,51,52,53,54,55,56,57]=[])=(lastL L).all isDig by rw [Qj,decide_eq_true_eq]; exact Vv5 _];cases (lastL L).all isDig<;>rfl
  ·intro i x a hx _;obtain ⟨hi,hx'⟩:=List.getElem?_eq_some_iff.1 hx;refine ⟨?_,λ_ _=>trivial⟩;simp only [Zke_L0b];have hg:getI L (i:Int)=some x:=by simp [getI,hx]
   rw [hg,show decide ((i:Int) < (L.length:Int))=true by simp; omega,wI ((i:Int)+1) (by omega)];simp only [cond_true,bindS,Vew];cases lab x<;>rfl
  ·intro a _;simp only [Zke_L0b];simp
theorem Vbn (s:List UInt8):Zcn s=some ((),vali s,()):=by
 unfold Zcn vali;by_cases h:100 < s.length
 ·rw [show decide ((100:Int) < (s.length:Int))=true by simp; omega];simp [h]
 ·rw [show decide ((100:Int) < (s.length:Int))=false by simp; omega,Vex s 46 (by omega)];simp only [h,decide_false,cond_false,bindS];obtain ⟨hl1,hl2⟩:=Vgu 46 s;have hne:=Vxs 46 s;generalize spl 46 s=L at *;unfold Zcn_L0 Yi2;rw [Vam (λi (_:Unit)=>(L,i,())) L (λi x _=>bif lab x then .inl () else .inr (.inl (2,()))) (λ_=>.inr (L,())) (λ_ _=>True) ?_ ?_ () trivial rounds (by rw [Vab]; omega)]
  ·rw [Vbb (λ_ x=>lab x),Vdd];simp only [bindS];cases L.all lab
   ·rfl
   ·simp only [cond_true,Qy];have hp:=List.length_pos_iff.2 hne;rw [Vbl (by omega) (by omega)];rw [show (decide ((0:Int)<=(L.length:Int) - 1)&&decide ((L.length:Int) - 1 < (L.length:Int)))=true by simp; omega,show ((L.length:Int) - 1).toNat=L.length - 1 by omega,Vey L hne];simp only [cond_true,bindS];have hm:lastL L∈L:=Qr (Vey L hne);have hml:=hl2 _ hm;generalize lastL L=x at *;unfold Zcn_L2 Yi2;rw [Vam (λi (_:Unit)=>(x,i,())) x (λi y _=>bif isDig y then .inl () else .inr (.inl (0,()))) (λ_=>.inr ()) (λ_ _=>True) ?_ ?_ () trivial rounds (by rw [Vab]; omega)]
    ·rw [Vbb (λ_ x=>isDig x),Vdd];cases x.all isDig<;>rfl
    ·intro i y a hx _;obtain ⟨hi,hx'⟩:=List.getElem?_eq_some_iff.1 hx;refine ⟨?_,λ_ _=>trivial⟩;simp only [Zcn_L2b];have hg:getI x (i:Int)=some y:=by simp [getI,hx]
     rw [hg,show decide ((i:Int) < (x.length:Int))=true by simp; omega,wI ((i:Int)+1) (by omega)];simp only [cond_true,bindS,Vi4];cases isDig y<;>rfl
    ·intro a _;simp only [Zcn_L2b];simp
  ·intro i x a hx _;obtain ⟨hi,hx'⟩:=List.getElem?_eq_some_iff.1 hx;refine ⟨?_,λ_ _=>trivial⟩;simp only [Zcn_L0b];rw [show (decide ((0:Int)<=(i:Int))&&decide ((i:Int) < (L.length:Int)))=true by simp; omega,show decide ((i:Int) < (L.length:Int))=true by simp; omega,wI ((i:Int)+1) (by omega),show ((i:Int)).toNat=i by omega,hx];simp only [cond_true,bindS,Vm1];cases lab x<;>rfl
  ·intro a _;simp only [Zcn_L0b];simp
def labs (s:List UInt8):List (List UInt8):=bif decide (vali s=0) then spl 46 s else []
theorem Vb0 {s:List UInt8} (h:vali s=0):s.length<=100:=by
 unfold vali at h;by_cases h1:100 < s.length
 ·simp [h1] at h
 ·omega
theorem Vgv (s:List UInt8):Zlp s=some ((),labs s,()):=by
 unfold Zlp labs;rw [Vbt];simp only [bindS];by_cases h:vali s=0
 ·have:=Vb0 h;simp only [h,decide_true,Qc,cond_false,cond_true];rw [Vm2 s (by omega)];rfl
 ·simp [h]
theorem Vie (s:List UInt8):Zef s=some ((),labs s,()):=by
 unfold Zef labs;rw [Vbn];simp only [bindS];by_cases h:vali s=0
 ·have:=Vb0 h;simp only [h,decide_true,Qc,cond_false,cond_true];rw [Vex s 46 (by omega)];rfl
 ·simp [h]
def joinD (l:List (List UInt8)):List UInt8:=Lib.join l [46]
theorem Vdn:joinD []=[]:=rfl
theorem Vdo (x:List UInt8):joinD [x]=x:=Lib.join_one x [46]
theorem Vcx (x y:List UInt8) (r:List (List UInt8)):joinD (x::y::r)=x++46::joinD (y::r):=by
 unfold joinD;rw [Lib.join_cons,Lib.join_cons];simp [Lib.joinTail,Q3]
theorem Vi5 (B:Nat):∀ l:List (List UInt8),(∀ x∈l,x.length<=B)->(joinD l).length<=l.length * (B+1)
 | [],_=>by simp [Vdn]
 | [x],h=>by
  rw [Vdo];have:=h x (by simp);simp; omega
 | x::y::r,h=>by
  rw [Vcx];have h1:=h x (by simp);have h2:=Vi5 B (y::r) (λz hz=>h z (by simp only [Qk] at hz |-; exact .inr hz));simp only [Qs,Qw] at h2 |-;rw [Nat.add_mul (r.length+1) 1];omega
theorem Vm3:∀ l:List (List UInt8),(∀ x∈l,1<=x.length)->2 * l.length<=(joinD l).length+1
 | [],_=>by simp [Vdn]
 | [x],h=>by
  rw [Vdo];have:=h x (by simp);simp; omega
 | x::y::r,h=>by
  rw [Vcx];have h1:=h x (by simp);have h2:=Vm3 (y::r) (λz hz=>h z (by simp only [Qk] at hz |-; exact .inr hz));simp only [Qs,Qw] at h2 |-;omega
theorem Vif:∀ (l:List (List UInt8)) (x:List UInt8),l≠[]->joinD (l++[x])=joinD l++([46]++x)
 | [],_,h=>absurd rfl h
 | [y],x,_=>by rw [Qaf,Vcx,Vdo,Vdo]; rfl
 | y::z::r,x,_=>by
  rw [Qq,Qq,Vcx,<- Qq,Vif (z::r) x (by simp),Vcx];simp
theorem Vzw (l:List (List UInt8)) (h1:l.length<=1000) (h2:∀ x∈l,x.length<=1000):Zlc l [46]=some ((),joinD l,()):=by
 unfold Zlc;have:=Vi5 1000 l h2;have h3:(Lib.join l [46]).length<=140737488355328:=by
  show (joinD l).length<=_;have:l.length * 1001<=1000 * 1001:=Qak _ h1;omega
 have h4:l.length<=140737488355328:=by omega
 simp only [h3,h4,decide_true,Q0,cond_true];rfl
theorem Vcd {a b:Nat} (h:a<=b):Nat.ble a b=true:=Eq.mpr Nat.ble_eq h
theorem Vv6 (l:List (List UInt8)) (h1:l.length<=1000000) (h2:∀ x∈l,x.length<=1000):Zgz l=some ((),joinD l,()):=by
 unfold Zgz;have:Ok (Zgz_L0 (l,[],0,())) λz=>z.1=joinD l:=by
  unfold Zgz_L0 Yi3;refine Ok.iter (λq=>q.1=l/\0<=q.2.2.1/\q.2.2.1<=(l.length:Int)/\q.2.1=joinD (l.take q.2.2.1.toNat)) (λq=>l.length - q.2.2.1.toNat) ⟨rfl,by simp,by simp,by simp [Vdn]⟩ (by rw [Vab]; dsimp only; omega) ?_;rintro ⟨y0,y1,i,u⟩ ⟨e1,e2,e3,e4⟩;dsimp only at *;subst e1; subst e4;simp only [Zgz_L0b];by_cases hi:i < (y0.length:Int)
  ·have hlt:i.toNat < y0.length:=by omega
   rw [Vb3 e2 hi,wI (i+1) (by omega)];simp only [hi,decide_true,cond_true,bindS];have hx:ati y0 i=y0[i.toNat]:=by simp [ati,hlt]
   have hxl:=h2 _ (Q6 hlt);rw [<- hx] at hxl;have hjl:(joinD (y0.take i.toNat)).length<=1000000 * 1001:=by
    have q1:=Vi5 1000 (y0.take i.toNat) (λx hx=>h2 x (Qah hx));have q2:(y0.take i.toNat).length * (1000+1)<=1000000 * 1001:=Qak _ (by rw [Qf]; omega);omega
   have et:y0.take (i+1).toNat=y0.take i.toNat++[ati y0 i]:=by
    rw [show (i+1).toNat=i.toNat+1 by omega,Q1 hlt,hx]
   by_cases h0:0 < i
   ·rw [show decide (0 < i)=true by simpa using h0];simp only [cond_true];rw [Vcd (by simp; omega),Vcd (by simp; omega)];refine Ok.some ?_;dsimp only;refine ⟨⟨rfl,by omega,by omega,?_⟩,by omega⟩;rw [et,Vif]
    ·simp
    ·intro h;have:=congrArg List.length h;rw [Qf,Qas] at this;omega
   ·have:i=0:=by omega
    subst this;rw [show decide ((0:Int) < 0)=false by simp];simp only [cond_false];rw [Vcd (by simp only [Int.toNat_zero,Qau,Vdn,Qas]; omega)];refine Ok.some ?_;dsimp only;refine ⟨⟨rfl,by omega,by omega,?_⟩,by omega⟩;rw [et];simp [Vdn,Vdo]
  ·simp only [hi,decide_false,cond_false];refine Ok.some ?_;dsimp only;rw [show i.toNat=y0.length by omega,Qao]
 obtain ⟨z,hz,hq⟩:=this;rw [hz];simp only [bindS,hq]
def fok (s:Jc):Bool:=s.jd.all lab&&(decide (vali (joinD s.jd)=0)&&(!(s.jaj&&s.jv)&&!(s.jv&&decide (s.jd.length < 2))))
def ftext (s:Jc):List UInt8:=(bif s.jaj then [42,46] else bif s.jv then [33] else [])++joinD s.jd
def fmt (s:Jc):List UInt8×Int:=bif fok s then (ftext s,0) else ([],4)
theorem Vl3 {x:List UInt8} (h:lab x=true):1<=x.length/\x.length<=63:=by
 unfold lab at h;simp only [Qg,decide_eq_true_eq] at h;exact h.1
theorem Vpw {s:Jc} (h:fok s=true):s.jd.length<=50:=by
 unfold fok at h;simp only [Qg,decide_eq_true_eq,Qaq] at h;have h1:=Vb0 h.2.1;have h2:=Vm3 s.jd λx hx=>(Vl3 (h.1 x hx)).1;omega
theorem Vf6 (s:Jc) (hl:s.jd.length<=100):Zjc_L0 ((s,()),s.jd,(s.jd.length:Int),0,())=some (bif s.jd.all lab then .inr ((s,()),()) else .inl ([],4,())):=by
 unfold Zjc_L0 Yi4;rw [Vam (λi (_:Unit)=>((s,()),s.jd,(s.jd.length:Int),i,())) s.jd (λi x _=>bif lab x then .inl () else .inr (.inl ([],4,()))) (λ_=>.inr ((s,()),())) (λ_ _=>True) ?_ ?_ () trivial rounds (by rw [Vab]; omega)]
 ·rw [Vbb (λ_ x=>lab x),Vdd]
 ·intro i x a hx _;obtain ⟨hi,hx'⟩:=List.getElem?_eq_some_iff.1 hx;refine ⟨?_,λ_ _=>trivial⟩;simp only [Zjc_L0b];have hg:getI s.jd (i:Int)=some x:=by simp [getI,hx]
  rw [hg,show decide ((i:Int) < (s.jd.length:Int))=true by simp; omega,wI ((i:Int)+1) (by omega)];simp only [cond_true,bindS,Vew];cases lab x<;>rfl
 ·intro a _;simp only [Zjc_L0b];simp
theorem Vez (s:Jc):Zjc s=some ((),(fmt s).1,(fmt s).2,()):=by
 by_cases hl:s.jd.length<=100
 ·unfold Zjc fmt fok;rw [show decide ((100:Int) < (s.jd.length:Int))=false by simp; omega,Vf6 s hl];cases ha:s.jd.all lab
  ·cases hw:s.jaj<;>cases he:s.jv<;>by_cases h2:s.jd.length < 2<;>simp [h2]<;>rfl
  ·have hb:∀ x∈s.jd,x.length<=1000:=λx hx=>by
    have:=Vl3 (List.all_eq_true.1 ha x hx); omega
   have e2:decide ((s.jd.length:Int) < 2)=decide (s.jd.length < 2):=by rw [decide_eq_decide]; omega
   simp only [cond_true,cond_false,bindS,Qy,Qd,e2];rw [Vzw _ (by omega) hb];simp only [bindS,Vbt,ftext];by_cases hv:vali (joinD s.jd)=0
   ·have hvl:=Vb0 hv;simp only [hv,decide_true,Qc,cond_false,Qd];rw [Vcd (show ([42,46]:List UInt8).length+(joinD s.jd).length<=9223372036854775807 by simp; omega),Vcd (show ([33]:List UInt8).length+(joinD s.jd).length<=9223372036854775807 by simp; omega)];generalize decide (s.jd.length < 2)=q;cases s.jaj<;>cases s.jv<;>cases q<;>rfl
   ·simp only [hv,decide_false,Qn,cond_true,Qav,cond_false];generalize decide (s.jd.length < 2)=q;cases s.jaj<;>cases s.jv<;>cases q<;>rfl
 ·have:fok s=false:=by
   cases h:fok s
   ·rfl
   ·have:=Vpw h; omega
  unfold Zjc fmt;rw [this,show decide ((100:Int) < (s.jd.length:Int))=true by simp; omega];rfl
theorem Vfj (s:Jc) (hl:s.jd.length<=1000000):Zbl_L0 ((s,()),0,())=some (bif s.jd.all lab then .inr ((s,()),()) else .inl ([],4,())):=by
 unfold Zbl_L0 Yi2;rw [Vam (λi (_:Unit)=>((s,()),i,())) s.jd (λi x _=>bif lab x then .inl () else .inr (.inl ([],4,()))) (λ_=>.inr ((s,()),())) (λ_ _=>True) ?_ ?_ () trivial rounds (by rw [Vab]; omega)]
 ·rw [Vbb (λ_ x=>lab x),Vdd]
 ·intro i x a hx _;obtain ⟨hi,hx'⟩:=List.getElem?_eq_some_iff.1 hx;refine ⟨?_,λ_ _=>trivial⟩;simp only [Zbl_L0b];have hg:getI s.jd (i:Int)=some x:=by simp [getI,hx]
  rw [hg,show decide ((i:Int) < (s.jd.length:Int))=true by simp; omega,wI ((i:Int)+1) (by omega)];simp only [cond_true,bindS,Vm1];cases lab x<;>rfl
 ·intro a _;simp only [Zbl_L0b];simp
theorem Vej (s:Jc) (hl:s.jd.length<=1000000):Zbl s=some ((),(fmt s).1,(fmt s).2,()):=by
 unfold Zbl fmt fok;rw [Vfj s hl];cases ha:s.jd.all lab
 ·rfl
 ·have hb:∀ x∈s.jd,x.length<=1000:=λx hx=>by
   have:=Vl3 (List.all_eq_true.1 ha x hx); omega
  have e2:decide ((s.jd.length:Int) < 2)=decide (s.jd.length < 2):=by rw [decide_eq_decide]; omega
  simp only [cond_true,cond_false,bindS,Qy,Qd,e2];rw [Vv6 _ hl hb];simp only [bindS,Vbn,ftext];by_cases hv:vali (joinD s.jd)=0
  ·have hvl:=Vb0 hv;simp only [hv,decide_true,Qc,cond_false,Qd];rw [Vcd (show ([42,46]:List UInt8).length+(joinD s.jd).length<=9223372036854775807 by simp; omega),Vcd (show ([33]:List UInt8).length+(joinD s.jd).length<=9223372036854775807 by simp; omega)];generalize decide (s.jd.length < 2)=q;cases s.jaj<;>cases s.jv<;>cases q<;>rfl
  ·simp only [hv,decide_false,Qn,cond_true,Qav,cond_false]
def endsL (L M:List (List UInt8)):Bool:=decide (M.length<=L.length)&&decide (L.drop (L.length - M.length)=M)
theorem Vbna (a b:List (List UInt8)) (hb:b.length < 1000000):Zai a b=some ((),decide (a=b),()):=by
 unfold Zai;by_cases h:a.length=b.length
 ·rw [show (!decide ((a.length:Int)=(b.length:Int)))=false by simp; omega];simp only [cond_false];unfold Zai_L0 Yi4;rw [Vam (λi (_:Unit)=>(a,b,(a.length:Int),i,())) a (λi x _=>bif decide (b[i]? = some x) then .inl () else .inr (.inl (false,()))) (λ_=>.inr ()) (λ_ _=>True) ?_ ?_ () trivial rounds (by rw [Vab]; omega)]
  ·rw [Vbb (λi x=>decide (b[i]? = some x))];have e:allI (λi x=>decide (b[i]? = some x)) 0 a=decide (a=b):=by
    rw [Qj,Vfe,decide_eq_true_eq];simp only [Q5,decide_eq_true_eq];constructor
    ·intro hp;apply Q2;intro i;by_cases hi:i < a.length
     ·rw [hp i a[i] (by simp [hi])]; simp [hi]
     ·rw [Qi (by omega),Qi (by omega)]
    ·rintro rfl i x hx;exact hx
   rw [e];cases decide (a=b)<;>rfl
  ·intro i x _ hx _;obtain ⟨hi,hx'⟩:=List.getElem?_eq_some_iff.1 hx;refine ⟨?_,λ_ _=>trivial⟩;simp only [Zai_L0b];have hg:getI a (i:Int)=some x:=by simp [getI,hx]
   have hg2:getI b (i:Int)=some b[i]:=by simp [getI]
   rw [hg,hg2,show decide ((i:Int) < (a.length:Int))=true by simp; omega,wI ((i:Int)+1) (by omega)];simp only [cond_true,bindS];have:decide (b[i]? = some x)=decide (x=b[i]):=by
    rw [decide_eq_decide,Qa (by omega),Qm];exact eq_comm
   rw [this];cases decide (x=b[i])<;>rfl
  ·intro _ _;simp only [Zai_L0b];simp
 ·rw [show (!decide ((a.length:Int)=(b.length:Int)))=true by simp; omega];have:¬ a=b:=λe=>h (by rw [e]);simp [this]
theorem Vpx (L M:List (List UInt8)) (hL:L.length < 1000000):Zmi L M=some ((),endsL L M,()):=by
 unfold Zmi endsL;by_cases h:M.length<=L.length
 ·rw [show decide ((M.length:Int)<=(L.length:Int))=true by simp; omega];simp only [cond_true];rw [wI ((L.length:Int) - (M.length:Int)) (by omega),show (decide ((0:Int)<=(L.length:Int) - (M.length:Int))&&decide ((L.length:Int) - (M.length:Int)<=(L.length:Int)))=true by simp; omega,show ((L.length:Int) - (M.length:Int)).toNat=L.length - M.length by omega];simp only [cond_true];rw [Vbna _ _ (by omega)];simp [h]
 ·rw [show decide ((M.length:Int)<=(L.length:Int))=false by simp; omega];simp [h]
theorem Vm4 (L M:List (List UInt8)) (hL:L.length < 1000000):Zgy L M=some ((),endsL L M,()):=by
 unfold Zgy endsL;by_cases h:M.length<=L.length
 ·rw [show decide ((L.length:Int) < (M.length:Int))=false by simp; omega];simp only [cond_false];unfold Zgy_L0 Yi3;rw [Vam (λi (_:Unit)=>(L,M,i,())) M (λi x _=>bif decide (L[L.length - M.length+i]? = some x) then .inl () else .inr (.inl (false,()))) (λ_=>.inr ()) (λ_ _=>True) ?_ ?_ () trivial rounds (by rw [Vab]; omega)]
  ·rw [Vbb (λi x=>decide (L[L.length - M.length+i]? = some x))];have e:allI (λi x=>decide (L[L.length - M.length+i]? = some x)) 0 M=decide (L.drop (L.length - M.length)=M):=by
    rw [Qj,Vfe,decide_eq_true_eq];simp only [Q5,decide_eq_true_eq];constructor
    ·intro hp;apply Q2;intro i;rw [Qan];by_cases hi:i < M.length
     ·rw [hp i M[i] (by simp [hi])]; simp [hi]
     ·rw [Qi (by omega),Qi (by omega)]
    ·intro e i x hx;rw [<- Qan,e];exact hx
   rw [e];simp only [h,decide_true,Qd];cases decide (L.drop (L.length - M.length)=M)<;>rfl
  ·intro i x _ hx _;obtain ⟨hi,hx'⟩:=List.getElem?_eq_some_iff.1 hx;refine ⟨?_,λ_ _=>trivial⟩;simp only [Zgy_L0b];have hg:getI M (i:Int)=some x:=by simp [getI,hx]
   have hlt:L.length - M.length+i < L.length:=by omega
   have hg2:getI L ((L.length:Int) - (M.length:Int)+(i:Int))=some L[L.length - M.length+i]:=by
    unfold getI;rw [show decide ((0:Int)<=(L.length:Int) - (M.length:Int)+(i:Int))=true by simp; omega,show ((L.length:Int) - (M.length:Int)+(i:Int)).toNat=L.length - M.length+i by omega];simp only [cond_true];rw [Qa hlt]
   rw [wI ((L.length:Int) - (M.length:Int)) (by omega),wI ((L.length:Int) - (M.length:Int)+(i:Int)) (by omega),hg,hg2,show decide ((i:Int) < (M.length:Int))=true by simp; omega,wI ((i:Int)+1) (by omega)];simp only [cond_true,bindS];have:decide (L[L.length - M.length+i]? = some x)=decide (L[L.length - M.length+i]=x):=by
    rw [decide_eq_decide,Qa hlt,Qm]
   rw [this];cases decide (L[L.length - M.length+i]=x)<;>rfl
  ·intro _ _;simp only [Zgy_L0b];simp
 ·rw [show decide ((L.length:Int) < (M.length:Int))=true by simp; omega];simp [h]
def mat (s:Jc) (L:List (List UInt8)):Bool:=fok s&&(endsL L s.jd&&(!s.jaj||decide (s.jd.length < L.length)))
theorem Vxt (s:Jc):decide ((fmt s).2=0)=fok s:=by
 unfold fmt;cases fok s<;>rfl
theorem Vok (s:Jc) (L:List (List UInt8)) (hL:L.length < 1000000):Zku s L=some ((),mat s L,()):=by
 unfold Zku mat
 rw [Vez];simp only [bindS,Vxt];rw [Vpx _ _ hL];simp only [bindS];have e:decide ((s.jd.length:Int) < (L.length:Int))=decide (s.jd.length < L.length):=by rw [decide_eq_decide]; omega
 rw [e];cases fok s<;>cases endsL L s.jd<;>cases s.jaj<;>simp
theorem Vpy {s:Jc} {L:List (List UInt8)} (h:mat s L=true):s.jd.length<=L.length/\(s.jaj=true->s.jd.length < L.length)/\(s.jaj&&s.jv)=false/\(s.jv=true->2<=s.jd.length):=by
 unfold mat fok endsL at h;simp only [Qg,Q8,Q4,decide_eq_true_eq] at h;refine ⟨h.2.1.1,λhw=>?_,h.1.2.2.1,λhe=>?_⟩
 ·rcases h.2.2 with q | q
  ·rw [hw] at q; cases q
  ·exact q
 ·have:=h.1.2.2.2;rw [he] at this;simpa using this
def imax (a b:Int):Int:=bif decide (a < b) then b else a
def pubStep (L:List (List UInt8)) (p:Int×Int) (s:Jc):Int×Int:=
 bif mat s L then (bif s.jv then (p.1,imax p.2 s.jd.length) else (imax p.1 (s.jd.length+(bif s.jaj then 1 else 0)),p.2)) else p
def pub2 (L:List (List UInt8)) (l:List Jc):Int×Int:=(l.take 64).foldl (pubStep L) (1,0)
def pub (l:List Jc) (s:List UInt8):Int:=bif decide (labs s=[]) then 0 else bif decide (0 < (pub2 (labs s) l).2) then (pub2 (labs s) l).2 - 1 else (pub2 (labs s) l).1
theorem Vi6 (s:List UInt8):(labs s).length<=101/\∀ x∈labs s,x.length<=100:=by
 unfold labs;by_cases h:vali s=0
 ·have h1:=Vb0 h;obtain ⟨h2,h3⟩:=Vgu 46 s;simp only [h,decide_true,cond_true];exact ⟨by omega,λx hx=>by have:=h3 x hx; omega⟩
 ·simp [h]
theorem Vpz {a b B:Int} (h1:a<=B) (h2:b<=B):imax a b<=B:=by
 unfold imax;cases decide (a < b)
 ·exact h1
 ·exact h2
theorem Vm5 (a b:Int):a<=imax a b:=by
 unfold imax;by_cases h:a < b<;>simp [h];omega
theorem Vd7 {L:List (List UInt8)} (hL:1<=L.length) {p:Int×Int} (s:Jc) (h:1<=p.1/\p.1<=L.length/\0<=p.2/\p.2<=L.length):1<=(pubStep L p s).1/\(pubStep L p s).1<=L.length/\0<=(pubStep L p s).2/\(pubStep L p s).2<=L.length:=by
 unfold pubStep;cases hm:mat s L
 ·exact h
 ·obtain ⟨m1,m2,m3,m4⟩:=Vpy hm;cases he:s.jv
  ·simp only [cond_true,cond_false];refine ⟨Int.le_trans h.1 (Vm5 _ _),Vpz h.2.1 ?_,h.2.2.1,h.2.2.2⟩;cases hw:s.jaj
   ·simp; omega
   ·have:=m2 hw;simp; omega
  ·simp only [cond_true,cond_false];exact ⟨h.1,h.2.1,Int.le_trans h.2.2.1 (Vm5 _ _),Vpz h.2.2.2 (by omega)⟩
theorem Vgw {α β:Type} {f:α->β->α} {P:α->Prop} (h:∀ a b,P a->P (f a b)):∀ (l:List β) (a:α),P a->P (l.foldl f a)
 | [],_,ha=>ha
 | x::r,a,ha=>Vgw h r (f a x) (h a x ha)
theorem len0' {α:Type} [DecidableEq α] (l:List α):decide ((l.length:Int)=0)=decide (l=[]):=by rw [decide_eq_decide]; rw [<- List.length_eq_zero_iff]; omega
theorem Vp0 (l:List Jc) (s:List UInt8):Zlq l s=some ((),pub l s,()):=by
 unfold Zlq pub;rw [Vgv];simp only [bindS,len0'];by_cases h:labs s=[]
 ·simp [h]
 ·have hp := List.length_pos_iff.2 h;have hLl:=(Vi6 s).1;simp only [h,decide_false,cond_false];generalize labs s=L at *;have e64:(bif decide ((64:Int) < (l.length:Int)) then (64:Int) else (l.length:Int))=((min 64 l.length:Nat):Int):=by
   by_cases h64:64 < l.length
   ·rw [show decide ((64:Int) < (l.length:Int))=true by simp; omega]; simp; omega
   ·rw [show decide ((64:Int) < (l.length:Int))=false by simp; omega]; simp; omega
  rw [e64,show (decide ((0:Int)<=((min 64 l.length:Nat):Int))&&decide (((min 64 l.length:Nat):Int)<=(l.length:Int)))=true by simp; omega];simp only [cond_true];have et:Qo ((min 64 l.length:Nat):Int).toNat l=l.take 64:=by
   rw [Qh,List.take_eq_take_iff]; omega
  rw [et];have hl64:(l.take 64).length<=64:=by rw [Qf]; omega
  unfold pub2;generalize l.take 64=l' at *;unfold Zlq_L0 Yi6;rw [Vam (λi (p:Int×Int)=>(L,p.1,p.2,l',(l'.length:Int),i,())) l' (λ_ x p=>.inl (pubStep L p x)) (λp=>(p.1,p.2,())) (λ_ p=>1<=p.1/\p.1<=L.length/\0<=p.2/\p.2<=L.length) ?_ ?_ (1,0) ⟨by simp,by simp; omega,by simp,by simp⟩ rounds (by rw [Vab]; omega)]
  ·rw [Vh5 (pubStep L)];have:=Vgw (P:=λp:Int×Int=>1<=p.1/\p.1<=L.length/\0<=p.2/\p.2<=L.length) (λa b h=>Vd7 hp b h) l' (1,0) ⟨by simp,by simp; omega,by simp,by simp⟩;simp only [bindS];generalize l'.foldl (pubStep L) (1,0)=q at *;rw [Vbl (by omega) (by omega)];cases decide (0 < q.2)<;>rfl
  ·rintro i x ⟨p1,p2⟩ hx hI;obtain ⟨hi,hx'⟩:=List.getElem?_eq_some_iff.1 hx;refine ⟨?_,λa' ha=>by cases ha; exact Vd7 hp x hI⟩;simp only [Zlq_L0b];have hg:getI l' (i:Int)=some x:=by simp [getI,hx]
   rw [hg,show decide ((i:Int) < (l'.length:Int))=true by simp; omega,wI ((i:Int)+1) (by omega)];simp only [cond_true,bindS];rw [Vok x L (by omega)];simp only [bindS,pubStep,Q7];cases hm:mat x L
   ·rfl
   ·obtain ⟨m1,m2,m3,m4⟩:=Vpy hm;cases he:x.jv
    ·cases hw:x.jaj
     ·simp [imax]
     ·rw [wI ((x.jd.length:Int)+1) (by omega)];simp [imax]
    ·rfl
  ·rintro ⟨p1,p2⟩ _;simp only [Zlq_L0b];simp
theorem Vol (l:List Jc) (s:List UInt8) (hr:∀ x∈l,x.jd.length<=1000000):Zeg l s=some ((),pub l s,()):=by
 unfold Zeg pub;rw [Vie];simp only [bindS,len0'];by_cases h:labs s=[]
 ·simp [h]
 ·have hp := List.length_pos_iff.2 h;have hLl:=(Vi6 s).1;simp only [h,decide_false,cond_false];generalize labs s=L at *;have hl64:(l.take 64).length<=64:=by rw [Qf]; omega
  unfold pub2;unfold Zeg_L0 Yi5;rw [Vam (λi (p:Int×Int)=>(l,L,p.1,p.2,i,())) (l.take 64) (λ_ x p=>.inl (pubStep L p x)) (λp=>(p.1,p.2,())) (λ_ p=>1<=p.1/\p.1<=L.length/\0<=p.2/\p.2<=L.length) ?_ ?_ (1,0) ⟨by simp,by simp; omega,by simp,by simp⟩ rounds (by rw [Vab]; omega)]
  ·rw [Vh5 (pubStep L)];have:=Vgw (P:=λp:Int×Int=>1<=p.1/\p.1<=L.length/\0<=p.2/\p.2<=L.length) (λa b h=>Vd7 hp b h) (l.take 64) (1,0) ⟨by simp,by simp; omega,by simp,by simp⟩;simp only [bindS];generalize (l.take 64).foldl (pubStep L) (1,0)=q at *;rw [Vbl (by omega) (by omega)];cases decide (0 < q.2)<;>rfl
  ·rintro i x ⟨p1,p2⟩ hx hI;obtain ⟨hi,hx'⟩:=List.getElem?_eq_some_iff.1 hx;have hi2:i < 64/\i < l.length:=by rw [Qf] at hi; omega
   have hxl:l[i]? = some x:=by rw [<- hx,List.getElem?_take_of_lt hi2.1]
   refine ⟨?_,λa' ha=>by cases ha; exact Vd7 hp x hI⟩;simp only [Zeg_L0b];have hg:getI l (i:Int)=some x:=by simp [getI,hxl]
   rw [hg,show decide ((i:Int) < (l.length:Int))=true by simp; omega,show decide ((i:Int) < 64)=true by simp; omega,wI ((i:Int)+1) (by omega)];simp only [cond_true,bindS];have hwr:Ql .i64 ((i:Int)+1)=(i:Int)+1:=Vbl (by omega) (by omega);rw [Vej x (hr x (Qr hxl)),Vm4 L x.jd (by omega)];simp only [bindS,pubStep,Q7,Vxt];cases hf:fok x
   ·have:mat x L=false:=by simp [mat,hf]
    rw [this];rfl
   ·have h50:=Vpw hf;cases hq:endsL L x.jd
    ·have:mat x L=false:=by simp [mat,hq]
     rw [this];rfl
    ·have hle:x.jd.length<=L.length:=by
      unfold endsL at hq;simp only [Qg,decide_eq_true_eq] at hq;exact hq.1
     cases hw:x.jaj
     ·have:mat x L=true:=by simp [mat,hf,hq,hw]
      rw [this];cases he:x.jv<;>simp [imax,hw,he,hwr]
     ·have hex:x.jv=false:=by
       have:(x.jaj&&x.jv)=false:=by
        unfold fok at hf;simp only [Qg,Q4] at hf;exact hf.2.2.1
       rw [hw] at this;simpa using this
      rw [wI ((x.jd.length:Int)+1) (by omega)];by_cases hlt:x.jd.length < L.length
      ·have:mat x L=true:=by simp [mat,hf,hq,hlt]
       rw [this,show decide ((L.length:Int)=(x.jd.length:Int))=false by simp; omega];simp [imax,hw,hex,hwr]
      ·have:mat x L=false:=by simp [mat,hf,hq,hw,hlt]
       rw [this,show decide ((L.length:Int)=(x.jd.length:Int))=true by simp; omega];rfl
  ·rintro ⟨p1,p2⟩ _;simp only [Zeg_L0b];by_cases h64:64 < l.length
   ·rw [show (l.take 64).length=64 by rw [Qf]; omega];simp
   ·rw [show (l.take 64).length=l.length by rw [Qf]; omega];simp
def wthn (a b:List UInt8):Bool:=decide (vali a=0)&&(decide (vali b=0)&&endsL (spl 46 a) (spl 46 b))
theorem Vp1 (a b:List UInt8):Zlr a b=some ((),wthn a b,()):=by
 unfold Zlr wthn;simp only [Vbt,Vgv,bindS];by_cases ha:vali a=0
 ·by_cases hb:vali b=0
  ·have:=(Vi6 a).1;rw [Vpx _ _ (by omega)];simp [ha,hb,labs]
  ·simp [ha,hb]
 ·simp [ha]
theorem Vom (a b:List UInt8):Zeh a b=some ((),wthn a b,()):=by
 unfold Zeh wthn;simp only [Vbn,bindS];by_cases ha:vali a=0
 ·by_cases hb:vali b=0
  ·have h1:=Vb0 ha;have h2:=Vb0 hb;have h3:=(Vgu 46 a).1;rw [Vex a 46 (by omega),Vex b 46 (by omega)];simp only [bindS];rw [Vm4 _ _ (by omega)];simp [ha,hb]
  ·simp [ha,hb]
 ·simp [ha]
theorem Vkg (s p:List UInt8):Zhf s p=some ((),(bif p.isPrefixOf s then s.drop p.length else s),p.isPrefixOf s,()):=by
 unfold Zhf Zct Zcu;by_cases h:p.length<=s.length
 ·rw [show decide ((p.length:Int)<=(s.length:Int))=true by simp; omega];have e:decide (s.take p.length=p)=p.isPrefixOf s:=by
   rw [Qj,decide_eq_true_eq,Qt,Qv];exact eq_comm
  simp only [cond_true,Int.natCast_nonneg,decide_true,Q0,Qh,e,bindS];cases p.isPrefixOf s<;>rfl
 ·rw [show decide ((p.length:Int)<=(s.length:Int))=false by simp; omega];have e:p.isPrefixOf s=false:=by
   cases hq:p.isPrefixOf s
   ·rfl
   ·have:=(List.isPrefixOf_iff_prefix.1 hq).length_le; omega
  rw [e];rfl
theorem Vm6 (v:Int) (m:Nat) (h0:0 < m) (h1:m < 1000000):∃ k:Nat,k < m/\Zjh v (m:Int)=some ((),(k:Int),()):=by
 unfold Zjh;have e:(Qb 64 (m:Int)).toNat=m:=by
  rw [Qac,BitVec.toNat_ofNat,Nat.mod_eq_of_lt (by omega)]
 have hz:decide (Qb 64 (m:Int)=0)=false:=by
  rw [decide_eq_false_iff_not];intro h;rw [h] at e;simp at e;omega
 rw [hz];have hlt:(Qb 64 v % Qb 64 (m:Int)).toNat < m:=by
  rw [BitVec.toNat_umod,e];exact Nat.mod_lt _ h0
 exact ⟨_,hlt,by dsimp only; rw [Vbl (by omega) (by omega)]; rfl⟩
theorem Vzx (n:Int):∃ h,Zhs n=some ((),h,())/\h.length<=30:=by
 obtain ⟨k,hk,e⟩:=Vm6 n 28 (by omega) (by omega);unfold Zhs;rw [show ((28:Nat):Int)=28 from rfl] at e;rw [e];simp only [bindS];rw [show (decide ((0:Int)<=(k:Int))&&decide ((k:Int) < 28))=true by simp; omega];simp only [cond_true,Qh];generalize hL:([[101,120,97,109,112,108,101,46,99,111,109],[108,111,103,105,110,46,101,120,97,109,112,108,101,46,99,111,109],[97,46,98,46,99,111,46,117,107],[98,46,99,111,46,117,107],[99,111,46,117,107],[117,107],[120,46,121,46,99,107],[119,119,119,46,99,107],[99,107],[108,111,99,97,108,104,111,115,116],[101,118,105,108,46,116,101,115,116],[101,120,97,109,112,108,101,46,99,111,109,46,101,118,105,108,46,116,101,115,116],[97,46,108,111,103,105,110,46,101,120,97,109,112,108,101,46,99,111,109],[120,97,109,112,108,101,46,99,111,109],[121,46,99,107],[122,46,120,46,121,46,99,107],[103,105,116,104,117,98,46,105,111],[109,101,46,103,105,116,104,117,98,46,105,111],[121,111,117,46,103,105,116,104,117,98,46,105,111],[105,111],[49,46,50,46,51,46,52],[],[97,46,46,98],[69,120,97,109,112,108,101,46,99,111,109],[45,97,46,99,111,109],[97,46,99,111,109,46],[97,45,98,46,99,49],[99,49]]:List (List UInt8))=L;have hl:L.length=28:=by rw [<- hL]; rfl
 have hb:∀ x∈L,x.length<=30:=by rw [<- hL]; decide
 rw [Qa (by omega)];exact ⟨_,rfl,hb _ (Q6 _)⟩
def all8:List Jc:=[⟨[[99,111,109]],false,false⟩,⟨[[117,107]],false,false⟩,⟨[[99,111],[117,107]],false,false⟩,⟨[[99,107]],true,false⟩,⟨[[119,119,119],[99,107]],false,true⟩,⟨[[103,105,116,104,117,98],[105,111]],false,false⟩,⟨[[116,101,115,116]],false,false⟩,⟨[[98],[99,111],[117,107]],false,true⟩]
def incl (n:Int) (i:Int):Bool:=decide (Ql .i64 ((Qb (Qp .i64) (Qaw n (2 ^ (min (Qb 64 i).toNat (Qp .i64)))) &&& Qb (Qp .i64) (1:Int)).toNat:Int)=0)
theorem Vl4 {n:Nat} (h:n < 10000000):small n 32=true:=by
 unfold small;simp only [decide_eq_true_eq];omega
theorem Vv7 (n:Int):∃ r,Zgg n=some ((),r,())/\r.length<=8/\∀ s∈r,∃ j:Nat,all8[j]? = some s/\incl n j=true:=by
 have:Ok (Zgg_L0 (n,all8,[],0,())) λz=>z.1.length<=8/\∀ s∈z.1,∃ j:Nat,all8[j]? = some s/\incl n j=true:=by
  unfold Zgg_L0 Yi4;refine Ok.iter (λq=>q.1=n/\q.2.1=all8/\0<=q.2.2.2.1/\q.2.2.2.1<=8/\(q.2.2.1.length:Int)<=q.2.2.2.1/\∀ s∈q.2.2.1,∃ j:Nat,all8[j]? = some s/\incl n j=true) (λq=>8 - q.2.2.2.1.toNat) ⟨rfl,rfl,by simp,by simp,by simp,by simp⟩ (by rw [Vab]; dsimp only; omega) ?_;rintro ⟨y0,y1,y2,i,u⟩ ⟨h1,h2,h3,h4,h5,h6⟩;dsimp only at *;subst h1; subst h2;have hl8:all8.length=8:=rfl;simp only [Zgg_L0b];by_cases hi:i < 8
  ·rw [hl8,show decide (i < ((8:Nat):Int))=true by simp; omega,wI (i+1) (by omega)];simp only [cond_true];refine Ok.cond (λhc=>?_) (λhc=>?_)
   ·rw [show (decide ((0:Int)<=i)&&true)=true by simp; omega];have hlt:i.toNat < all8.length:=by omega
    rw [Qa hlt];simp only [cond_true,bindS];rw [Vl4 (by simp; omega)];refine Ok.some ?_;dsimp only;refine ⟨⟨rfl,rfl,by omega,by omega,by simp; omega,?_⟩,by omega⟩;intro s hs;rcases List.mem_append.1 hs with hs | hs
    ·exact h6 s hs
    ·simp only [Qam] at hs;refine ⟨i.toNat,by rw [hs,Qa hlt],?_⟩;rw [show ((i.toNat:Nat):Int)=i by omega];exact hc
   ·refine Ok.some ?_;dsimp only;exact ⟨⟨rfl,rfl,by omega,by omega,by omega,h6⟩,by omega⟩
  ·rw [hl8,show decide (i < ((8:Nat):Int))=false by simp; omega];refine Ok.some ?_;dsimp only;exact ⟨by omega,h6⟩
 obtain ⟨⟨r,u⟩,h1,h2,h3⟩:=this;refine ⟨r,?_,h2,h3⟩;show (Zgg_L0 (n,all8,[],0,())).bind _=_;rw [h1];rfl
theorem Vv8 {s:Jc} {j:Nat} (h:all8[j]? = some s):s.jd.length<=3:=by
 have:∀ x∈all8,x.jd.length<=3:=by decide
 exact this s (Qr h)
def dig (c:UInt8):Nat:=c.toNat - 48
theorem isDig_iff {c:UInt8}:isDig c=true↔48<=c.toNat/\c.toNat<=57:=by
 unfold isDig;simp only [Qg,decide_eq_true_eq];exact Iff.rfl
theorem Vm7 {c:UInt8} (h:isDig c=true):((Q9 (c.toBitVec - (48:UInt8).toBitVec)).toBitVec.toNat:Int)=(dig c:Int)/\dig c<=9:=by
 obtain ⟨h1,h2⟩:=isDig_iff.1 h;refine ⟨?_,by unfold dig; omega⟩;have e:(Q9 (c.toBitVec - (48:UInt8).toBitVec)).toBitVec.toNat=(c - 48).toNat:=rfl;rw [e,UInt8.toNat_sub_of_le _ _ (by rw [UInt8.le_iff_toNat_le]; exact h1)];rfl
def val (l:List UInt8):Nat:=l.foldl (λn c=>10 * n+dig c) 0
def portOf (s:List UInt8):Int×Bool:=bif decide (1<=s.length/\s.length<=5)&&(!decide (s.head? = some 48)&&s.all isDig) then ((val s:Int),decide ((val s:Int)<=65535)) else (0,false)
theorem Vv9 (s:List UInt8) (hl:s.length<=5):Zhr_L0 (s,0,(s.length:Int),0,())=some (bif s.all isDig then .inr ((val s:Int),()) else .inl (0,false,())):=by
 unfold Zhr_L0 Yi4;refine Eq.trans (Vam (f:=λy=>Zhr_L0b y.1 y.2.1 y.2.2.1 y.2.2.2.1) (λi (n:Nat)=>(s,(n:Int),(s.length:Int),i,())) s (λi c n=>bif isDig c then .inl (10 * n+dig c) else .inr (.inl (0,false,()))) (λn=>.inr ((n:Int),())) (λi n=>n+1<=10 ^ i) ?h1 ?h2 0 (by simp) rounds (by rw [Vab]; omega)) ?h0
 case h0=>
  have key:∀ (l:List UInt8) (k n:Nat),scan (λi c n=>bif isDig c then .inl (10 * n+dig c) else .inr (.inl (0,false,()))) (λn=>(.inr ((n:Int),()):(Int×Bool×Unit)⊕(Int×Unit))) k l n=bif l.all isDig then .inr ((l.foldl (λn c=>10 * n+dig c) n:Nat),()) else .inl (0,false,()):=by
   intro l;induction l with
   | nil=>intro k n; rfl
   | cons c r ih=>
    intro k n;unfold scan;rw [Qab,Qat];cases isDig c
    ·rfl
    ·exact ih (k+1) (10 * n+dig c)
  rw [key];rfl
 case h1 =>
  intro i x n hx hn;obtain ⟨hi,hx'⟩:=List.getElem?_eq_some_iff.1 hx;have hp:10 ^ i<=10 ^ 4:=Qaj (by omega) (by omega);have hg:getI s (i:Int)=some x:=by simp [getI,hx]
  refine ⟨?_,λa' ha=>?_⟩
  ·simp only [Zhr_L0b];rw [hg,show decide ((i:Int) < (s.length:Int))=true by simp; omega,wI ((i:Int)+1) (by omega)];simp only [cond_true,bindS];by_cases hd:isDig x=true
   ·obtain ⟨d1,d2⟩:=isDig_iff.1 hd;obtain ⟨e1,e2⟩:=Vm7 hd;have q1:decide (x.toBitVec.toNat < (48:UInt8).toBitVec.toNat)=false:=by rw [decide_eq_false_iff_not]; exact Nat.not_lt.2 d1
    have q2:decide ((57:UInt8).toBitVec.toNat < x.toBitVec.toNat)=false:=by rw [decide_eq_false_iff_not]; exact Nat.not_lt.2 d2
    rw [q1,q2,hd,e1,wI ((10:Int) * (n:Int)) (by omega),wI ((10:Int) * (n:Int)+(dig x:Int)) (by omega)];simp only [cond_false,cond_true,Q7];congr 3
   ·have hd':isDig x=false:=by simpa using hd
    rw [hd'];simp only [cond_false];by_cases q1:x.toBitVec.toNat < (48:UInt8).toBitVec.toNat
    ·simp only [q1,decide_true,cond_true]; rfl
    ·simp only [q1,decide_false,cond_false];have q2:(57:UInt8).toBitVec.toNat < x.toBitVec.toNat:=by
      rcases Nat.lt_or_ge (57:UInt8).toBitVec.toNat x.toBitVec.toNat with h | h
      ·exact h
      ·exact absurd (isDig_iff.2 ⟨Nat.not_lt.1 q1,h⟩) hd
     simp only [q2,decide_true,cond_true]; rfl
  ·by_cases hd:isDig x=true
   ·have e2:=(Vm7 hd).2;rw [hd] at ha;simp only [cond_true,Sum.inl.injEq] at ha;subst ha;rw [Qad];omega
   ·have hd':isDig x=false:=by simpa using hd
    rw [hd'] at ha;cases ha
 case h2=>
  intro n _;simp only [Zhr_L0b];simp
theorem Vxu {s:List UInt8} (h:1<=s.length):∃ c r,s=c::r/\getI s 0=some c/\decide (c.toBitVec=(48:UInt8).toBitVec)=decide (s.head? = some 48):=by
 cases s with
 | nil=>simp at h
 | cons c r=>
  refine ⟨c,r,rfl,rfl,?_⟩;rw [decide_eq_decide,List.head?_cons,Qm];exact Qai
theorem Vkh (s:List UInt8):Zhr s=some ((),(portOf s).1,(portOf s).2,()):=by
 unfold Zhr portOf;by_cases h1:1<=s.length
 ·by_cases h5:s.length<=5
  ·rw [show decide ((s.length:Int) < 1)=false by simp; omega,show decide ((5:Int) < (s.length:Int))=false by simp; omega];simp only [cond_false,h1,h5,and_self,decide_true,Qd];obtain ⟨c,r,hs,hg,hd⟩:=Vxu h1;rw [hg];simp only [bindS,hd];cases decide (s.head? = some 48)
   ·simp only [cond_false,Qn,Qd];rw [Vv9 s h5];cases s.all isDig<;>rfl
   ·rfl
  ·rw [show decide ((s.length:Int) < 1)=false by simp; omega,show decide ((5:Int) < (s.length:Int))=true by simp; omega];simp [h5]
 ·rw [show decide ((s.length:Int) < 1)=true by simp; omega];simp [h1]
def dport (b:Bool):Int:=bif b then 443 else 80
theorem Vek (b:Bool):Zes b=some ((),dport b,()):=by cases b<;>rfl
theorem Vce (b:Bool):Zax b=some ((),dport b,()):=by cases b<;>rfl
theorem Vwa (s:List UInt8) (b:Bool) (hl:s.length<=5):Zha_L0 (s,b,0,0,())=some (bif s.all isDig then .inr (b,(val s:Int),()) else .inl (0,false,())):=by
 unfold Zha_L0 Yi4;refine Eq.trans (Vam (f:=λy=>Zha_L0b y.1 y.2.1 y.2.2.1 y.2.2.2.1) (λi (n:Nat)=>(s,b,(n:Int),i,())) s (λi c n=>bif isDig c then .inl (10 * n+dig c) else .inr (.inl (0,false,()))) (λn=>.inr (b,(n:Int),())) (λi n=>n+1<=10 ^ i) ?h1 ?h2 0 (by simp) rounds (by rw [Vab]; omega)) ?h0
 case h0=>
  have key:∀ (l:List UInt8) (k n:Nat),scan (λi c n=>bif isDig c then .inl (10 * n+dig c) else .inr (.inl (0,false,()))) (λn=>(.inr (b,(n:Int),()):(Int×Bool×Unit)⊕(Bool×Int×Unit))) k l n=bif l.all isDig then .inr (b,(l.foldl (λn c=>10 * n+dig c) n:Nat),()) else .inl (0,false,()):=by
   intro l;induction l with
   | nil=>intro k n; rfl
   | cons c r ih=>
    intro k n;unfold scan;rw [Qab,Qat];cases isDig c
    ·rfl
    ·exact ih (k+1) (10 * n+dig c)
  rw [key];rfl
 case h1=>
  intro i x n hx hn;obtain ⟨hi,hx'⟩:=List.getElem?_eq_some_iff.1 hx;have hp:10 ^ i<=10 ^ 4:=Qaj (by omega) (by omega);have hg:getI s (i:Int)=some x:=by simp [getI,hx]
  refine ⟨?_,λa' ha=>?_⟩
  ·simp only [Zha_L0b];rw [hg,show decide ((i:Int) < (s.length:Int))=true by simp; omega,wI ((i:Int)+1) (by omega)];simp only [cond_true,bindS,Vi4];by_cases hd:isDig x=true
   ·obtain ⟨e1,e2⟩:=Vm7 hd;rw [hd,e1,wI ((10:Int) * (n:Int)) (by omega),wI ((10:Int) * (n:Int)+(dig x:Int)) (by omega)];simp only [Qc,cond_false,cond_true,Q7];congr 3
   ·have hd':isDig x=false:=by simpa using hd
    rw [hd'];rfl
  ·by_cases hd:isDig x=true
   ·have e2:=(Vm7 hd).2;rw [hd] at ha;simp only [cond_true,Sum.inl.injEq] at ha;subst ha;rw [Qad];omega
   ·have hd':isDig x=false:=by simpa using hd
    rw [hd'] at ha;cases ha
 case h2=>
  intro n _;simp only [Zha_L0b];simp
theorem Vwb (s:List UInt8) (b:Bool):Zha s b=some ((),(portOf s).1,((portOf s).2&&!decide ((portOf s).1=dport b)),()):=by
 unfold Zha portOf;by_cases h1:1<=s.length
 ·by_cases h5:s.length<=5
  ·rw [show decide ((s.length:Int) < 1)=false by simp; omega,show decide ((5:Int) < (s.length:Int))=false by simp; omega];simp only [cond_false,h1,h5,and_self,decide_true,Qd];obtain ⟨c,r,hs,hg,hd⟩:=Vxu h1;rw [hg];simp only [bindS,hd];cases decide (s.head? = some 48)
   ·simp only [cond_false,Qn,Qd];rw [Vwa s b h5];cases s.all isDig
    ·rfl
    ·simp only [cond_true,bindS,Qy,Vce];cases decide ((val s:Int)<=65535)<;>rfl
   ·rfl
  ·rw [show decide ((s.length:Int) < 1)=false by simp; omega,show decide ((5:Int) < (s.length:Int))=true by simp; omega];simp [h5]
 ·rw [show decide ((s.length:Int) < 1)=true by simp; omega];simp [h1]
abbrev sec:List UInt8:=[104,116,116,112,115,58,47,47]
abbrev pla:List UInt8:=[104,116,116,112,58,47,47]
def zo:Jf:=⟨false,[],0⟩
def cutC:List UInt8->List UInt8×List UInt8×Bool
 | []=>([],[],false)
 | x::r=>if x=58 then ([],r,true) else (x::(cutC r).1,(cutC r).2.1,(cutC r).2.2)
theorem Vgx:∀ {s:List UInt8},(58:UInt8)∉s->cutC s=(s,[],false)
 | [],_=>rfl
 | x::r,h=>by
  simp only [Qk,not_or] at h;rw [cutC,if_neg (λe=>h.1 e.symm),Vgx h.2]
theorem Vi7:∀ {a:List UInt8} (b:List UInt8),(58:UInt8)∉a->cutC (a++58::b)=(a,b,true)
 | [],b,_=>by simp [cutC]
 | x::a,b,h=>by
  simp only [Qk,not_or] at h;rw [Qq,cutC,if_neg (λe=>h.1 e.symm),Vi7 b h.2]
theorem Vboa (s:List UInt8) (hs:s.length < 1000000):Zlu s [58]=some ((),(cutC s).1,(cutC s).2.1,(cutC s).2.2,()):=by
 unfold Zlu Zjs Zhg;simp only [Qag,decide_true,cond_true,bindS,Lib.index_one];rcases Vcc 58 s with ⟨h1,h2⟩ | ⟨a,b,h1,h2,h3⟩
 ·rw [h1,Vgx h2]; rfl
 ·subst h1;simp only [Qs,Qw] at hs;rw [h3,Vi7 b h2,show decide ((0:Int)<=(a.length:Int))=true by simp,show decide ((a.length:Int)<=((a++58::b).length:Int))=true by simp; omega];have ew:Ql .i64 ((a.length:Int)+((1:Nat):Int))=(a.length:Int)+1:=Vbl (by omega) (by omega);simp only [Qag,ew];rw [show (decide ((0:Int)<=(a.length:Int)+1)&&decide ((a.length:Int)+1<=((a++58::b).length:Int)))=true by simp; omega];simp only [Q0,cond_true,bindS,Qh];rw [show ((a.length:Int)+1).toNat=a.length+1 by omega];simp
def body (b:Bool) (rest:List UInt8):Jf×Int:=
 bif decide (vali (cutC rest).1=0) then (bif (cutC rest).2.2 then (bif (portOf (cutC rest).2.1).2&&!decide ((portOf (cutC rest).2.1).1=dport b) then (⟨b,(cutC rest).1,(portOf (cutC rest).2.1).1⟩,0) else (zo,2)) else (⟨b,(cutC rest).1,dport b⟩,0)) else (zo,vali (cutC rest).1)
def porig (t:List UInt8):Jf×Int:=bif sec.isPrefixOf t then body true (t.drop 8) else bif pla.isPrefixOf t then body false (t.drop 7) else (zo,2)
theorem Vm8 (t:List UInt8) (ht:t.length < 1000000):Zkw t=some ((),(porig t).1,(porig t).2,()):=by
 unfold Zkw porig;simp only [Vkg,bindS];have tail:∀ (b:Bool) (rest:List UInt8),rest.length < 1000000->((Zlu rest [58]).bind λr4=>(Zke r4.2.1).bind λr5=>bif !decide (r5.2.1=0) then some ((),(⟨false,[],0⟩:Jf),r5.2.1,()) else (Zes b).bind λr6=>bif r4.2.2.2.1 then (Zhr r4.2.2.1).bind λr7=>bif !r7.2.2.1 then some ((),(⟨false,[],0⟩:Jf),2,()) else bif decide (r7.2.1=r6.2.1) then some ((),(⟨false,[],0⟩:Jf),2,()) else some ((),(⟨b,r4.2.1,r7.2.1⟩:Jf),0,()) else some ((),(⟨b,r4.2.1,r6.2.1⟩:Jf),0,()))=some ((),(body b rest).1,(body b rest).2,()):=by
  intro b rest hr;rw [Vboa rest hr];simp only [bindS,Vbt,Vek,Vkh];unfold body;cases decide (vali (cutC rest).1=0)
  ·rfl
  ·simp only [Qc,cond_false,cond_true];cases (cutC rest).2.2
   ·rfl
   ·simp only [cond_true];cases (portOf (cutC rest).2.1).2
    ·rfl
    ·cases decide ((portOf (cutC rest).2.1).1=dport b)<;>rfl
 have hd:∀ k,(t.drop k).length < 1000000:=λk=>by rw [Qap]; omega
 cases hs:sec.isPrefixOf t
 ·cases hp:pla.isPrefixOf t
  ·rfl
  ·simp only [Qn,Qc,cond_true,cond_false,bindS,Sum.elim_inl];exact tail false _ (hd 7)
 ·simp only [Qc,cond_false,cond_true,bindS,Sum.elim_inl];exact tail true _ (hd 8)
theorem PO_L0 (z o:Jf) (s:List UInt8) (hs:s.length < 1000000):Zaw_L0 ((z,()),(o,()),s,(s.length:Int),(s.length:Int) - 1,())=some ((z,()),(o,()),s,((cutC s).1.length:Int),()):=by
 unfold Zaw_L0 Yi5;have cl:∀ l:List UInt8,(cutC l).1.length<=l.length:=by
  intro l;induction l with
  | nil=>simp [cutC]
  | cons x r ih=>
   rw [cutC];split
   ·simp
   ·simp; omega
 -- behind a prefix
 have key:∀ (a r:List UInt8) (x:UInt8),cutC (a++[x]++r)=cutC (a++x::r):=by intro a r x; simp
 rw [Vbs (λq=>q.1=(z,())/\q.2.1=(o,())/\q.2.2.1=s/\-1<=q.2.2.2.2.1/\q.2.2.2.2.1 < (s.length:Int)/\q.2.2.2.1=q.2.2.2.2.1+1+((cutC (s.drop (q.2.2.2.2.1+1).toNat)).1.length:Int)) (λq=>(q.2.2.2.2.1+1).toNat) (λq=>((z,()),(o,()),s,(bif decide ((58:UInt8)∈s.take (q.2.2.2.2.1+1).toNat) then ((cutC s).1.length:Int) else q.2.2.2.1),()))]
 ·have e0:((s.length:Int) - 1+1).toNat=s.length:=by omega
  dsimp only;rw [e0,Qao];by_cases h:(58:UInt8)∈s
  ·simp [h]
  ·rw [show decide ((58:UInt8)∈s)=false by simpa using h,Vgx h];simp
 ·rintro ⟨y0,y1,y2,y3,i,u⟩ ⟨e1,e2,e3,e4,e5,e6⟩;dsimp only at *;subst e1; subst e2; subst e3;simp only [Zaw_L0b];by_cases hi:0<=i
  ·left;have hlt:i.toNat < y2.length:=by omega
   rw [Vb3 hi e5,wI (i - 1) (by omega),show decide ((0:Int)<=i)=true by simpa using hi];simp only [cond_true,bindS];have hx:ati y2 i=y2[i.toNat]:=by simp [ati,hlt]
   have hdr:y2.drop i.toNat=ati y2 i::y2.drop (i+1).toNat:=by
    rw [Qaa hlt,hx,show (i+1).toNat=i.toNat+1 by omega]
   have htk:y2.take (i+1).toNat=y2.take i.toNat++[ati y2 i]:=by
    rw [show (i+1).toNat=i.toNat+1 by omega,Q1 hlt,hx]
   by_cases hc:ati y2 i=58
   ·rw [show decide ((ati y2 i).toBitVec=(58:UInt8).toBitVec)=true by rw [hc]; simp];refine ⟨_,rfl,⟨rfl,rfl,rfl,by dsimp only; omega,by dsimp only; omega,?_⟩,by dsimp only; omega,?_⟩
    ·dsimp only;rw [show (i - 1+1).toNat=i.toNat by omega,hdr,hc];simp [cutC]
    ·dsimp only;rw [show (i - 1+1).toNat=i.toNat by omega,htk,hc];by_cases hm:(58:UInt8)∈y2.take i.toNat
     ·simp [hm]
     ·rw [show decide ((58:UInt8)∈y2.take i.toNat)=false by simpa using hm,show decide ((58:UInt8)∈y2.take i.toNat++[58])=true by simp];simp only [cond_true,cond_false];have:y2=y2.take i.toNat++58::y2.drop (i+1).toNat:=by
       conv=>lhs; rw [<- Qae i.toNat y2,hdr,hc]
      have e:(cutC y2).1=y2.take i.toNat:=by
       conv=>lhs; rw [this,Vi7 _ hm]
      rw [e,Qf];congr 4;omega
   ·rw [show decide ((ati y2 i).toBitVec=(58:UInt8).toBitVec)=false by rw [decide_eq_false_iff_not]; exact λe=>hc (UInt8.toBitVec_inj.1 e)];refine ⟨_,rfl,⟨rfl,rfl,rfl,by dsimp only; omega,by dsimp only; omega,?_⟩,by dsimp only; omega,?_⟩
    ·dsimp only;rw [show (i - 1+1).toNat=i.toNat by omega,hdr,cutC,if_neg hc,e6];simp;omega
    ·dsimp only;rw [show (i - 1+1).toNat=i.toNat by omega,htk];have:decide ((58:UInt8)∈y2.take i.toNat++[ati y2 i])=decide ((58:UInt8)∈y2.take i.toNat):=by
      rw [decide_eq_decide];simp only [Qar,Qam];exact ⟨λh=>h.elim id (λh=>absurd h.symm hc),.inl⟩
     rw [this]
  ·right;have:i = -1:=by omega
   subst this;simp
 ·refine ⟨rfl,rfl,rfl,by dsimp only; omega,by dsimp only; omega,?_⟩;dsimp only;rw [show ((s.length:Int) - 1+1).toNat=s.length by omega,List.drop_length];simp [cutC]
 ·rw [Vab]; dsimp only; omega
theorem Vig:∀ s:List UInt8,(cutC s).1=s.take (cutC s).1.length/\((cutC s).2.2=true->(cutC s).1.length < s.length/\(cutC s).2.1=s.drop ((cutC s).1.length+1))/\((cutC s).2.2=false->(cutC s).1=s)
 | []=>by simp [cutC]
 | x::r=>by
  obtain ⟨h1,h2,h3⟩:=Vig r;rw [cutC];split
  ·simp
  ·dsimp only;refine ⟨?_,λh=>?_,λh=>?_⟩
   ·rw [Qw,Qal,<- h1]
   ·obtain ⟨q1,q2⟩:=h2 h;refine ⟨by simp; omega,?_⟩;rw [q2]; simp
   ·rw [h3 h]
theorem Vki (t:List UInt8) (ht:t.length < 1000000):Zaw t=some ((),(porig t).1,(porig t).2,()):=by
 have hd:∀ k,(t.drop k).length < 1000000:=λk=>by rw [Qap]; omega
 have tail:∀ (b:Bool) (s:List UInt8),s.length < 1000000->((Zaw_L0 (((⟨false,[],0⟩:Jf),()),((⟨b,[],0⟩:Jf),()),s,(s.length:Int),Ql .i64 ((s.length:Int) - 1),())).bind λz5=>bif decide ((0:Int)<=z5.2.2.2.1)&&decide (z5.2.2.2.1<=(z5.2.2.1.length:Int)) then (Zcn (Qo z5.2.2.2.1.toNat z5.2.2.1)).bind λr6=>bif !decide (r6.2.1=0) then some ((),(⟨false,[],0⟩:Jf),r6.2.1,()) else bif decide ((0:Int)<=z5.2.2.2.1)&&decide (z5.2.2.2.1<=(z5.2.2.1.length:Int)) then (Zax z5.2.1.1.jp).bind λr7=>bif decide (z5.2.2.2.1 < (z5.2.2.1.length:Int)) then bif decide ((0:Int)<=Ql .i64 (z5.2.2.2.1+1))&&decide (Ql .i64 (z5.2.2.2.1+1)<=(z5.2.2.1.length:Int)) then (Zha (List.drop (Ql .i64 (z5.2.2.2.1+1)).toNat z5.2.2.1) z5.2.1.1.jp).bind λr9=>bif !r9.2.2.1 then some ((),(⟨false,[],0⟩:Jf),2,()) else some ((),(⟨z5.2.1.1.jp,Qo z5.2.2.2.1.toNat z5.2.2.1,r9.2.1⟩:Jf),0,()) else none else some ((),(⟨z5.2.1.1.jp,Qo z5.2.2.2.1.toNat z5.2.2.1,r7.2.1⟩:Jf),0,()) else none else none)=some ((),(body b s).1,(body b s).2,()):=by
  intro b s hs;rw [Vbl (by omega) (by omega),PO_L0 _ _ _ hs];obtain ⟨p1,p2,p3⟩:=Vig s;have hle:(cutC s).1.length<=s.length:=by
   rw [p1,Qf]; omega
  simp only [bindS];rw [show (decide ((0:Int)<=((cutC s).1.length:Int))&&decide (((cutC s).1.length:Int)<=(s.length:Int)))=true by simp; omega];simp only [cond_true,Qh,<- p1,Vbn,bindS,Vce,Vwb];unfold body;cases decide (vali (cutC s).1=0)
  ·rfl
  ·simp only [Qc,cond_false,cond_true];cases hf:(cutC s).2.2
   ·have:=p3 hf;rw [show decide (((cutC s).1.length:Int) < (s.length:Int))=false by rw [this]; simp];rfl
   ·obtain ⟨q1,q2⟩:=p2 hf;rw [show decide (((cutC s).1.length:Int) < (s.length:Int))=true by simp; omega,wI (((cutC s).1.length:Int)+1) (by omega),show (decide ((0:Int)<=((cutC s).1.length:Int)+1)&&decide (((cutC s).1.length:Int)+1<=(s.length:Int)))=true by simp; omega,show (((cutC s).1.length:Int)+1).toNat=(cutC s).1.length+1 by omega,<- q2];simp only [cond_true];cases ((portOf (cutC s).2.1).2&&!decide ((portOf (cutC s).2.1).1=dport b))<;>rfl
 unfold Zaw porig;have e8:decide (Qo 8 t=sec)=sec.isPrefixOf t:=by
  rw [Qj,decide_eq_true_eq,Qt,Qv];exact eq_comm
 have e7:decide (Qo 7 t=pla)=pla.isPrefixOf t:=by
  rw [Qj,decide_eq_true_eq,Qt,Qv];exact eq_comm
 -- the plain scheme
 have plain:((Zei false).bind λr10=>(bif (decide ((t.length:Int) < (r10.2.1.length:Int))) then (some ((),((⟨false,([]:List UInt8),(0:Int)⟩:Jf),(2:Int),()))) else (bif (decide ((0:Int)<=(r10.2.1.length:Int))&&decide ((r10.2.1.length:Int)<=(t.length:Int))) then (bif (!decide ((Qo ((r10.2.1.length:Int)).toNat t)=r10.2.1)) then (some ((),((⟨false,([]:List UInt8),(0:Int)⟩:Jf),(2:Int),()))) else (bif (decide ((0:Int)<=(r10.2.1.length:Int))&&decide ((r10.2.1.length:Int)<=(t.length:Int))) then some ((),(body false (t.drop 7)).1,(body false (t.drop 7)).2,()) else none)) else none)))=some ((),(bif pla.isPrefixOf t then body false (t.drop 7) else (zo,2)).1,(bif pla.isPrefixOf t then body false (t.drop 7) else (zo,2)).2,()):=by
  change (bif decide ((t.length:Int) < 7) then some ((),zo,2,()) else bif decide ((0:Int)<=7)&&decide ((7:Int)<=(t.length:Int)) then (bif !decide (Qo 7 t=pla) then some ((),zo,2,()) else bif decide ((0:Int)<=7)&&decide ((7:Int)<=(t.length:Int)) then some ((),(body false (t.drop 7)).1,(body false (t.drop 7)).2,()) else none) else none)=_;by_cases h7:7<=t.length
  ·rw [show decide ((t.length:Int) < 7)=false by simp; omega,show (decide ((0:Int)<=7)&&decide ((7:Int)<=(t.length:Int)))=true by simp; omega,e7];cases pla.isPrefixOf t<;>rfl
  ·have:pla.isPrefixOf t=false:=by
    cases hq:pla.isPrefixOf t
    ·rfl
    ·have:=(List.isPrefixOf_iff_prefix.1 hq).length_le; simp at this; omega
   rw [this,show decide ((t.length:Int) < 7)=true by simp; omega];rfl
 by_cases h8:8<=t.length
 ·rw [show decide ((8:Int)<=(t.length:Int))=true by simp; omega];simp only [cond_true];have e8':decide (Qo 8 t=[104,116,116,112,115,58,47,47])=sec.isPrefixOf t:=e8;rw [e8'];cases hs:sec.isPrefixOf t
  ·simp only [cond_false];rw [<- plain];unfold Zei;simp only [cond_false,bindS];rw [<- tail false (t.drop 7) (hd 7)];rfl
  ·have tl:=tail true (t.drop 8) (hd 8);simp only [cond_true];change (bif decide ((t.length:Int) < 8) then some ((),zo,2,()) else bif decide ((0:Int)<=8)&&decide ((8:Int)<=(t.length:Int)) then (bif !decide (Qo 8 t=sec) then some ((),zo,2,()) else bif decide ((0:Int)<=8)&&decide ((8:Int)<=(t.length:Int)) then _ else none) else none)=_;rw [show decide ((t.length:Int) < 8)=false by simp; omega,show (decide ((0:Int)<=8)&&decide ((8:Int)<=(t.length:Int)))=true by simp; omega,e8,hs];simp only [Qc,cond_false,cond_true];exact tl
 ·have hs:sec.isPrefixOf t=false:=by
   cases hq:sec.isPrefixOf t
   ·rfl
   ·have:=(List.isPrefixOf_iff_prefix.1 hq).length_le; simp at this; omega
  rw [show decide ((8:Int)<=(t.length:Int))=false by simp; omega,hs];simp only [cond_false];rw [<- plain];unfold Zei;simp only [cond_false,bindS];rw [<- tail false (t.drop 7) (hd 7)];rfl
theorem Vgy {n:Nat} (h:n < 10):Lib.decDigits n=[Qz (48+n)]:=by rw [Lib.decDigits,dif_pos h]
theorem Vp2 {n:Nat} (h:¬ n < 10):Lib.decDigits n=Lib.decDigits (n / 10)++[Qz (48+n % 10)]:=by rw [Lib.decDigits,dif_neg h]
theorem Vm9:∀ (k n:Nat),n < 10 ^ (k+1)->(Lib.decDigits n).length<=k+1
 | 0,n,h=>by rw [Vgy (by omega)]; simp
 | k+1,n,h=>by
  by_cases h1:n < 10
  ·rw [Vgy h1]; simp
  ·rw [Vp2 h1,Qs];have:=Vm9 k (n / 10) (by rw [Qad] at h; omega);simp; omega
theorem Von (n:Nat) (hn:n<=65535):Zde (n:Int)=some ((),Lib.decDigits n,()):=by
 unfold Zde Zde_L0 Yi2;rw [Vbs (λq=>0<=q.1/\(q.2.1.length:Int)+q.1<=70000) (λq=>q.1.toNat) (λq=>(Lib.decDigits q.1.toNat++q.2.1,()))]
 ·simp
 ·rintro ⟨m,l,u⟩ ⟨h1,h2⟩;dsimp only at *;simp only [Zde_L0b];obtain ⟨k,rfl⟩:∃ k:Nat,m=(k:Int):=⟨m.toNat,by omega⟩;have e1:Int.tmod (k:Int) 10=((k % 10:Nat):Int):=rfl;have e2:Int.tdiv (k:Int) 10=((k / 10:Nat):Int):=rfl;rw [e1,e2,wI (((k / 10:Nat):Int)) (by omega),wI ((48:Int)+((k % 10:Nat):Int)) (by omega)];have e3:Q9 (Qb 8 ((48:Int)+((k % 10:Nat):Int)))=Qz (48+k % 10):=by
   rw [show (48:Int)+((k % 10:Nat):Int)=((48+k % 10:Nat):Int) by omega,Qac];rfl
  rw [e3,Vcd (by simp; omega)];simp only [cond_true,Qh];by_cases hk:k < 10
  ·right;rw [show decide (((k / 10:Nat):Int)=0)=true by simp; omega,Vgy hk,show k % 10=k by omega];rfl
  ·left;rw [show decide (((k / 10:Nat):Int)=0)=false by simp; omega];refine ⟨_,rfl,⟨by dsimp only; omega,by simp; omega⟩,by dsimp only; omega,?_⟩;dsimp only;rw [Vp2 hk,Qh,Q3]
 ·exact ⟨by simp,by simp; omega⟩
 ·rw [Vab]; dsimp only; omega
def sch (b:Bool):List UInt8:=bif b then sec else pla
def ftxt (o:Jf):List UInt8:=sch o.jp++(o.ju++bif decide (o.ji=dport o.jp) then [] else 58::Lib.decDigits o.ji.toNat)
def fmtO (o:Jf):List UInt8×Int:=bif decide (vali o.ju=0) then (bif decide (1<=o.ji/\o.ji<=65535) then (ftxt o,0) else ([],9)) else ([],vali o.ju)
theorem Vp3 (b:Bool):(sch b).length<=8:=by cases b<;>simp [sch]
theorem Vp4 (o:Jf):Zkj o=some ((),(fmtO o).1,(fmtO o).2,()):=by
 unfold Zkj fmtO;rw [Vbt];simp only [bindS];by_cases hv:vali o.ju=0
 ·have hl:=Vb0 hv;simp only [hv,decide_true,Qc,cond_false,cond_true];by_cases hp:1<=o.ji/\o.ji<=65535
  ·rw [show decide (o.ji < 1)=false by simp; omega,show decide ((65535:Int) < o.ji)=false by simp; omega,Vcd (by simp; omega),Vcd (by simp; omega)];simp only [hp,and_self,decide_true,cond_false,cond_true];have tail:∀ s:List UInt8,s.length<=200->((Zes o.jp).bind λr4=>bif !decide (o.ji=r4.2.1) then (Zlb o.ji).bind λr5=>bif Nat.ble (([58]:List UInt8).length+r5.2.1.length) 9223372036854775807 then bif Nat.ble (s.length+(([58]:List UInt8)++r5.2.1).length) 9223372036854775807 then some ((),s++(([58]:List UInt8)++r5.2.1),(0:Int),()) else none else none else some ((),s,(0:Int),()))=some ((),s++(bif decide (o.ji=dport o.jp) then [] else 58::Lib.decDigits o.ji.toNat),0,()):=by
    intro s hs;rw [Vek];simp only [bindS];cases decide (o.ji=dport o.jp)
    ·simp only [Qn,cond_true,cond_false];unfold Zlb Lib.itoa;rw [show (decide (-9223372036854775808<=o.ji)&&decide (o.ji<=9223372036854775807))=true by simp; omega,if_neg (by omega)];simp only [cond_true,bindS];have hd:=Vm9 4 o.ji.toNat (by omega);rw [Vcd (by simp; omega),Vcd (by simp; omega)];rfl
    ·simp
   cases hs:o.jp
   ·simp only [cond_false,bindS];have:=tail (pla++o.ju) (by simp; omega);rw [hs] at this;rw [hs,this];simp [ftxt,hs,sch]
   ·simp only [cond_true,bindS];have:=tail (sec++o.ju) (by simp; omega);rw [hs] at this;rw [hs,this];simp [ftxt,hs,sch]
  ·rw [show decide (1<=o.ji/\o.ji<=65535)=false by simpa using hp];by_cases h1:o.ji < 1
   ·simp [h1]
   ·rw [show decide (o.ji < 1)=false by simpa using h1,show decide ((65535:Int) < o.ji)=true by simp; omega];rfl
 ·simp [hv]
theorem Voo (o:Jf):Zal o=some ((),(fmtO o).1,(fmtO o).2,()):=by
 unfold Zal fmtO;rw [Vbn];simp only [bindS];by_cases hv:vali o.ju=0
 ·have hl:=Vb0 hv;simp only [hv,decide_true,Qc,cond_false,cond_true];by_cases hp:1<=o.ji/\o.ji<=65535
  ·rw [show decide (o.ji < 1)=false by simp; omega,show decide ((65535:Int) < o.ji)=false by simp; omega];have hsc:Zei o.jp=some ((),sch o.jp,()):=by cases o.jp<;>rfl
   have hd:=Vm9 4 o.ji.toNat (by omega);have hdm:=Von o.ji.toNat (by omega);rw [show ((o.ji.toNat:Nat):Int)=o.ji by omega] at hdm;have hsl:=Vp3 o.jp;simp only [hp,and_self,decide_true,cond_false,cond_true,Vce,bindS,hsc,hdm];rw [Vcd (by omega),Vcd (by simp; omega),Vcd (by simp; omega)];unfold ftxt;cases decide (o.ji=dport o.jp)<;>simp
  ·rw [show decide (1<=o.ji/\o.ji<=65535)=false by simpa using hp];by_cases h1:o.ji < 1
   ·simp [h1]
   ·rw [show decide (o.ji < 1)=false by simpa using h1,show decide ((65535:Int) < o.ji)=true by simp; omega];rfl
 ·simp [hv]
theorem Vp5 (n:Int) (h0:0<=n) (h1:n < 8192):∃ o,Zet n=some ((),o,())/\o.ju.length<=30:=by
 unfold Zet;obtain ⟨x,hx,hxl⟩:=Vzx (Qaw n (2 ^ (min 3 (Qp .i64))));simp only [hx,bindS];have hb:∀ v:Int,∃ k:Nat,Ql .i64 ((Qb (Qp .i64) v &&& Qb (Qp .i64) (7:Int)).toNat:Int)=(k:Int)/\k < 8:=by
  intro v;have hlt:(Qb 64 v &&& Qb 64 (7:Int)).toNat < 8:=by
   rw [BitVec.toNat_and];have:(Qb 64 (7:Int)).toNat=7:=by decide
   rw [this];have:=Nat.and_le_right (n:=(Qb 64 v).toNat) (m:=7);omega
  exact ⟨_,Vbl (by omega) (by show ((Qb 64 v &&& Qb 64 (7:Int)).toNat:Int) < _; omega),hlt⟩
 obtain ⟨k,hk,hk8⟩:=hb (Qaw n (2 ^ (min 10 (Qp .i64))));rw [hk,show (decide ((0:Int)<=(k:Int))&&decide ((k:Int) < 8))=true by simp; omega];simp only [cond_true,Qh];generalize hL:([443,80,8080,443,1,65535,0,65536]:List Int)=L;have hl:L.length=8:=by rw [<- hL]; rfl
 rw [Qa (by omega)];exact ⟨_,rfl,hxl⟩
theorem Vwc (o:Jf) (h:o.ju.length<=300):(fmtO o).1.length < 1000000:=by
 unfold fmtO;by_cases hv:vali o.ju=0
 ·by_cases hp:1<=o.ji/\o.ji<=65535
  ·simp only [hv,hp,and_self,decide_true,cond_true];unfold ftxt;have:=Vp3 o.jp;have:=Vm9 4 o.ji.toNat (by omega);cases decide (o.ji=dport o.jp)<;>simp<;>omega
  ·rw [show decide (1<=o.ji/\o.ji<=65535)=false by simpa using hp];simp [hv]
 ·simp [hv]
abbrev loc9:List UInt8:=[108,111,99,97,108,104,111,115,116]
def permV (l:List Jc) (o:Jf) (rp:List UInt8):Int:=
 bif !decide (vali o.ju=0) then vali o.ju else bif !decide (vali rp=0) then vali rp else bif (decide (rp=loc9)&&decide (o.ju=loc9))||(o.jp&&(wthn o.ju rp&&decide (pub l o.ju < ((labs rp).length:Int)))) then 0 else 34
theorem Vop (l:List Jc) (o:Jf) (rp:List UInt8):Zjy l o rp=some ((),permV l o rp,()):=by
 unfold Zjy permV;simp only [Vbt,Vp1,Vgv,Vp0,bindS];cases decide (vali o.ju=0)
 ·rfl
 ·cases decide (vali rp=0)
  ·rfl
  ·simp only [Qc,cond_false];generalize decide (rp=loc9)=b1;generalize decide (o.ju=loc9)=b2;generalize o.jp=b3;generalize wthn o.ju rp=b4;generalize decide (pub l o.ju < ((labs rp).length:Int))=b5;cases b1<;>cases b2<;>cases b3<;>cases b4<;>cases b5<;>rfl
theorem Vl5 (l:List Jc) (o:Jf) (rp:List UInt8) (hr:∀ x∈l,x.jd.length<=1000000):Zdd l o rp=some ((),permV l o rp,()):=by
 unfold Zdd permV;simp only [Vbn,Vom,Vie,bindS];rw [Vol l o.ju hr];simp only [bindS];cases decide (vali o.ju=0)
 ·rfl
 ·cases decide (vali rp=0)
  ·rfl
  ·simp only [Qc,cond_false];generalize decide (rp=loc9)=b1;generalize decide (o.ju=loc9)=b2;generalize o.jp=b3;generalize wthn o.ju rp=b4;generalize decide (pub l o.ju < ((labs rp).length:Int))=b5;cases b1<;>cases b2<;>cases b3<;>cases b4<;>cases b5<;>rfl
theorem Vkj (a b:List (List UInt8)) (hb:b.length < 1000000):Zbw a b=some ((),decide (a=b),()):=by
 unfold Zbw;by_cases h:a.length=b.length
 ·rw [show (!decide ((a.length:Int)=(b.length:Int)))=false by simp; omega];simp only [cond_false];unfold Zbw_L0 Yi3;rw [Vam (λi (_:Unit)=>(a,b,i,())) a (λi x _=>bif decide (b[i]? = some x) then .inl () else .inr (.inl (false,()))) (λ_=>.inr ()) (λ_ _=>True) ?_ ?_ () trivial rounds (by rw [Vab]; omega)]
  ·rw [Vbb (λi x=>decide (b[i]? = some x))];have e:allI (λi x=>decide (b[i]? = some x)) 0 a=decide (a=b):=by
    rw [Qj,Vfe,decide_eq_true_eq];simp only [Q5,decide_eq_true_eq];constructor
    ·intro hp;apply Q2;intro i;by_cases hi:i < a.length
     ·rw [hp i a[i] (by simp [hi])]; simp [hi]
     ·rw [Qi (by omega),Qi (by omega)]
    ·rintro rfl i x hx;exact hx
   rw [e];cases decide (a=b)<;>rfl
  ·intro i x _ hx _;obtain ⟨hi,hx'⟩:=List.getElem?_eq_some_iff.1 hx;refine ⟨?_,λ_ _=>trivial⟩;simp only [Zbw_L0b];have hg:getI a (i:Int)=some x:=by simp [getI,hx]
   have hg2:getI b (i:Int)=some b[i]:=by simp [getI]
   rw [hg,hg2,show decide ((i:Int) < (a.length:Int))=true by simp; omega,wI ((i:Int)+1) (by omega)];simp only [cond_true,bindS];have:decide (b[i]? = some x)=decide (x=b[i]):=by
    rw [decide_eq_decide,Qa (by omega),Qm];exact eq_comm
   rw [this];cases decide (x=b[i])<;>rfl
  ·intro _ _;simp only [Zbw_L0b];simp
 ·rw [show (!decide ((a.length:Int)=(b.length:Int)))=true by simp; omega];have:¬ a=b:=λe=>h (by rw [e]);simp [this]
theorem Vl6 (a b:Jc) (hb:b.jd.length < 1000000):Zcm a b=some ((),decide (a=b),()):=by
 unfold Zcm;rw [Vkj _ _ hb];obtain ⟨a1,a2,a3⟩:=a;obtain ⟨b1,b2,b3⟩:=b;simp only [bindS,Jc.mk.injEq];by_cases h:a1=b1
 ·simp only [h,decide_true,cond_true,true_and];cases a2<;>cases b2<;>cases a3<;>cases b3<;>rfl
 ·simp [h]
end Go.Proofs.YtaddhgkhilmniaaGreatDoor

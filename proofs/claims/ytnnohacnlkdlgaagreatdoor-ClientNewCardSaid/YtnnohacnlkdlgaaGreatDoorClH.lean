/- Names of hosts and rules: what both sides compute. No condition. -/
import Derived.Test.YtnnohacnlkdlgaaGreatDoorFns
import Derived.Test.YtnnohacnlkdlgaaGreatDoorLib8
import Derived.Lib.IndexBytes
import Derived.Lib.Join
import Derived.Lib.Split
import Derived.Lib.SplitLaws
set_option linter.unusedVariables false
set_option linter.unusedSimpArgs false
set_option maxRecDepth 100000
namespace Go.Proofs.YtnnohacnlkdlgaaGreatDoor
open Go Go.Abs
open _root_.List renaming getElem?_eq_getElem → Qa, mem_cons → Qc, getLast?_eq_getElem? → Qg, cons_append → Qh, head?_eq_getElem? → Qi, mem_of_getElem? → Qk, singleton_append → Qp, getElem?_eq_none → Qq, mem_of_mem_take → Qr, length_append → Qt, append_assoc → Qu, length_take → Qv, length_cons → Qw, getElem_mem → Qx, all_eq_true → Qy, length_nil → Qz, take_zero → Q2
open _root_.Bool renaming true_and → Qb, and_eq_true → Qf, eq_iff_iff → Qm, not_false → Qn, or_eq_true → Q1, false_and → Q3, not_true → Q4, and_self → Q5
open _root_.BitVec renaming ofInt → Qd
open _root_.Option.some renaming injEq → Qj
open _root_.Sum renaming elim_inr → Ql
open Go.IntKind renaming bits → Qo, wrap → Q0
open _root_.Nat renaming mul_le_mul_right → Qs
open _root_.UInt8 renaming ofNat → Q6
def isDig (x:UInt8):Bool:=decide ((48:UInt8).toBitVec.toNat<=x.toBitVec.toNat)&&decide (x.toBitVec.toNat<=(57:UInt8).toBitVec.toNat)
def isLet (x:UInt8):Bool:=decide ((97:UInt8).toBitVec.toNat<=x.toBitVec.toNat)&&decide (x.toBitVec.toNat<=(122:UInt8).toBitVec.toNat)
def isDash (x:UInt8):Bool:=decide (x.toBitVec=(45:UInt8).toBitVec)
theorem isDash_iff {x:UInt8}:isDash x=true↔x=45:=by
 unfold isDash
 rw [decide_eq_true_eq]
 exact UInt8.toBitVec_inj
def okAt (n i:Nat) (x:UInt8):Bool:=(isLet x||isDig x)||(isDash x&&(decide (0 < i)&&decide (i+1 < n)))
def inner (x:UInt8):Bool:=(isLet x||isDig x)||isDash x
def lab (l:List UInt8):Bool:=decide (1<=l.length/\l.length<=63)&&((!decide (l.head? = some 45)&&!decide (l.getLast? = some 45))&&l.all inner)
theorem Vw2 (l:List UInt8) (h:1<=l.length):allI (okAt l.length) 0 l=((!decide (l.head? = some 45)&&!decide (l.getLast? = some 45))&&l.all inner):=by
 rw [Qm]
 rw [Vi7]
 simp only [Qf,Bool.not_eq_true',decide_eq_false_iff_not,Qy]
 have hdash:isLet 45=false/\isDig 45=false:=by decide
 constructor
 ·intro hp
  refine ⟨⟨λhh=>?_,λhh=>?_⟩,λx hx=>?_⟩
  ·have e:l[0]? = some 45:=by rw [<- Qi]; exact hh
   have:=hp 0 45 e
   simp [okAt,hdash] at this
  ·have e:l[l.length - 1]? = some 45:=by rw [<- Qg]; exact hh
   have:=hp _ 45 e
   simp [okAt,hdash] at this
   omega
  ·obtain ⟨i,hi,rfl⟩:=List.mem_iff_getElem.1 hx
   have:=hp i l[i] (by simp [hi])
   simp only [okAt,inner,Q1,Qf] at this |-
   rcases this with h | h
   ·exact .inl h
   ·exact .inr h.1
 ·rintro ⟨⟨h1,h2⟩,h3⟩ i x hx
  obtain ⟨hi,rfl⟩:=List.getElem?_eq_some_iff.1 hx
  have:=h3 _ (Qx hi)
  simp only [okAt,inner,Q1,Qf,decide_eq_true_eq,Nat.zero_add] at this |-
  rcases this with h | h
  ·exact .inl h
  ·refine .inr ⟨h,?_,?_⟩
   ·rcases Nat.eq_zero_or_pos i with rfl | hi0
    ·exfalso; apply h1
     rw [Qi,hx,isDash_iff.1 h]
    ·exact hi0
   ·rcases Nat.lt_or_ge (i+1) l.length with q | q
    ·exact q
    ·exfalso; apply h2
     have:i=l.length - 1:=by omega
     subst this
     rw [Qg,hx,isDash_iff.1 h]
theorem Vec (l:List UInt8):Zhz l=some ((),lab l,()):=by
 unfold Zhz lab
 by_cases h1:1<=l.length
 ·by_cases h2:l.length<=63
  ·rw [show decide ((l.length:Int) < 1)=false by simp; omega,show decide ((63:Int) < (l.length:Int))=false by simp; omega]
   simp only [cond_false]
   unfold Zhz_L0 Yi3
   rw [Va7 (λi (_:Unit)=>(l,(l.length:Int),i,())) l (λi x _=>bif okAt l.length i x then .inl () else .inr (.inl (false,()))) (λ_=>.inr ()) (λ_ _=>True) ?_ ?_ () trivial rounds (by rw [Vah]; omega)]
   ·rw [Vbl,Vw2 l h1]
    simp only [h1,h2,and_self,decide_true,Qb]
    cases (!decide (l.head? = some 45)&&!decide (l.getLast? = some 45))&&l.all inner<;>rfl
   ·intro i x a hx _
    obtain ⟨hi,hx'⟩:=List.getElem?_eq_some_iff.1 hx
    refine ⟨?_,λ_ _=>trivial⟩
    simp only [Zhz_L0b]
    have hg:getI l (i:Int)=some x:=by simp [getI,hx]
    rw [hg,show decide ((i:Int) < (l.length:Int))=true by simp; omega,wI ((i:Int)+1) (by omega),wI ((l.length:Int) - 1) (by omega)]
    simp only [cond_true,bindS]
    unfold okAt isLet isDig isDash
    rw [show decide ((i:Int) < (l.length:Int) - 1)=decide (i+1 < l.length) by rw [decide_eq_decide]; omega,show decide ((0:Int) < (i:Int))=decide (0 < i) by rw [decide_eq_decide]; omega]
    generalize decide ((97:UInt8).toBitVec.toNat<=x.toBitVec.toNat)=b1
    generalize decide (x.toBitVec.toNat<=(122:UInt8).toBitVec.toNat)=b2
    generalize decide ((48:UInt8).toBitVec.toNat<=x.toBitVec.toNat)=b3
    generalize decide (x.toBitVec.toNat<=(57:UInt8).toBitVec.toNat)=b4
    generalize decide (x.toBitVec=(45:UInt8).toBitVec)=b5
    generalize decide (0 < i)=b6
    generalize decide (i+1 < l.length)=b7
    cases b1<;>cases b2<;>cases b3<;>cases b4<;>cases b5<;>cases b6<;>cases b7<;>rfl
   ·intro a _
    simp only [Zhz_L0b]
    simp
  ·rw [show decide ((l.length:Int) < 1)=false by simp; omega,show decide ((63:Int) < (l.length:Int))=true by simp; omega]
   simp [h2]
 ·rw [show decide ((l.length:Int) < 1)=true by simp; omega]
  simp [h1]
theorem Vlu (x:UInt8):Zeo x=some ((),isDig x,()):=by
 unfold Zeo isDig
 cases decide ((48:UInt8).toBitVec.toNat<=x.toBitVec.toNat)<;>rfl
theorem Vlv (l:List UInt8):Zep l=some ((),lab l,()):=by
 unfold Zep lab
 by_cases h1:1<=l.length
 ·by_cases h2:l.length<=63
  ·rw [show decide ((l.length:Int) < 1)=false by simp; omega,show decide ((63:Int) < (l.length:Int))=false by simp; omega]
   simp only [cond_false]
   have e1:getI l 0=some l[0]:=by simp [getI]
   have e2:getI l (Q0 .i64 ((l.length:Int) - 1))=some l[l.length - 1]:=by
    rw [Vg6 (by omega) (by omega)]
    have:((l.length:Int) - 1).toNat=l.length - 1:=by omega
    simp only [getI,this]
    rw [show decide ((0:Int)<=(l.length:Int) - 1)=true by simp; omega]
    simp only [cond_true]
    rw [Qa]
   rw [e1,e2]
   simp only [bindS,h1,h2,and_self,decide_true,Qb]
   have f1:decide (l.head? = some 45)=decide (l[0].toBitVec=(45:UInt8).toBitVec):=by
    rw [decide_eq_decide,Qi,Qa (by omega),Qj]
    exact UInt8.toBitVec_inj.symm
   have f2:decide (l.getLast? = some 45)=decide (l[l.length - 1].toBitVec=(45:UInt8).toBitVec):=by
    rw [decide_eq_decide,Qg,Qa (by omega),Qj]
    exact UInt8.toBitVec_inj.symm
   rw [f1,f2]
   cases decide (l[0].toBitVec=(45:UInt8).toBitVec)
   ·cases decide (l[l.length - 1].toBitVec=(45:UInt8).toBitVec)
    ·simp only [cond_false,Qn,Q5,Qb]
     unfold Zep_L0 Yi2
     rw [Va7 (λi (_:Unit)=>(l,i,())) l (λi x _=>bif inner x then .inl () else .inr (.inl (false,()))) (λ_=>.inr ()) (λ_ _=>True) ?_ ?_ () trivial rounds (by rw [Vah]; omega)]
     ·rw [Vbl (λ_ x=>inner x),Vc1]
      cases l.all inner<;>rfl
     ·intro i x a hx _
      obtain ⟨hi,hx'⟩:=List.getElem?_eq_some_iff.1 hx
      refine ⟨?_,λ_ _=>trivial⟩
      simp only [Zep_L0b]
      have hg:getI l (i:Int)=some x:=by simp [getI,hx]
      rw [hg,show decide ((i:Int) < (l.length:Int))=true by simp; omega,wI ((i:Int)+1) (by omega)]
      simp only [cond_true,bindS,Vlu]
      unfold inner isLet isDash
      generalize isDig x=b3
      generalize decide ((97:UInt8).toBitVec.toNat<=x.toBitVec.toNat)=b1
      generalize decide (x.toBitVec.toNat<=(122:UInt8).toBitVec.toNat)=b2
      generalize decide (x.toBitVec=(45:UInt8).toBitVec)=b5
      cases b1<;>cases b2<;>cases b3<;>cases b5<;>rfl
     ·intro a _
      simp only [Zep_L0b]
      simp
    ·rfl
   ·rfl
  ·rw [show decide ((l.length:Int) < 1)=false by simp; omega,show decide ((63:Int) < (l.length:Int))=true by simp; omega]
   simp [h2]
 ·rw [show decide ((l.length:Int) < 1)=true by simp; omega]
  simp [h1]
def spl (c:UInt8):List UInt8->List (List UInt8)
 | []=>[[]]
 | x::r=>if x=c then []::spl c r else match spl c r with
  | []=>[[x]]
  | p::ps=>(x::p)::ps
theorem Vvb (c:UInt8):∀ s,spl c s≠[]
 | []=>by simp [spl]
 | x::r=>by
  unfold spl
  split
  ·simp
  ·split<;>simp
theorem Vfi {c:UInt8}:∀ {s:List UInt8},c∉s->spl c s=[s]
 | [],_=>rfl
 | x::r,h=>by
  simp only [Qc,not_or] at h
  unfold spl
  rw [if_neg (λe=>h.1 e.symm),Vfi h.2]
theorem Vkv {c:UInt8}:∀ {a:List UInt8} (b:List UInt8),c∉a->spl c (a++c::b)=a::spl c b
 | [],b,_=>by simp [spl]
 | x::a,b,h=>by
  simp only [Qc,not_or] at h
  rw [Qh,spl,if_neg (λe=>h.1 e.symm),Vkv b h.2]
theorem Vc8 (c:UInt8):∀ s:List UInt8,(Lib.indexByte s c = -1/\c∉s)\/∃ a b,s=a++c::b/\c∉a/\Lib.indexByte s c=(a.length:Int)
 | []=>.inl ⟨rfl,by simp⟩
 | x::r=>by
  by_cases hx:x=c
  ·subst hx
   exact .inr ⟨[],r,rfl,by simp,by simp [Lib.indexByte]⟩
  ·have hb:(x == c)=false:=by simpa using hx
   rcases Vc8 c r with ⟨h1,h2⟩ | ⟨a,b,h1,h2,h3⟩
   ·left
    refine ⟨by simp [Lib.indexByte,hb,h1],?_⟩
    simp only [Qc,not_or]
    exact ⟨λe=>hx e.symm,h2⟩
   ·right
    refine ⟨x::a,b,by simp [h1],?_,?_⟩
    ·simp only [Qc,not_or]
     exact ⟨λe=>hx e.symm,h2⟩
    ·have:¬ (Lib.indexByte r c == -1)=true:=by rw [h3]; simp
     rw [Lib.indexByte,hb]
     simp only [Bool.false_eq_true,if_false,this,h3]
     simp
theorem Vhd (c:UInt8):∀ (k:Nat) (s:List UInt8),s.count c<=k->Lib.splitK [c] 0 k s=spl c s
 | 0,s,h=>by
  have:c∉s:=List.count_eq_zero.1 (by omega)
  rw [Vfi this]; rfl
 | k+1,s,h=>by
  unfold Lib.splitK
  rw [Lib.index_one]
  rcases Vc8 c s with ⟨h1,h2⟩ | ⟨a,b,h1,h2,h3⟩
  ·rw [h1,Vfi h2]; rfl
  ·have:¬ ((Lib.indexByte s c == -1)=true):=by rw [h3]; simp
   rw [if_neg this,h3]
   subst h1
   have e1:((a.length:Int).toNat+0)=a.length:=by simp
   have e2:((a.length:Int).toNat+[c].length)=a.length+1:=by simp
   rw [e1,e2,List.take_left',Vkv b h2,show List.drop (a.length+1) (a++c::b)=b by simp,Vhd c k b]
   ·rw [List.count_append,List.count_cons_self] at h
    omega
   ·rfl
theorem Vn5 (s:List UInt8) (c:UInt8):Lib.split s [c]=spl c s:=by
 unfold Lib.split
 rw [Lib.count_one]
 exact Vhd c _ s (Nat.le_refl _)
theorem Vtw (s:List UInt8) (h:s.length < 4294967281):Zji s [46]=some ((),spl 46 s,()):=by
 unfold Zji
 rw [Vn5]
 simp [h]
theorem Vn6 {n:Nat} (h:n < 100000000):small n 16=true:=by
 unfold small
 simp only [decide_eq_true_eq]
 omega
theorem Vn7 (s:List UInt8) (c:UInt8) (hs:s.length < 1000000):Zeq s c=some ((),spl c s,()):=by
 unfold Zeq
 have:Ok (Zeq_L0 (s,c,[],0,0,())) λz=>z.1=s/\z.2.1.length<=s.length/\0<=z.2.2.1/\z.2.2.1<=s.length/\z.2.1++[s.drop z.2.2.1.toNat]=spl c s:=by
  unfold Zeq_L0 Yi5
  refine Ok.iter (λq=>q.1=s/\q.2.1=c/\(q.2.2.1.length:Int)<=q.2.2.2.2.1/\0<=q.2.2.2.1/\q.2.2.2.1<=q.2.2.2.2.1/\q.2.2.2.2.1<=(s.length:Int)/\c∉(s.drop q.2.2.2.1.toNat).take (q.2.2.2.2.1.toNat - q.2.2.2.1.toNat)/\q.2.2.1++spl c (s.drop q.2.2.2.1.toNat)=spl c s) (λq=>s.length - q.2.2.2.2.1.toNat) ⟨rfl,rfl,by simp,by simp,by simp,by simp,by simp,by simp⟩ (by rw [Vah]; dsimp only; omega) ?_
  rintro ⟨y0,y1,y2,y3,y4,u⟩ ⟨h1,h2,h3,h4,h5,h6,h7,h8⟩
  dsimp only at *
  subst h1; subst h2
  simp only [Zeq_L0b]
  by_cases hi:y4 < (y0.length:Int)
  ·rw [Vco (by omega) hi,wI (y4+1) (by omega)]
   simp only [hi,decide_true,cond_true,bindS]
   have hx:ati y0 y4=y0[y4.toNat]'(by omega):=by simp [ati,show y4.toNat < y0.length by omega]
   have ex:y0.drop y3.toNat=(y0.drop y3.toNat).take (y4.toNat - y3.toNat)++ati y0 y4::y0.drop (y4.toNat+1):=by
    conv=>lhs; rw [<- List.take_append_drop (y4.toNat - y3.toNat) (y0.drop y3.toNat)]
    rw [List.drop_drop,show y3.toNat+(y4.toNat - y3.toNat)=y4.toNat by omega,List.drop_eq_getElem_cons (show y4.toNat < y0.length by omega),hx]
   by_cases hc:ati y0 y4=y1
   ·rw [show decide ((ati y0 y4).toBitVec=y1.toBitVec)=true by rw [hc]; simp]
    rw [show (decide ((0:Int)<=y4)&&decide (y4<=(y0.length:Int)))=true by simp; omega,show (decide ((0:Int)<=y3)&&decide (y3<=(y4.toNat:Int)))=true by simp; omega]
    simp only [cond_true]
    rw [Vn6 (by simp; omega)]
    simp only [cond_true]
    refine Ok.some ?_
    dsimp only
    refine ⟨⟨rfl,rfl,by simp; omega,by omega,by omega,by omega,by simp,?_⟩,by omega⟩
    rw [<- h8]
    rw [hc] at ex
    conv=>rhs; rw [ex,Vkv _ h7]
    rw [show (y4+1).toNat=y4.toNat+1 by omega,Qu]
    congr 1
    rw [Qp,List.drop_take]
   ·rw [show decide ((ati y0 y4).toBitVec=y1.toBitVec)=false by rw [decide_eq_false_iff_not]; exact λe=>hc (UInt8.toBitVec_inj.1 e)]
    simp only [cond_false]
    refine Ok.some ?_
    dsimp only
    refine ⟨⟨rfl,rfl,by omega,by omega,by omega,by omega,?_,h8⟩,by omega⟩
    rw [ex,show (y4+1).toNat - y3.toNat=(y4.toNat - y3.toNat)+1 by omega,List.take_append]
    have hl:((y0.drop y3.toNat).take (y4.toNat - y3.toNat)).length=y4.toNat - y3.toNat:=by simp; omega
    rw [hl]
    simp only [List.mem_append,not_or]
    refine ⟨λh=>h7 (Qr h),?_⟩
    rw [show y4.toNat - y3.toNat+1 - (y4.toNat - y3.toNat)=1 by omega]
    simp only [List.take_succ_cons,Q2,Qc,List.not_mem_nil,or_false]
    exact λe=>hc e.symm
  ·simp only [hi,decide_false,cond_false]
   refine Ok.some ?_
   dsimp only
   refine ⟨rfl,by omega,h4,by omega,?_⟩
   rw [<- h8]
   congr 1
   rw [Vfi]
   intro hm
   apply h7
   rwa [List.take_of_length_le (by simp; omega)]
 obtain ⟨⟨z0,z1,z2,u⟩,h0,h1,h2,h3,h4,h5⟩:=this
 dsimp only at *
 subst h1
 rw [h0]
 simp only [bindS]
 rw [show (decide ((0:Int)<=z2)&&decide (z2<=(z0.length:Int)))=true by simp; omega]
 simp only [cond_true]
 rw [Vn6 (by simp; omega)]
 simp only [cond_true]
 rw [h5]
theorem Vtx (l:List UInt8):Lib.trimS l [48,49,50,51,52,53,54,55,56,57]=[]↔l.all isDig=true:=by
 have hp:∀ x:UInt8,([48,49,50,51,52,53,54,55,56,57]:List UInt8).contains x=isDig x:=λx=>by
  have hq:∀ n:Fin 256,([48,49,50,51,52,53,54,55,56,57]:List UInt8).contains (Q6 n.val)=isDig (Q6 n.val):=by decide +kernel
  have:=hq ⟨x.toNat,UInt8.toNat_lt x⟩
  simpa only [UInt8.ofNat_toNat] using this
 have hdw:∀ m:List UInt8,m.dropWhile (λx=>([48,49,50,51,52,53,54,55,56,57]:List UInt8).contains x)=[]↔m.all isDig=true:=by
  intro m
  induction m with
  | nil=>simp
  | cons x r ih=>
   rw [List.dropWhile_cons,hp x,List.all_cons]
   cases isDig x
   ·simp
   ·simpa using ih
 unfold Lib.trimS Lib.trimLeftS Lib.trimRightS
 constructor
 ·intro h
  have h2:=(hdw _).1 h
  by_cases hn:l.reverse.dropWhile (λx=>([48,49,50,51,52,53,54,55,56,57]:List UInt8).contains x)=[]
  ·have:=(hdw _).1 hn
   simpa using this
  ·exfalso
   rw [List.all_reverse] at h2
   have hh:=List.head_dropWhile_not (λx=>([48,49,50,51,52,53,54,55,56,57]:List UInt8).contains x) hn
   have:=List.all_eq_true.1 h2 _ (List.head_mem hn)
   rw [hp] at hh
   rw [hh] at this
   cases this
 ·intro h
  have:l.reverse.dropWhile (λx=>([48,49,50,51,52,53,54,55,56,57]:List UInt8).contains x)=[]:=(hdw _).2 (by simpa using h)
  rw [this]
  rfl
theorem Vw3 (l:List UInt8) (h:l.length < 1000000):Zjx l [48,49,50,51,52,53,54,55,56,57]=some ((),Lib.trimS l [48,49,50,51,52,53,54,55,56,57],()):=by
 unfold Zjx
 have h1:l.length<=9223372036854775807:=by omega
 simp only [h1,decide_true,Qb]
 rfl
def lastL (l:List (List UInt8)):List UInt8:=l.getD (l.length - 1) []
def vali (s:List UInt8):Int:=bif decide (100 < s.length) then 8 else bif (spl 46 s).all lab then (bif (lastL (spl 46 s)).all isDig then 2 else 0) else 2
theorem Vkw (c:UInt8):∀ s:List UInt8,(spl c s).length<=s.length+1/\∀ x∈spl c s,x.length<=s.length
 | []=>by simp [spl]
 | x::r=>by
  obtain ⟨h1,h2⟩:=Vkw c r
  unfold spl
  split
  ·refine ⟨by simp; omega,?_⟩
   intro y hy
   rcases List.mem_cons.1 hy with rfl | hy
   ·simp
   ·have:=h2 y hy; simp; omega
  ·split
   ·simp
   ·rename_i p ps e
    rw [e] at h1 h2
    refine ⟨by simp at h1 |-; omega,?_⟩
    intro y hy
    rcases List.mem_cons.1 hy with rfl | hy
    ·have:=h2 p (by simp); simp; omega
    ·have:=h2 y (by simp [hy]); simp; omega
theorem Ved (l:List (List UInt8)) (h:l≠[]):l[l.length - 1]? = some (lastL l):=by
 have:l.length - 1 < l.length:=by have:=List.length_pos_iff.2 h; omega
 simp [lastL,this]
theorem Vkx (s:List UInt8):Ziz s=some ((),vali s,()):=by
 unfold Ziz vali
 by_cases h:100 < s.length
 ·rw [show decide ((100:Int) < (s.length:Int))=true by simp; omega]
  simp [h]
 ·rw [show decide ((100:Int) < (s.length:Int))=false by simp; omega,Vtw s (by omega)]
  simp only [h,decide_false,cond_false,bindS]
  obtain ⟨hl1,hl2⟩:=Vkw 46 s
  have hne:=Vvb 46 s
  generalize spl 46 s=L at *
  unfold Ziz_L0 Yi4
  rw [Va7 (λi (_:Unit)=>(L,L,(L.length:Int),i,())) L (λi x _=>bif lab x then .inl () else .inr (.inl (2,()))) (λ_=>.inr (L,())) (λ_ _=>True) ?_ ?_ () trivial rounds (by rw [Vah]; omega)]
  ·rw [Vbl (λ_ x=>lab x),Vc1]
   simp only [bindS]
   cases L.all lab
   ·rfl
   ·simp only [cond_true,Ql]
    have hp:=List.length_pos_iff.2 hne
    rw [Vg6 (by omega) (by omega)]
    have:getI L ((L.length:Int) - 1)=some (lastL L):=by
     unfold getI
     rw [show decide ((0:Int)<=(L.length:Int) - 1)=true by simp; omega,show ((L.length:Int) - 1).toNat=L.length - 1 by omega]
     exact Ved L hne
    rw [this]
    simp only [bindS]
    have hm:lastL L∈L:=Qk (Ved L hne)
    rw [Vw3 _ (by have:=hl2 _ hm; omega)]
    simp only [bindS]
    rw [show decide (Lib.trimS (lastL L) [48,49,50,51,52,53,54,55,56,57]=[])=(lastL L).all isDig by rw [Qm,decide_eq_true_eq]; exact Vtx _]
    cases (lastL L).all isDig<;>rfl
  ·intro i x a hx _
   obtain ⟨hi,hx'⟩:=List.getElem?_eq_some_iff.1 hx
   refine ⟨?_,λ_ _=>trivial⟩
   simp only [Ziz_L0b]
   have hg:getI L (i:Int)=some x:=by simp [getI,hx]
   rw [hg,show decide ((i:Int) < (L.length:Int))=true by simp; omega,wI ((i:Int)+1) (by omega)]
   simp only [cond_true,bindS,Vec]
   cases lab x<;>rfl
  ·intro a _
   simp only [Ziz_L0b]
   simp
theorem Vjb (s:List UInt8):Zbz s=some ((),vali s,()):=by
 unfold Zbz vali
 by_cases h:100 < s.length
 ·rw [show decide ((100:Int) < (s.length:Int))=true by simp; omega]
  simp [h]
 ·rw [show decide ((100:Int) < (s.length:Int))=false by simp; omega,Vn7 s 46 (by omega)]
  simp only [h,decide_false,cond_false,bindS]
  obtain ⟨hl1,hl2⟩:=Vkw 46 s
  have hne:=Vvb 46 s
  generalize spl 46 s=L at *
  unfold Zbz_L0 Yi2
  rw [Va7 (λi (_:Unit)=>(L,i,())) L (λi x _=>bif lab x then .inl () else .inr (.inl (2,()))) (λ_=>.inr (L,())) (λ_ _=>True) ?_ ?_ () trivial rounds (by rw [Vah]; omega)]
  ·rw [Vbl (λ_ x=>lab x),Vc1]
   simp only [bindS]
   cases L.all lab
   ·rfl
   ·simp only [cond_true,Ql]
    have hp:=List.length_pos_iff.2 hne
    rw [Vg6 (by omega) (by omega)]
    rw [show (decide ((0:Int)<=(L.length:Int) - 1)&&decide ((L.length:Int) - 1 < (L.length:Int)))=true by simp; omega,show ((L.length:Int) - 1).toNat=L.length - 1 by omega,Ved L hne]
    simp only [cond_true,bindS]
    have hm:lastL L∈L:=Qk (Ved L hne)
    have hml:=hl2 _ hm
    generalize lastL L=x at *
    unfold Zbz_L2 Yi2
    rw [Va7 (λi (_:Unit)=>(x,i,())) x (λi y _=>bif isDig y then .inl () else .inr (.inl (0,()))) (λ_=>.inr ()) (λ_ _=>True) ?_ ?_ () trivial rounds (by rw [Vah]; omega)]
    ·rw [Vbl (λ_ x=>isDig x),Vc1]
     cases x.all isDig<;>rfl
    ·intro i y a hx _
     obtain ⟨hi,hx'⟩:=List.getElem?_eq_some_iff.1 hx
     refine ⟨?_,λ_ _=>trivial⟩
     simp only [Zbz_L2b]
     have hg:getI x (i:Int)=some y:=by simp [getI,hx]
     rw [hg,show decide ((i:Int) < (x.length:Int))=true by simp; omega,wI ((i:Int)+1) (by omega)]
     simp only [cond_true,bindS,Vlu]
     cases isDig y<;>rfl
    ·intro a _
     simp only [Zbz_L2b]
     simp
  ·intro i x a hx _
   obtain ⟨hi,hx'⟩:=List.getElem?_eq_some_iff.1 hx
   refine ⟨?_,λ_ _=>trivial⟩
   simp only [Zbz_L0b]
   rw [show (decide ((0:Int)<=(i:Int))&&decide ((i:Int) < (L.length:Int)))=true by simp; omega,show decide ((i:Int) < (L.length:Int))=true by simp; omega,wI ((i:Int)+1) (by omega),show ((i:Int)).toNat=i by omega,hx]
   simp only [cond_true,bindS,Vlv]
   cases lab x<;>rfl
  ·intro a _
   simp only [Zbz_L0b]
   simp
theorem Vhz {s:List UInt8} (h:vali s=0):s.length<=100:=by
 unfold vali at h
 by_cases h1:100 < s.length
 ·simp [h1] at h
 ·omega
def joinD (l:List (List UInt8)):List UInt8:=Lib.join l [46]
theorem Vc9:joinD []=[]:=rfl
theorem Vda (x:List UInt8):joinD [x]=x:=Lib.join_one x [46]
theorem Vci (x y:List UInt8) (r:List (List UInt8)):joinD (x::y::r)=x++46::joinD (y::r):=by
 unfold joinD
 rw [Lib.join_cons,Lib.join_cons]
 simp [Lib.joinTail,Qu]
theorem Vh0 (B:Nat):∀ l:List (List UInt8),(∀ x∈l,x.length<=B)->(joinD l).length<=l.length * (B+1)
 | [],_=>by simp [Vc9]
 | [x],h=>by
  rw [Vda]
  have:=h x (by simp)
  simp; omega
 | x::y::r,h=>by
  rw [Vci]
  have h1:=h x (by simp)
  have h2:=Vh0 B (y::r) (λz hz=>h z (by simp only [Qc] at hz |-; exact .inr hz))
  simp only [Qt,Qw] at h2 |-
  rw [Nat.add_mul (r.length+1) 1]
  omega
theorem Vlw:∀ l:List (List UInt8),(∀ x∈l,1<=x.length)->2 * l.length<=(joinD l).length+1
 | [],_=>by simp [Vc9]
 | [x],h=>by
  rw [Vda]
  have:=h x (by simp)
  simp; omega
 | x::y::r,h=>by
  rw [Vci]
  have h1:=h x (by simp)
  have h2:=Vlw (y::r) (λz hz=>h z (by simp only [Qc] at hz |-; exact .inr hz))
  simp only [Qt,Qw] at h2 |-
  omega
theorem Vhe:∀ (l:List (List UInt8)) (x:List UInt8),l≠[]->joinD (l++[x])=joinD l++([46]++x)
 | [],_,h=>absurd rfl h
 | [y],x,_=>by rw [Qp,Vci,Vda,Vda]; rfl
 | y::z::r,x,_=>by
  rw [Qh,Qh,Vci,<- Qh,Vhe (z::r) x (by simp),Vci]
  simp
theorem Vw4 (l:List (List UInt8)) (h1:l.length<=1000) (h2:∀ x∈l,x.length<=1000):Zjw l [46]=some ((),joinD l,()):=by
 unfold Zjw
 have:=Vh0 1000 l h2
 have h3:(Lib.join l [46]).length<=140737488355328:=by
  show (joinD l).length<=_
  have:l.length * 1001<=1000 * 1001:=Qs _ h1
  omega
 have h4:l.length<=140737488355328:=by omega
 simp only [h3,h4,decide_true,Q5,cond_true]
 rfl
theorem Vfy {a b:Nat} (h:a<=b):Nat.ble a b=true:=Eq.mpr Nat.ble_eq h
theorem Vty (l:List (List UInt8)) (h1:l.length<=1000000) (h2:∀ x∈l,x.length<=1000):Zfz l=some ((),joinD l,()):=by
 unfold Zfz
 have:Ok (Zfz_L0 (l,[],0,())) λz=>z.1=joinD l:=by
  unfold Zfz_L0 Yi3
  refine Ok.iter (λq=>q.1=l/\0<=q.2.2.1/\q.2.2.1<=(l.length:Int)/\q.2.1=joinD (l.take q.2.2.1.toNat)) (λq=>l.length - q.2.2.1.toNat) ⟨rfl,by simp,by simp,by simp [Vc9]⟩ (by rw [Vah]; dsimp only; omega) ?_
  rintro ⟨y0,y1,i,u⟩ ⟨e1,e2,e3,e4⟩
  dsimp only at *
  subst e1; subst e4
  simp only [Zfz_L0b]
  by_cases hi:i < (y0.length:Int)
  ·have hlt:i.toNat < y0.length:=by omega
   rw [Vco e2 hi,wI (i+1) (by omega)]
   simp only [hi,decide_true,cond_true,bindS]
   have hx:ati y0 i=y0[i.toNat]:=by simp [ati,hlt]
   have hxl:=h2 _ (Qx hlt)
   rw [<- hx] at hxl
   have hjl:(joinD (y0.take i.toNat)).length<=1000000 * 1001:=by
    have q1:=Vh0 1000 (y0.take i.toNat) (λx hx=>h2 x (Qr hx))
    have q2:(y0.take i.toNat).length * (1000+1)<=1000000 * 1001:=Qs _ (by rw [Qv]; omega)
    omega
   have et:y0.take (i+1).toNat=y0.take i.toNat++[ati y0 i]:=by
    rw [show (i+1).toNat=i.toNat+1 by omega,List.take_succ_eq_append_getElem hlt,hx]
   by_cases h0:0 < i
   ·rw [show decide (0 < i)=true by simpa using h0]
    simp only [cond_true]
    rw [Vfy (by simp; omega),Vfy (by simp; omega)]
    refine Ok.some ?_
    dsimp only
    refine ⟨⟨rfl,by omega,by omega,?_⟩,by omega⟩
    rw [et,Vhe]
    ·simp
    ·intro h
     have:=congrArg List.length h
     rw [Qv,Qz] at this
     omega
   ·have:i=0:=by omega
    subst this
    rw [show decide ((0:Int) < 0)=false by simp]
    simp only [cond_false]
    rw [Vfy (by simp only [Int.toNat_zero,Q2,Vc9,Qz]; omega)]
    refine Ok.some ?_
    dsimp only
    refine ⟨⟨rfl,by omega,by omega,?_⟩,by omega⟩
    rw [et]
    simp [Vc9,Vda]
  ·simp only [hi,decide_false,cond_false]
   refine Ok.some ?_
   dsimp only
   rw [show i.toNat=y0.length by omega,List.take_length]
 obtain ⟨z,hz,hq⟩:=this
 rw [hz]
 simp only [bindS,hq]
def fok (s:Jb):Bool:=s.jb.all lab&&(decide (vali (joinD s.jb)=0)&&(!(s.jaq&&s.jy)&&!(s.jy&&decide (s.jb.length < 2))))
def ftext (s:Jb):List UInt8:=(bif s.jaq then [42,46] else bif s.jy then [33] else [])++joinD s.jb
def fmt (s:Jb):List UInt8×Int:=bif fok s then (ftext s,0) else ([],4)
theorem Vky {x:List UInt8} (h:lab x=true):1<=x.length/\x.length<=63:=by
 unfold lab at h
 simp only [Qf,decide_eq_true_eq] at h
 exact h.1
theorem Vw5 {s:Jb} (h:fok s=true):s.jb.length<=50:=by
 unfold fok at h
 simp only [Qf,decide_eq_true_eq,Qy] at h
 have h1:=Vhz h.2.1
 have h2:=Vlw s.jb λx hx=>(Vky (h.1 x hx)).1
 omega
theorem Vff (s:Jb) (hl:s.jb.length<=100):Zhy_L0 ((s,()),s.jb,(s.jb.length:Int),0,())=some (bif s.jb.all lab then .inr ((s,()),()) else .inl ([],4,())):=by
 unfold Zhy_L0 Yi4
 rw [Va7 (λi (_:Unit)=>((s,()),s.jb,(s.jb.length:Int),i,())) s.jb (λi x _=>bif lab x then .inl () else .inr (.inl ([],4,()))) (λ_=>.inr ((s,()),())) (λ_ _=>True) ?_ ?_ () trivial rounds (by rw [Vah]; omega)]
 ·rw [Vbl (λ_ x=>lab x),Vc1]
 ·intro i x a hx _
  obtain ⟨hi,hx'⟩:=List.getElem?_eq_some_iff.1 hx
  refine ⟨?_,λ_ _=>trivial⟩
  simp only [Zhy_L0b]
  have hg:getI s.jb (i:Int)=some x:=by simp [getI,hx]
  rw [hg,show decide ((i:Int) < (s.jb.length:Int))=true by simp; omega,wI ((i:Int)+1) (by omega)]
  simp only [cond_true,bindS,Vec]
  cases lab x<;>rfl
 ·intro a _
  simp only [Zhy_L0b]
  simp
theorem Vh1 (s:Jb):Zhy s=some ((),(fmt s).1,(fmt s).2,()):=by
 by_cases hl:s.jb.length<=100
 ·unfold Zhy fmt fok
  rw [show decide ((100:Int) < (s.jb.length:Int))=false by simp; omega,Vff s hl]
  cases ha:s.jb.all lab
  ·cases hw:s.jaq<;>cases he:s.jy<;>by_cases h2:s.jb.length < 2<;>simp [h2]<;>rfl
  ·have hb:∀ x∈s.jb,x.length<=1000:=λx hx=>by
    have:=Vky (List.all_eq_true.1 ha x hx); omega
   have e2:decide ((s.jb.length:Int) < 2)=decide (s.jb.length < 2):=by rw [decide_eq_decide]; omega
   simp only [cond_true,cond_false,bindS,Ql,Qb,e2]
   rw [Vw4 _ (by omega) hb]
   simp only [bindS,Vkx,ftext]
   by_cases hv:vali (joinD s.jb)=0
   ·have hvl:=Vhz hv
    simp only [hv,decide_true,Q4,cond_false,Qb]
    rw [Vfy (show ([42,46]:List UInt8).length+(joinD s.jb).length<=9223372036854775807 by simp; omega),Vfy (show ([33]:List UInt8).length+(joinD s.jb).length<=9223372036854775807 by simp; omega)]
    generalize decide (s.jb.length < 2)=q
    cases s.jaq<;>cases s.jy<;>cases q<;>rfl
   ·simp only [hv,decide_false,Qn,cond_true,Q3,cond_false]
    generalize decide (s.jb.length < 2)=q
    cases s.jaq<;>cases s.jy<;>cases q<;>rfl
 ·have:fok s=false:=by
   cases h:fok s
   ·rfl
   ·have:=Vw5 h; omega
  unfold Zhy fmt
  rw [this,show decide ((100:Int) < (s.jb.length:Int))=true by simp; omega]
  rfl
theorem Veu (s:Jb) (hl:s.jb.length<=1000000):Zbb_L0 ((s,()),0,())=some (bif s.jb.all lab then .inr ((s,()),()) else .inl ([],4,())):=by
 unfold Zbb_L0 Yi2
 rw [Va7 (λi (_:Unit)=>((s,()),i,())) s.jb (λi x _=>bif lab x then .inl () else .inr (.inl ([],4,()))) (λ_=>.inr ((s,()),())) (λ_ _=>True) ?_ ?_ () trivial rounds (by rw [Vah]; omega)]
 ·rw [Vbl (λ_ x=>lab x),Vc1]
 ·intro i x a hx _
  obtain ⟨hi,hx'⟩:=List.getElem?_eq_some_iff.1 hx
  refine ⟨?_,λ_ _=>trivial⟩
  simp only [Zbb_L0b]
  have hg:getI s.jb (i:Int)=some x:=by simp [getI,hx]
  rw [hg,show decide ((i:Int) < (s.jb.length:Int))=true by simp; omega,wI ((i:Int)+1) (by omega)]
  simp only [cond_true,bindS,Vlv]
  cases lab x<;>rfl
 ·intro a _
  simp only [Zbb_L0b]
  simp
theorem Vg8 (s:Jb) (hl:s.jb.length<=1000000):Zbb s=some ((),(fmt s).1,(fmt s).2,()):=by
 unfold Zbb fmt fok
 rw [Veu s hl]
 cases ha:s.jb.all lab
 ·rfl
 ·have hb:∀ x∈s.jb,x.length<=1000:=λx hx=>by
   have:=Vky (List.all_eq_true.1 ha x hx); omega
  have e2:decide ((s.jb.length:Int) < 2)=decide (s.jb.length < 2):=by rw [decide_eq_decide]; omega
  simp only [cond_true,cond_false,bindS,Ql,Qb,e2]
  rw [Vty _ hl hb]
  simp only [bindS,Vjb,ftext]
  by_cases hv:vali (joinD s.jb)=0
  ·have hvl:=Vhz hv
   simp only [hv,decide_true,Q4,cond_false,Qb]
   rw [Vfy (show ([42,46]:List UInt8).length+(joinD s.jb).length<=9223372036854775807 by simp; omega),Vfy (show ([33]:List UInt8).length+(joinD s.jb).length<=9223372036854775807 by simp; omega)]
   generalize decide (s.jb.length < 2)=q
   cases s.jaq<;>cases s.jy<;>cases q<;>rfl
  ·simp only [hv,decide_false,Qn,cond_true,Q3,cond_false]
theorem Vjc (a b:List (List UInt8)) (hb:b.length < 1000000):Zbl a b=some ((),decide (a=b),()):=by
 unfold Zbl
 by_cases h:a.length=b.length
 ·rw [show (!decide ((a.length:Int)=(b.length:Int)))=false by simp; omega]
  simp only [cond_false]
  unfold Zbl_L0 Yi3
  rw [Va7 (λi (_:Unit)=>(a,b,i,())) a (λi x _=>bif decide (b[i]? = some x) then .inl () else .inr (.inl (false,()))) (λ_=>.inr ()) (λ_ _=>True) ?_ ?_ () trivial rounds (by rw [Vah]; omega)]
  ·rw [Vbl (λi x=>decide (b[i]? = some x))]
   have e:allI (λi x=>decide (b[i]? = some x)) 0 a=decide (a=b):=by
    rw [Qm,Vi7,decide_eq_true_eq]
    simp only [Nat.zero_add,decide_eq_true_eq]
    constructor
    ·intro hp
     apply List.ext_getElem?
     intro i
     by_cases hi:i < a.length
     ·rw [hp i a[i] (by simp [hi])]; simp [hi]
     ·rw [Qq (by omega),Qq (by omega)]
    ·rintro rfl i x hx
     exact hx
   rw [e]
   cases decide (a=b)<;>rfl
  ·intro i x _ hx _
   obtain ⟨hi,hx'⟩:=List.getElem?_eq_some_iff.1 hx
   refine ⟨?_,λ_ _=>trivial⟩
   simp only [Zbl_L0b]
   have hg:getI a (i:Int)=some x:=by simp [getI,hx]
   have hg2:getI b (i:Int)=some b[i]:=by simp [getI]
   rw [hg,hg2,show decide ((i:Int) < (a.length:Int))=true by simp; omega,wI ((i:Int)+1) (by omega)]
   simp only [cond_true,bindS]
   have:decide (b[i]? = some x)=decide (x=b[i]):=by
    rw [decide_eq_decide,Qa (by omega),Qj]
    exact eq_comm
   rw [this]
   cases decide (x=b[i])<;>rfl
  ·intro _ _
   simp only [Zbl_L0b]
   simp
 ·rw [show (!decide ((a.length:Int)=(b.length:Int)))=true by simp; omega]
  have:¬ a=b:=λe=>h (by rw [e])
  simp [this]
theorem Vkz (a b:Jb) (hb:b.jb.length < 1000000):Zby a b=some ((),decide (a=b),()):=by
 unfold Zby
 rw [Vjc _ _ hb]
 obtain ⟨a1,a2,a3⟩:=a
 obtain ⟨b1,b2,b3⟩:=b
 simp only [bindS,Jb.mk.injEq]
 by_cases h:a1=b1
 ·simp only [h,decide_true,cond_true,true_and]
  cases a2<;>cases b2<;>cases a3<;>cases b3<;>rfl
 ·simp [h]
theorem Vyo (v:Int) (m:Nat) (h0:0 < m) (h1:m < 1000000):∃ k:Nat,k < m/\Zid v (m:Int)=some ((),(k:Int),()):=by
 unfold Zid
 have e:(Qd 64 (m:Int)).toNat=m:=by
  rw [BitVec.ofInt_natCast,BitVec.toNat_ofNat,Nat.mod_eq_of_lt (by omega)]
 have hz:decide (Qd 64 (m:Int)=0)=false:=by
  rw [decide_eq_false_iff_not]
  intro h
  rw [h] at e
  simp at e
  omega
 rw [hz]
 have hlt:(Qd 64 v % Qd 64 (m:Int)).toNat < m:=by
  rw [BitVec.toNat_umod,e]
  exact Nat.mod_lt _ h0
 exact ⟨_,hlt,by dsimp only; rw [Vg6 (by omega) (by omega)]; rfl⟩
def all8:List Jb:=[⟨[[99,111,109]],false,false⟩,⟨[[117,107]],false,false⟩,⟨[[99,111],[117,107]],false,false⟩,⟨[[99,107]],true,false⟩,⟨[[119,119,119],[99,107]],false,true⟩,⟨[[103,105,116,104,117,98],[105,111]],false,false⟩,⟨[[116,101,115,116]],false,false⟩,⟨[[98],[99,111],[117,107]],false,true⟩]
def incl (n:Int) (i:Int):Bool:=decide (Q0 .i64 ((Qd (Qo .i64) (Int.fdiv n (2 ^ (min (Qd 64 i).toNat (Qo .i64)))) &&& Qd (Qo .i64) (1:Int)).toNat:Int)=0)
theorem Vh2 {n:Nat} (h:n < 10000000):small n 32=true:=by
 unfold small
 simp only [decide_eq_true_eq]
 omega
theorem Vtz (n:Int):∃ r,Zfh n=some ((),r,())/\r.length<=8/\∀ s∈r,∃ j:Nat,all8[j]? = some s/\incl n j=true:=by
 have:Ok (Zfh_L0 (n,all8,[],0,())) λz=>z.1.length<=8/\∀ s∈z.1,∃ j:Nat,all8[j]? = some s/\incl n j=true:=by
  unfold Zfh_L0 Yi4
  refine Ok.iter (λq=>q.1=n/\q.2.1=all8/\0<=q.2.2.2.1/\q.2.2.2.1<=8/\(q.2.2.1.length:Int)<=q.2.2.2.1/\∀ s∈q.2.2.1,∃ j:Nat,all8[j]? = some s/\incl n j=true) (λq=>8 - q.2.2.2.1.toNat) ⟨rfl,rfl,by simp,by simp,by simp,by simp⟩ (by rw [Vah]; dsimp only; omega) ?_
  rintro ⟨y0,y1,y2,i,u⟩ ⟨h1,h2,h3,h4,h5,h6⟩
  dsimp only at *
  subst h1; subst h2
  have hl8:all8.length=8:=rfl
  simp only [Zfh_L0b]
  by_cases hi:i < 8
  ·rw [hl8,show decide (i < ((8:Nat):Int))=true by simp; omega,wI (i+1) (by omega)]
   simp only [cond_true]
   refine Ok.cond (λhc=>?_) (λhc=>?_)
   ·rw [show (decide ((0:Int)<=i)&&true)=true by simp; omega]
    have hlt:i.toNat < all8.length:=by omega
    rw [Qa hlt]
    simp only [cond_true,bindS]
    rw [Vh2 (by simp; omega)]
    refine Ok.some ?_
    dsimp only
    refine ⟨⟨rfl,rfl,by omega,by omega,by simp; omega,?_⟩,by omega⟩
    intro s hs
    rcases List.mem_append.1 hs with hs | hs
    ·exact h6 s hs
    ·simp only [List.mem_singleton] at hs
     refine ⟨i.toNat,by rw [hs,Qa hlt],?_⟩
     rw [show ((i.toNat:Nat):Int)=i by omega]
     exact hc
   ·refine Ok.some ?_
    dsimp only
    exact ⟨⟨rfl,rfl,by omega,by omega,by omega,h6⟩,by omega⟩
  ·rw [hl8,show decide (i < ((8:Nat):Int))=false by simp; omega]
   refine Ok.some ?_
   dsimp only
   exact ⟨by omega,h6⟩
 obtain ⟨⟨r,u⟩,h1,h2,h3⟩:=this
 refine ⟨r,?_,h2,h3⟩
 show (Zfh_L0 (n,all8,[],0,())).bind _=_
 rw [h1]
 rfl
theorem Vt0 {s:Jb} {j:Nat} (h:all8[j]? = some s):s.jb.length<=3:=by
 have:∀ x∈all8,x.jb.length<=3:=by decide
 exact this s (Qk h)
end Go.Proofs.YtnnohacnlkdlgaaGreatDoor

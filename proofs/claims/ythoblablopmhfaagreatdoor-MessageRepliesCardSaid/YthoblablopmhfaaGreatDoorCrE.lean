/- Out of the texts about items of the chapter on items (cbor): what this chapter needs. Written by a program. -/
import Derived.Test.YthoblablopmhfaaGreatDoorCrD
import Derived.Test.YthoblablopmhfaaGreatDoorLib8
namespace Go.Proofs.YthoblablopmhfaaGreatDoor
set_option linter.unusedVariables false
set_option linter.unusedSimpArgs false
set_option maxRecDepth 100000
open Go Go.Abs
def addI (x:ApiItem):Nat:=bif decide (x.kind=5) then x.number.toNat else bif decide (x.kind=6) then 2 * x.number.toNat else 0
def skp:List ApiItem→Nat→Option Nat
 | [],0=>some 0
 | [],_+1=>none
 | _::_,0=>some 0
 | x::r,n+1=>bif isN x.kind&&decide (512 < x.number.toNat) then none else (skp r (n+addI x)).map (·+1)
theorem Vkd:∀ l,skp l 0=some 0
 | []=>rfl
 | _::_=>rfl
def skZ (at0:Nat):Option Nat→(Int×Bool×Unit)⊕(Int×Unit)
 | none=>.inl (0,false,())
 | some k=>.inr (((at0+k:Nat):Int),())
theorem Vbka {x:ApiItem} (h:(isN x.kind&&decide (512 < x.number.toNat))=false):addI x≤1024:=by
 unfold addI
 simp only [isN,Bool.and_eq_false_iff,decide_eq_false_iff_not,Bool.or_eq_false_iff] at h
 by_cases h5:x.kind=5
 ·simp [h5] at h ⊢; omega
 ·by_cases h6:x.kind=6
  ·simp [h6] at h ⊢; omega
  ·simp [h5,h6]
theorem Vxw (l:List ApiItem) (hl:l.length < 1000000):∀ (r:List ApiItem) (at0 need f:Nat),l.drop at0=r→at0≤l.length→need≤1024 * (at0+1)→r.length < f →
  iter (fun (y:((List (ApiItem))×Int×Int×Unit))=>cbor_Skip_L0b y.1 y.2.1 y.2.2.1) f (l,(at0:Int),(need:Int),())=some (skZ at0 (skp r need)):=by
 intro r
 induction r with
 | nil=>
  intro at0 need f hr ha hn hf
  have hal:at0=l.length:=by
   have:=congrArg List.length hr
   simp at this
   omega
  obtain ⟨f,rfl⟩:∃ g,f=g+1:=⟨f - 1,by omega⟩
  rw [Vae]
  dsimp only
  unfold cbor_Skip_L0b
  cases need with
  | zero=>rfl
  | succ need=>
   rw [show decide ((0:Int) < ((need+1:Nat):Int))=true from decide_eq_true (by omega),show decide ((l.length:Int)≤(at0:Int))=true from decide_eq_true (by omega)]
   rfl
 | cons x r ih=>
  intro at0 need f hr ha hn hf
  have hlt:at0 < l.length:=by
   have:=congrArg List.length hr
   simp at this
   omega
  have hx:l[at0]? = some x:=by
   have:=congrArg (·[0]?) hr
   simpa using this
  have hr2:l.drop (at0+1)=r:=by
   have:=congrArg (List.drop 1) hr
   simpa [List.drop_drop] using this
  have eg:getI l (at0:Int)=some x:=by unfold getI; simp [hx]
  simp only [List.length_cons] at hf
  obtain ⟨f,rfl⟩:∃ g,f=g+1:=⟨f - 1,by omega⟩
  rw [Vae]
  dsimp only
  cases need with
  | zero=>rfl
  | succ need=>
   have e1 : cbor_Skip_L0b l (at0 : Int) ((need+1 : Nat) : Int) = some (bif isN x.kind&&decide (512 < x.number.toNat) then .inr (.inl (0, false, ())) else .inl (l, ((at0+1 : Nat) : Int), ((need+addI x : Nat) : Int), ())) := by
    unfold cbor_Skip_L0b
    rw [show decide ((0:Int) < ((need+1:Nat):Int))=true from decide_eq_true (by omega),show decide ((l.length:Int)≤(at0:Int))=false from decide_eq_false (by omega),eg,Vad (n:=(at0:Int)+1) (by omega) (by omega),Vad (n:=((need+1:Nat):Int) - 1) (by omega) (by omega),show ((need+1:Nat):Int) - 1=(need:Int) by omega,show (512#64).toNat=512 from rfl]
    simp only [cond_true,cond_false,bindS]
    unfold isN addI
    by_cases h5:x.kind=5
    ·by_cases hm:512 < x.number.toNat
     ·simp [h5,hm]
     ·rw [Vad (n:=(x.number.toNat:Int)) (by omega) (by omega),Vad (n:=(need:Int)+(x.number.toNat:Int)) (by omega) (by omega)]
      simp [h5,hm]
    ·by_cases h6:x.kind=6
     ·by_cases hm:512 < x.number.toNat
      ·simp [h6,hm]
      ·rw [Vad (n:=(x.number.toNat:Int)) (by omega) (by omega),Vad (n:=(need:Int)+(x.number.toNat:Int)) (by omega) (by omega),Vad (n:=(need:Int)+(x.number.toNat:Int)+(x.number.toNat:Int)) (by omega) (by omega)]
       simp [h6,hm]
       omega
     ·simp [h5,h6]
   rw [e1,bindS]
   simp only [skp]
   cases hb:(isN x.kind&&decide (512 < x.number.toNat))
   ·simp only [cond_false,Sum.elim_inl]
    have:=Vbka hb
    rw [ih (at0+1) (need+addI x) f hr2 (by omega) (by omega) (by omega)]
    cases skp r (need+addI x) with
    | none=>rfl
    | some k=>
     simp only [Option.map_some,skZ]
     rw [show at0+1+k=at0+(k+1) by omega]
   ·rfl
def skO (l:List ApiItem) (a:Int):Int×Bool:=bif decide (a < 0) then (0,false) else bif decide ((l.length:Int)≤a) then (0,false) else match skp (l.drop a.toNat) 1 with
 | none=>(0,false)
 | some k=>(((a.toNat+k:Nat):Int),true)
theorem Vxx (a:Nat) (o:Option Nat):(Sum.elim (fun (z6:(Int×Bool×Unit))=>(some ((),(z6.1,z6.2.1,())):Option (Unit×(Int×Bool×Unit)))) (fun (z7:(Int×Unit))=>(some ((),(z7.1,true,())))) (skZ a o))=some ((),(match o with | none=>((0:Int),false) | some k=>(((a+k:Nat):Int),true)).1,(match o with | none=>((0:Int),false) | some k=>(((a+k:Nat):Int),true)).2,()):=by
 cases o<;>rfl
theorem Vrx (l:List ApiItem) (a:Int) (hl:l.length < 1000000):cbor_Skip l a=some ((),(skO l a).1,(skO l a).2,()):=by
 unfold cbor_Skip skO
 by_cases h1:a < 0
 ·simp [h1]
 ·rw [show decide (a < 0)=false from decide_eq_false h1]
  by_cases h2:(l.length:Int)≤a
  ·simp [h2]
  ·rw [show decide ((l.length:Int)≤a)=false from decide_eq_false h2]
   obtain ⟨n,rfl⟩:∃ n:Nat,a=(n:Int):=⟨a.toNat,by omega⟩
   have:=Vxw l hl (l.drop n) n 1 rounds rfl (by omega) (by omega) (by rw [Vam]; simp; omega)
   unfold cbor_Skip_L0
   simp only [cond_false]
   rw [show (1:Int)=((1:Nat):Int) from rfl,this,bindS,Int.toNat_natCast,Vxx]
theorem Vot (o:Option Nat) (a b:Nat):(o.map (·+a)).map (·+b)=o.map (·+(b+a)):=by
 cases o with
 | none=>rfl
 | some k=>simp; omega
theorem map0 (o:Option Nat):o=o.map (·+0):=by cases o<;>rfl
theorem W_skp : ∀ (f : Nat) (s : List ApiItem) (n d : Nat) (key : Bool) (b : List UInt8), (W getL f s n d key b).1 = 0→∀ m, skp s (m+1) = (skp (W getL f s n d key b).2.2 m).map (·+(W getL f s n d key b).2.1.length)
 | 0,s,n,d,key,b,h=>by simp [W] at h
 | f+1, s, n, d, key, b, h => by
  have ih:=W_skp f
  intro m
  unfold W at h ⊢
  dsimp only at h ⊢
  rcases hg:getL n d key b s with ⟨e,x,t⟩
  rw [hg] at h
  dsimp only at h ⊢
  by_cases he:e=0
  ·subst he
   simp only [decide_true,cond_true] at h ⊢
   have hs:s=x::t∧(isN x.kind&&decide (512 < x.number.toNat))=false:=by
    cases s with
    | nil=>simp [getL] at hg
    | cons y r=>
     simp only [getL,Prod.mk.injEq] at hg
     obtain ⟨g1,rfl,rfl⟩:=hg
     refine ⟨rfl,?_⟩
     have:=(Vdf (Vbf g1).2.2.1).2
     cases hn:isN y.kind
     ·rfl
     ·rw [decide_eq_false (by have:=this hn; omega)]; rfl
   rw [hs.1]
   simp only [skp,hs.2,cond_false,List.length_cons]
   have key2:∀ q:Res (List ApiItem),skp t (m+addI x)=(skp q.2.2 m).map (·+q.2.1.length)→(skp t (m+addI x)).map (·+1)=(skp q.2.2 m).map (·+(q.2.1.length+1)):=by
    intro q hq
    rw [hq,Vot,Nat.add_comm 1]
   refine key2 _ ?_
   by_cases h5:x.kind=5
   ·simp only [h5,decide_true,cond_true] at h ⊢
    have loop:∀ (k:Nat) (t:List ApiItem) (n:Nat),(LA (fun s n=>W getL f s n (d+1) false []) k t n).1=0→skp t (m+k)=(skp (LA (fun s n=>W getL f s n (d+1) false []) k t n).2.2 m).map (·+(LA (fun s n=>W getL f s n (d+1) false []) k t n).2.1.length):=by
     intro k
     induction k with
     | zero=>intro t n _; exact map0 _
     | succ k ihk=>
      intro t n h
      unfold LA at h ⊢
      have i1:=ih t n (d+1) false []
      generalize W getL f t n (d+1) false []=w at h i1 ⊢
      by_cases hw:w.1=0
      ·rw [show decide (w.1=0)=true by simpa using hw] at h ⊢
       simp only [cond_true] at h ⊢
       rw [← Nat.add_assoc,i1 hw (m+k),ihk _ _ h,Vot,List.length_append]
      ·rw [show decide (w.1=0)=false by simpa using hw] at h
       exact absurd h hw
    have:=loop _ _ _ h
    unfold addI
    simp only [h5,decide_true,cond_true]
    exact this
   ·by_cases h6:x.kind=6
    ·simp only [h6,decide_true,cond_true,Int.reduceEq,decide_false,cond_false] at h ⊢
     have loop:∀ (k:Nat) (t:List ApiItem) (n:Nat) (l:List UInt8),(LM (fun s n last=>W getL f s n (d+1) true last) (fun s n=>W getL f s n (d+1) false []) k t n l).1=0→skp t (m+2 * k)=(skp (LM (fun s n last=>W getL f s n (d+1) true last) (fun s n=>W getL f s n (d+1) false []) k t n l).2.2 m).map (·+(LM (fun s n last=>W getL f s n (d+1) true last) (fun s n=>W getL f s n (d+1) false []) k t n l).2.1.length):=by
      intro k
      induction k with
      | zero=>intro t n l _; exact map0 _
      | succ k ihk=>
       intro t n l h
       unfold LM at h ⊢
       dsimp only at h ⊢
       have i1:=ih t n (d+1) true l
       generalize W getL f t n (d+1) true l=w at h i1 ⊢
       by_cases hw:w.1=0
       ·rw [show decide (w.1=0)=true by simpa using hw] at h ⊢
        simp only [cond_true] at h ⊢
        have i2:=ih w.2.2 (n+w.2.1.length) (d+1) false []
        generalize W getL f w.2.2 (n+w.2.1.length) (d+1) false []=v at h i2 ⊢
        by_cases hv:v.1=0
        ·rw [show decide (v.1=0)=true by simpa using hv] at h ⊢
         simp only [cond_true] at h ⊢
         rw [show m+2 * (k+1)=m+2 * k+1+1 by omega,i1 hw (m+2 * k+1),i2 hv (m+2 * k),ihk _ _ _ h]
         simp only [Vot,List.length_append]
        ·rw [show decide (v.1=0)=false by simpa using hv] at h
         exact absurd h hv
       ·rw [show decide (w.1=0)=false by simpa using hw] at h
        exact absurd h hw
     have:=loop _ _ _ _ h
     unfold addI
     simp only [h6,decide_true,cond_true,Int.reduceEq,decide_false,cond_false]
     exact this
    ·simp only [h5,h6,decide_false,cond_false]
     unfold addI
     simp only [h5,h6,decide_false,cond_false]
     exact map0 _
  ·rw [show decide (e=0)=false by simpa using he] at h
   exact absurd h he
inductive PairsAt:Nat→List ApiItem→List ApiItem→List (ApiItem×List ApiItem)→Prop
 | nil (t:List ApiItem):PairsAt 0 t t []
 | cons {k:Nat} {x:ApiItem} {v r t:List ApiItem} {ps:List (ApiItem×List ApiItem)} (hx:isN x.kind=false) (hv:∀ m,skp (v++r) (m+1)=(skp r m).map (·+v.length)) (h0:v≠[]) (h:PairsAt k r t ps):PairsAt (k+1) (x::(v++r)) t ((x,v)::ps)
theorem Vzn {l:List ApiItem} (h:valO l=0):W getL 12 l 0 0 false []=(0,l,[]):=by
 obtain ⟨m1,m2⟩:=Vrh Vnf 12 (by omega) l
 have hm:=(Vee h).1
 by_cases hw:(W getL 12 l 0 0 false []).1=0
 ·rw [← m2 hw,hm]
 ·have:=m1 hw
  rw [hm] at this
  exact absurd this.symm hw
theorem Vry {l:List ApiItem} (h:valO l=0):l≠[]:=by
 intro e
 have:=Vzn h
 subst e
 simp [W,getL] at this
def lkP (key:BitVec 64):List (ApiItem×List ApiItem)→List ApiItem×Bool
 | []=>([],false)
 | p::r=>bif decide (p.1.kind=1)&&decide (p.1.number=key) then (p.2,true) else lkP key r
theorem PairsAt.len {k:Nat} {s t:List ApiItem} {ps:List (ApiItem×List ApiItem)} (h:PairsAt k s t ps):ps.length=k:=by
 induction h with
 | nil=>rfl
 | cons _ _ _ _ ih=>simp [ih]
theorem Vzo {l:List ApiItem} {a:Nat} {v r:List ApiItem} (h:l.drop a=v++r) (hv:∀ m,skp (v++r) (m+1)=(skp r m).map (·+v.length)) (h0:v≠[]):skO l (a:Int)=(((a+v.length:Nat):Int),true):=by
 have h1:0 < v.length:=List.length_pos_iff.2 h0
 have hl:=congrArg List.length h
 rw [List.length_drop,List.length_append] at hl
 have h2:=hv 0
 rw [Vkd,Nat.zero_add] at h2
 unfold skO
 rw [show decide ((a:Int) < 0)=false from decide_eq_false (by omega),show decide ((l.length:Int)≤(a:Int))=false from decide_eq_false (by omega),Int.toNat_natCast,h,h2]
 simp
def LkR (key:BitVec 64) (ps:List (ApiItem×List ApiItem)) (z:(List ApiItem×Bool×Unit)⊕Unit):Prop:=(Sum.elim (fun (z9:((List (ApiItem))×Bool×Unit))=>(some ((),(z9.1,z9.2.1,())):Option (Unit×(List ApiItem×Bool×Unit)))) (fun (z10:(Unit))=>(some ((),([],false,())))) z)=some ((),(lkP key ps).1,(lkP key ps).2,())
theorem Vou {l v r:List ApiItem} {a:Nat} (h:l.drop a=v++r):List.drop a (List.take (a+v.length) l)=v:=by
 rw [List.drop_take,h,show a+v.length - a=v.length by omega]
 simp
theorem Vxy (l:List ApiItem) (hl:l.length < 1000000) (key:BitVec 64) (N:BitVec 64) (hN:N.toNat≤512):∀ (k i a f:Nat) (s:List ApiItem) (ps:List (ApiItem×List ApiItem)),PairsAt k s [] ps→i+k=N.toNat→l.drop a=s→a≤l.length→k < f →
  ∃ z,iter (fun (y:((List (ApiItem))×(BitVec 64)×Int×(BitVec 64)×(BitVec 64)×Unit))=>Zdk_L0b y.1 y.2.1 y.2.2.1 y.2.2.2.1 y.2.2.2.2.1) f (l,key,(a:Int),N,BitVec.ofNat 64 i,())=some z∧LkR key ps z:=by
 intro k
 induction k with
 | zero=>
  intro i a f s ps hp hi hs ha hf
  obtain ⟨f,rfl⟩:∃ g,f=g+1:=⟨f - 1,by omega⟩
  rw [Vae]
  have hps:ps=[]:=List.length_eq_zero_iff.1 hp.len
  subst hps
  refine ⟨.inr (),?_,rfl⟩
  dsimp only
  unfold Zdk_L0b
  rw [bvn i (by omega),show decide (i < N.toNat)=false from decide_eq_false (by omega)]
  rfl
 | succ k ih=>
  intro i a f s ps hp hi hs ha hf
  obtain ⟨f,rfl⟩:∃ g,f=g+1:=⟨f - 1,by omega⟩
  cases hp with
  | @cons _ x v r _ ps hx hv h0 hp=>
  have hd1:l[a]? = some x:=by
   have:=congrArg (·[0]?) hs
   simpa using this
  have hd2:l.drop (a+1)=v++r:=by
   have:=congrArg (List.drop 1) hs
   simpa [List.drop_drop] using this
  have hlen:=congrArg List.length hd2
  rw [List.length_drop,List.length_append] at hlen
  have hv1:0 < v.length:=List.length_pos_iff.2 h0
  have hd3:l.drop (a+1+v.length)=r:=by
   rw [← List.drop_drop,hd2]; simp
  have e1:Zdk_L0b l key (a:Int) N (BitVec.ofNat 64 i)=bif decide (x.kind=1)&&decide (x.number=key) then some (Sum.inr (Sum.inl (v,true,()))) else some (Sum.inl (l,key,((a+1+v.length:Nat):Int),N,BitVec.ofNat 64 (i+1),())):=by
   unfold Zdk_L0b
   rw [bvn i (by omega),show decide (i < N.toNat)=true from decide_eq_true (by omega),Vad (n:=(a:Int)+1) (by omega) (by omega),show (a:Int)+1=((a+1:Nat):Int) from rfl,Vrx l _ hl,Vzo hd2 hv h0,bvs i (by omega),Vdo hd1]
   simp only [cond_true,bindS,Bool.not_true,cond_false]
   cases h1:decide (x.kind=1)
   ·simp only [Bool.false_and,cond_false]
   ·simp only [Bool.true_and,cond_true]
    cases h2:decide (x.number=key)
    ·simp only [cond_false]
    ·simp only [cond_true,Int.toNat_natCast]
     rw [show (decide ((0:Int)≤((a+1+v.length:Nat):Int))&&decide (((a+1+v.length:Nat):Int)≤(l.length:Int)))=true by (rw [Bool.and_eq_true,decide_eq_true_eq,decide_eq_true_eq]; exact ⟨by omega,by omega⟩),show (decide ((0:Int)≤((a+1:Nat):Int))&&decide (((a+1:Nat):Int)≤((a+1+v.length:Nat):Int)))=true by (rw [Bool.and_eq_true,decide_eq_true_eq,decide_eq_true_eq]; exact ⟨by omega,by omega⟩),Vou hd2]
     simp only [cond_true]
     unfold Zdg
     rw [show decide (v.length≤1000000)=true from decide_eq_true (by omega)]
     rfl
  rw [Vae]
  dsimp only
  rw [e1]
  cases hm:(decide (x.kind=1)&&decide (x.number=key))
  ·simp only [cond_false,bindS,Sum.elim_inl]
   obtain ⟨z,z1,z2⟩:=ih (i+1) (a+1+v.length) f r ps hp (by omega) hd3 (by omega) (by omega)
   refine ⟨z,z1,?_⟩
   unfold LkR lkP
   rw [hm]
   exact z2
  ·refine ⟨_,rfl,?_⟩
   unfold LkR lkP
   rw [hm]
   rfl
theorem Vg0 {a b:Int} (h0:0≤a) (h1:a < b):(decide ((0:Int)≤a)&&decide (a < b))=true:=by
 rw [Bool.and_eq_true,decide_eq_true_eq,decide_eq_true_eq]; exact ⟨h0,h1⟩
def fau:List (List ApiItem)→Int
 | []=>0
 | l::r=>bif decide (valO l=0) then fau r else valO l
def light1 (v:List (List ApiItem)):Prop:=∀ l∈v,l.length≤600∧∀ x∈l,x.data.length < 100000
theorem Vlv (v:List (List ApiItem)) (hv:light1 v) (hl:v.length≤1000):Zdl v=some ((),fau v,()):=by
 have key:∀ (r:List (List ApiItem)) (j f:Nat),v.drop j=r→r.length < f→iter (fun (y:((List (List ApiItem))×Int×Int×Unit))=>Zdl_L0b y.1 y.2.1 y.2.2.1) f (v,(v.length:Int),(j:Int),())=some (bif decide (fau r=0) then .inr () else .inl (fau r,())):=by
  intro r
  induction r with
  | nil=>
   intro j f hr hf
   obtain ⟨f,rfl⟩:∃ g,f=g+1:=⟨f - 1,by omega⟩
   have hjl:v.length≤j:=by
    have:=congrArg List.length hr
    simp at this
    omega
   rw [Vae]
   dsimp only
   unfold Zdl_L0b
   rw [show decide ((j:Int) < (v.length:Int))=false from decide_eq_false (by omega)]
   rfl
  | cons l r ih=>
   intro j f hr hf
   obtain ⟨f,rfl⟩:∃ g,f=g+1:=⟨f - 1,by omega⟩
   obtain ⟨d1,d2,d3,d4⟩:=Vcq hr
   have hm:=hv l (List.mem_of_getElem? d1)
   have e1:Zdl_L0b v (v.length:Int) (j:Int)=bif decide (valO l=0) then some (Sum.inl (v,(v.length:Int),((j+1:Nat):Int),())) else some (Sum.inr (Sum.inl (valO l,()))):=by
    unfold Zdl_L0b
    rw [show decide ((j:Int) < (v.length:Int))=true from decide_eq_true (by omega),Vdo d1,Vad (n:=(j:Int)+1) (by omega) (by omega)]
    simp only [cond_true,bindS]
    rw [Vdn l (by omega) hm.2]
    simp only [bindS]
    cases decide (valO l=0)<;>rfl
   rw [Vae]
   dsimp only
   rw [e1]
   unfold fau
   by_cases h0:valO l=0
   ·rw [show decide (valO l=0)=true from decide_eq_true h0]
    exact ih (j+1) f d2 (by simp at hf; omega)
   ·rw [show decide (valO l=0)=false from decide_eq_false h0]
    simp only [cond_false,bindS,Sum.elim_inr]
    rw [show decide (valO l=0)=false from decide_eq_false h0]
    rfl
 unfold Zdl Zdl_L0
 have e:=key v 0 rounds rfl (by rw [Vam]; omega)
 rw [show ((0:Nat):Int)=0 from rfl] at e
 rw [e]
 by_cases h0:fau v=0
 ·rw [h0]; rfl
 ·rw [show decide (fau v=0)=false from decide_eq_false h0]; rfl
theorem Vlw:∀ (f:Nat) (S:List CborFrame) (n:Nat) (p a b:List ApiItem),n≤512→p.length+n=513→valE (mach getL f S n (p++a))=valE (mach getL f S n (p++b))
 | 0,S,n,p,a,b,_,_=>rfl
 | f+1,S,n,p,a,b,hn,hp=>by
  cases p with
  | nil=>simp at hp; omega
  | cons x p=>
   simp only [List.length_cons] at hp
   cases hS:(decide (0 < n)&&S.isEmpty)
   ·by_cases hc:chk x n S.length (atK S) (lst S)=0
    ·have hn2:=(Vcj (Vbf hc).1).1
     have e:∀ q:List ApiItem,getL n S.length (atK S) (lst S) (x::q)=(0,x,q):=fun q=>by simp [getL,hc]
     rw [List.cons_append,List.cons_append,Vcp hS (e _),Vcp hS (e _)]
     exact Vlw f (nxt x S) (n+1) p a b (by omega) (by omega)
    ·have e:∀ q:List ApiItem,getL n S.length (atK S) (lst S) (x::q)=(chk x n S.length (atK S) (lst S),x,q):=fun q=>rfl
     rw [List.cons_append,List.cons_append,Vdm hS (e _) hc,Vdm hS (e _) hc]
     rfl
   ·have e:∀ q:List ApiItem,valE (mach getL (f+1) S n (x::q))=2:=by
     intro q
     unfold mach
     rw [hS]
     rfl
    rw [List.cons_append,List.cons_append,e,e]
theorem Vrz (p a b:List ApiItem) (hp:p.length=513):valO (p++a)=valO (p++b):=Vlw 600 [] 0 p a b (by omega) (by omega)
def gat:List ApiItem→List (List ApiItem)→List ApiItem
 | o,[]=>o
 | o,l::r=>bif decide (512 < o.length) then o else gat (o++l) r
theorem Vke:∀ (v:List (List ApiItem)) (o:List ApiItem),valO (gat o v)=valO (o++v.flatten)∧(gat o v=o++v.flatten∨512 < (gat o v).length∧512 < (o++v.flatten).length)
 | [],o=>by simp [gat]
 | l::r,o=>by
  unfold gat
  by_cases h:512 < o.length
  ·rw [show decide (512 < o.length)=true from decide_eq_true h]
   simp only [cond_true]
   refine ⟨?_,.inr ⟨h,by rw [List.length_append]; omega⟩⟩
   have e:=Vrz (o.take 513) (o.drop 513) (o.drop 513++(l::r).flatten) (by rw [List.length_take]; omega)
   rw [← List.append_assoc,List.take_append_drop] at e
   exact e
  ·rw [show decide (512 < o.length)=false from decide_eq_false h]
   simp only [cond_false,List.flatten_cons]
   have:=Vke r (o++l)
   rw [List.append_assoc] at this
   exact this
theorem Vxz {l:List ApiItem} (h:512 < l.length):valO l≠0:=by
 intro hv
 have key:∀ (f:Nat) (S:List CborFrame) (n:Nat) (l o r:List ApiItem),n≤512→mach getL f S n l=(0,o,r)→n+o.length≤512:=by
  intro f
  induction f with
  | zero=>intro S n l o r hn h; simp [mach] at h
  | succ f ih=>
   intro S n l o r hn h
   rcases Vge getL f S n l with ⟨h1,h2⟩ | ⟨h1,h2,h3⟩ | ⟨h1,x,u,h2,h3⟩
   ·rw [h2] at h
    simp only [Prod.mk.injEq,true_and] at h
    obtain ⟨rfl,rfl⟩:=h
    simpa using hn
   ·rw [h3] at h
    simp only [Prod.mk.injEq] at h
    exact absurd h.1 h2
   ·rw [h3] at h
    simp only [Prod.mk.injEq] at h
    obtain ⟨g1,g2,g3⟩:=h
    have hn2:=(Vcj (Vbf (Vls h2).2).1).1
    generalize hm:mach getL f (nxt x S) (n+1) u=m at g1 g2 g3
    obtain ⟨m1,m2,m3⟩:=m
    dsimp only at g1 g2 g3
    subst g1; subst g2; subst g3
    have:=ih (nxt x S) (n+1) u m2 m3 (by omega) hm
    rw [List.length_cons]
    omega
 have:=key 600 [] 0 l l [] (by omega) (Vee hv).1
 omega
theorem Vjk (l:List ApiItem) (hl:l.length < 1000000) (hd:∀ x∈l,x.data.length < 100000):Zdd l=some ((),(bif decide (valO l=0) then l else []),valO l,()):=by
 unfold Zdd
 rw [Vdn l hl hd]
 simp only [bindS]
 by_cases h:valO l=0
 ·rw [h]; rfl
 ·rw [show decide (valO l=0)=false from decide_eq_false h]; rfl
theorem Vnk:∀ (v:List (List ApiItem)) (o:List ApiItem),(gat o v).length≤(o++v.flatten).length∧∀ x∈gat o v,x∈o++v.flatten
 | [],o=>by simp [gat]
 | l::r,o=>by
  unfold gat
  cases decide (512 < o.length)
  ·have:=Vnk r (o++l)
   simp only [cond_false,List.flatten_cons]
   rw [List.append_assoc] at this
   exact this
  ·simp only [cond_true]
   exact ⟨by rw [List.length_append]; omega,fun x hx=>List.mem_append_left _ hx⟩
theorem Vr0 {v:List (List ApiItem)} (o:List ApiItem):(bif decide (valO (gat o v)=0) then gat o v else [])=(bif decide (valO (o++v.flatten)=0) then o++v.flatten else []):=by
 obtain ⟨h1,h2⟩:=Vke v o
 rw [h1]
 rcases h2 with h2 | ⟨h2,h3⟩
 ·rw [h2]
 ·rw [show decide (valO (o++v.flatten)=0)=false from decide_eq_false (Vxz h3)]
  rfl
def kk (keys:List (BitVec 64)) (i:Nat):Nat:=(keys.getD i 0#64).toNat
def cmpI (a b:Nat):Int:=bif decide (a < b) then -1 else bif decide (b < a) then 1 else 0
theorem Vlx {keys:List (BitVec 64)} {i:Nat} (h:i < keys.length):getI keys (i:Int)=some (keys.getD i 0#64):=by
 refine Vdo ?_
 rw [List.getD_eq_getElem?_getD,List.getElem?_eq_getElem h]
 rfl
theorem Vbla (keys:List (BitVec 64)) (i j:Nat) (hi:i < keys.length) (hj:j < keys.length):Zdp (i:Int) (j:Int) keys=some ((),cmpI (kk keys i) (kk keys j),()):=by
 unfold Zdp
 rw [Vlx hi,Vlx hj]
 simp only [bindS]
 unfold Zbg Zcc cmpI kk
 simp only [bindS,decide_true,Bool.not_true,cond_false]
 cases decide ((keys.getD i 0#64).toNat < (keys.getD j 0#64).toNat)
 ·cases decide ((keys.getD j 0#64).toNat < (keys.getD i 0#64).toNat)<;>rfl
 ·rfl
abbrev ci (l:List Nat):List Int:=l.map fun n:Nat=>(n:Int)
theorem Vov (l:List Nat):(ci l).length=l.length:=List.length_map _
theorem Vow {l:List Nat} {i n:Nat} (h:l[i]? = some n):(ci l)[i]? = some (n:Int):=by
 rw [List.getElem?_map,h]; rfl
theorem Vbma (n:Nat) (h:n≤12):∃ k,Zcz (BitVec.ofInt 64 (n:Int))=some ((),k,()):=by
 have:n=0∨n=1∨n=2∨n=3∨n=4∨n=5∨n=6∨n=7∨n=8∨n=9∨n=10∨n=11∨n=12:=by omega
 rcases this with rfl | rfl | rfl | rfl | rfl | rfl | rfl | rfl | rfl | rfl | rfl | rfl | rfl
 ·exact ⟨0,by kernel_rfl⟩
 ·exact ⟨1,by kernel_rfl⟩
 ·exact ⟨2,by kernel_rfl⟩
 ·exact ⟨2,by kernel_rfl⟩
 ·exact ⟨3,by kernel_rfl⟩
 ·exact ⟨3,by kernel_rfl⟩
 ·exact ⟨3,by kernel_rfl⟩
 ·exact ⟨3,by kernel_rfl⟩
 ·exact ⟨4,by kernel_rfl⟩
 ·exact ⟨4,by kernel_rfl⟩
 ·exact ⟨4,by kernel_rfl⟩
 ·exact ⟨4,by kernel_rfl⟩
 ·exact ⟨4,by kernel_rfl⟩
def prO (keys:List (BitVec 64)) (v:List (List ApiItem)) (o:List Nat):List (List ApiItem):=o.map fun i=>⟨1,keys.getD i 0#64,[]⟩::v.getD i []
def adj (keys:List (BitVec 64)):List Nat→Bool
 | a::b::r=>decide (kk keys a=kk keys b)||adj keys (b::r)
 | _=>false
theorem Ve2a (keys:List (BitVec 64)) (i j:Nat):decide (keys.getD i 0#64=keys.getD j 0#64)=decide (kk keys i=kk keys j):=by
 rw [decide_eq_decide]
 exact ⟨fun h=>by unfold kk; rw [h],fun h=>BitVec.eq_of_toNat_eq h⟩
def mapO (keys:List (BitVec 64)) (v:List (List ApiItem)) (o:List Nat):List ApiItem×Int:=
 bif adj keys o then ([],10) else bif !decide (fau v=0) then ([],fau v) else
 bif decide (valO (⟨6,BitVec.ofInt 64 (keys.length:Int),[]⟩::(prO keys v o).flatten)=0) then (⟨6,BitVec.ofInt 64 (keys.length:Int),[]⟩::(prO keys v o).flatten,0) else ([],valO (⟨6,BitVec.ofInt 64 (keys.length:Int),[]⟩::(prO keys v o).flatten))
theorem Vjl {v:List (List ApiItem)} (h:light1 v) (i:Nat):(v.getD i []).length≤600∧∀ x∈v.getD i [],x.data.length < 100000:=by
 rw [List.getD_eq_getElem?_getD]
 cases hi:v[i]? with
 | none=>simp
 | some l=>exact h l (List.mem_of_getElem? hi)
theorem Vly {keys:List (BitVec 64)} {v:List (List ApiItem)} (h:light1 v):∀ o:List Nat,(prO keys v o).flatten.length≤o.length * 601∧∀ x∈(prO keys v o).flatten,x.data.length < 100000
 | []=>by simp [prO]
 | i::r=>by
  obtain ⟨i1,i2⟩:=Vly (keys:=keys) h r
  obtain ⟨l1,l2⟩:=Vjl h i
  unfold prO at *
  refine ⟨?_,?_⟩
  ·simp only [List.map_cons,List.flatten_cons,List.length_append,List.length_cons,Nat.add_mul]
   omega
  ·intro x hx
   simp only [List.map_cons,List.flatten_cons,List.cons_append,List.mem_cons,List.mem_append] at hx
   rcases hx with rfl | hx | hx
   ·simp
   ·exact l2 x hx
   ·exact i2 x hx
theorem Vx0 {v:List (List ApiItem)} {i:Nat} (h:i < v.length):getI v (i:Int)=some (v.getD i []):=by
 refine Vdo ?_
 rw [List.getD_eq_getElem?_getD,List.getElem?_eq_getElem h]
 rfl
theorem Vr1:∀ (l r:List ApiItem) (need m:Nat),skp l need=some l.length→skp (l++r) (need+m)=(skp r m).map (·+l.length)
 | [],r,need,m,h=>by
  cases need with
  | zero=>simp only [List.nil_append,Nat.zero_add,List.length_nil]; exact map0 _
  | succ k=>simp [skp] at h
 | x::t,r,need,m,h=>by
  cases need with
  | zero=>rw [Vkd] at h; simp at h
  | succ k=>
   simp only [skp,List.cons_append,Nat.succ_add] at h ⊢
   cases hb:(isN x.kind&&decide (512 < x.number.toNat))
   ·rw [hb] at h
    simp only [cond_false] at h ⊢
    have h2:skp t (k+addI x)=some t.length:=by
     cases hq:skp t (k+addI x) with
     | none=>rw [hq] at h; simp at h
     | some n=>rw [hq] at h; simp at h; rw [h]
    have ih:=Vr1 t r (k+addI x) m h2
    rw [show k+m+addI x=k+addI x+m by omega,ih,Vot,List.length_cons,Nat.add_comm 1]
   ·rw [hb] at h
    simp at h
theorem Vr2 {l:List ApiItem} (h:valO l=0) (r:List ApiItem) (m:Nat):skp (l++r) (m+1)=(skp r m).map (·+l.length):=by
 have hw:=Vzn h
 have h1:=W_skp 12 l 0 0 false [] (by rw [hw]) 0
 rw [hw,Vkd] at h1
 have h2:skp l 1=some l.length:=by rw [h1]; simp
 rw [Nat.add_comm m 1]
 exact Vr1 l r 1 m h2
end Go.Proofs.YthoblablopmhfaaGreatDoor

/- Replies: reading the fields back. -/
import Derived.Test.YthoblablopmhfaaGreatDoorFns
import Derived.Test.YthoblablopmhfaaGreatDoorMsN
namespace Go.Proofs.YthoblablopmhfaaGreatDoor
set_option linter.unusedVariables false
set_option linter.unusedSimpArgs false
set_option maxRecDepth 100000
open Go Go.Abs
theorem Vaza:∀ (ns:List Nat) (v:List (List ApiItem)),ns.length=v.length→(∀ o∈v,valO o=0)→PairsAt ns.length (pairI ns v) [] ((ns.map keyI).zip v)
 | [],[],_,_=>PairsAt.nil []
 | n::ns,o::v,h,hv=>by
  have ho:=hv o (by simp)
  have ih:=Vaza ns v (by simpa using h) fun q hq=>hv q (by simp [hq])
  exact PairsAt.cons (x:=keyI n) rfl (fun m=>Vr2 ho _ m) (Vry ho) ih
theorem Veoa {ns:List Nat} {v:List (List ApiItem)} (hl:ns.length=v.length) (hn:ns.length≤512) (hv:∀ o∈v,valO o=0) (h0:valO (mapI ns v)=0) (hlen:(mapI ns v).length < 1000000) (hd:∀ x∈mapI ns v,x.data.length < 100000) (key:BitVec 64) :
  Zdk (mapI ns v) key=some ((),(lkP key ((ns.map keyI).zip v)).1,(lkP key ((ns.map keyI).zip v)).2,()):=by
 unfold Zdk
 rw [Vdn _ hlen hd,h0]
 simp only [bindS,decide_true,Bool.not_true,cond_false]
 have eg:getI (mapI ns v) (0:Int)=some ⟨6,BitVec.ofNat 64 ns.length,[]⟩:=rfl
 rw [eg]
 simp only [bindS,decide_true,Bool.not_true,cond_false]
 have e1:(BitVec.ofNat 64 ns.length).toNat=ns.length:=by rw [BitVec.toNat_ofNat]; omega
 obtain ⟨z,z1,z2⟩:=Vxy (mapI ns v) hlen key (BitVec.ofNat 64 ns.length) (by omega) ns.length 0 1 rounds (pairI ns v) _ (Vaza ns v hl hv) (by omega) rfl (by unfold mapI; rw [List.length_cons]; omega) (by rw [Vam]; omega)
 have z1':Zdk_L0 (mapI ns v,key,1,BitVec.ofNat 64 ns.length,0#64,())=some z:=z1
 rw [z1']
 exact z2
theorem Va0a (k:Nat) (hk:k≤17):∀ (us:List Bool) (vs:List (List ApiItem)) (i:Nat),us.length=vs.length→i+us.length≤18 →
  lkP (BitVec.ofNat 64 k) (((selN i us).map keyI).zip (selV us vs))=bif Nat.ble i k&&us.getD (k - i) false then (vs.getD (k - i) [],true) else ([],false)
 | [],[],i,_,_=>by simp [selN,selV,lkP]
 | b::us,v::vs,i,h,hi=>by
  rw [List.length_cons] at hi
  have ih:=Va0a k hk us vs (i+1) (by simpa using h) (by omega)
  unfold selN selV
  by_cases hik:i=k
  ·subst hik
   have hn:Nat.ble (i+1) i=false:=by
    cases h:Nat.ble (i+1) i
    ·rfl
    ·have:=Nat.le_of_ble_eq_true h; omega
   cases b
   ·simp only [cond_false]
    rw [ih,hn,Nat.sub_self]
    simp
   ·simp only [cond_true,List.map_cons,List.zip_cons_cons]
    unfold lkP
    have hii:Nat.ble i i=true:=Nat.ble_eq_true_of_le (Nat.le_refl i)
    simp [keyI,hii]
  ·have hne:decide (BitVec.ofNat 64 i=BitVec.ofNat 64 k)=false:=by
    apply decide_eq_false
    intro e
    have:=congrArg BitVec.toNat e
    rw [BitVec.toNat_ofNat,BitVec.toNat_ofNat,Nat.mod_eq_of_lt (by omega),Nat.mod_eq_of_lt (by omega)] at this
    exact hik this
   have hrec:(bif Nat.ble i k&&(b::us).getD (k - i) false then ((v::vs).getD (k - i) [],true) else ([],false))=(bif Nat.ble (i+1) k&&us.getD (k - (i+1)) false then (vs.getD (k - (i+1)) [],true) else ([],false)):=by
    by_cases hlt:i < k
    ·obtain ⟨d,hd⟩:∃ d,k - i=d+1:=⟨k - i - 1,by omega⟩
     rw [show k - (i+1)=d by omega,hd,Nat.ble_eq_true_of_le (show i≤k by omega),Nat.ble_eq_true_of_le (show i+1≤k by omega)]
     rfl
    ·have h1:Nat.ble i k=false:=by
      cases h:Nat.ble i k
      ·rfl
      ·have:=Nat.le_of_ble_eq_true h; omega
     have h2:Nat.ble (i+1) k=false:=by
      cases h:Nat.ble (i+1) k
      ·rfl
      ·have:=Nat.le_of_ble_eq_true h; omega
     rw [h1,h2]; rfl
   rw [hrec,← ih]
   cases b
   ·rfl
   ·simp only [cond_true,List.map_cons,List.zip_cons_cons]
    conv=>lhs; unfold lkP
    show (bif decide ((1:Int)=1)&&decide (BitVec.ofNat 64 i=BitVec.ofNat 64 k) then _ else _)=_
    rw [hne]
    simp
structure Look (us:List Bool) (vs:List (List ApiItem)):Prop where
 n:us.length≤17
 l:us.length=vs.length
 v:∀ o∈vs,valO o=0
 z:valO (chosI us vs)=0
 f:(chosI us vs).length < 1000000
 d:∀ x∈chosI us vs,x.data.length < 100000
theorem look_ok {us:List Bool} {vs:List (List ApiItem)} (h:Look us vs) (k:Nat) (h1:1≤k) (hk:k≤17) :
  Zdk (chosI us vs) (BitVec.ofNat 64 k)=some ((),(bif us.getD (k - 1) false then vs.getD (k - 1) [] else []),us.getD (k - 1) false,()):=by
 have hs:=(Vfo us 1).2.2
 have hn:=h.n
 have e:=Veoa (Vgy us vs 1 h.l) (by omega) (fun o ho=>h.v o ((Vc5 us vs).2 o ho)) h.z h.f h.d (BitVec.ofNat 64 k)
 unfold chosI
 rw [e,Va0a k hk us vs 1 h.l (by omega),Nat.ble_eq_true_of_le h1,Bool.true_and]
 cases us.getD (k - 1) false<;>rfl
def zI:ApiItem:=⟨0,0#64,[]⟩
def itO (us:List Bool) (vs:List (List ApiItem)) (k:Nat):ApiItem:=bif us.getD (k - 1) false then (vs.getD (k - 1) []).headD zI else zI
theorem Vi8 {us:List Bool} {vs:List (List ApiItem)} (h:Look us vs) (k:Nat) (h1:1≤k) (hk:k≤17):Zaz (chosI us vs) (BitVec.ofNat 64 k)=some ((),itO us vs k,()):=by
 unfold Zaz itO
 rw [look_ok h k h1 hk]
 simp only [bindS]
 cases us.getD (k - 1) false
 ·rfl
 ·simp only [Bool.not_true,cond_false,cond_true]
  cases vs.getD (k - 1) [] with
  | nil=>rfl
  | cons x r=>
   rw [decide_eq_false (show ¬ ((x::r).length:Int)=0 by rw [List.length_cons]; omega),decide_eq_true (show (0:Int) < ((x::r).length:Int) by rw [List.length_cons]; omega)]
   rfl
theorem Va1a (os:List (List ApiItem)) (hv:∀ o∈os,valO o=0) (hl:os.length≤100) (hf:(arrI os).length < 1000000):Zak_L0 (arrI os,[],(1:Int),())=some (os,()):=by
 unfold Zak_L0
 obtain ⟨t,h1,h2⟩:=Vcc (f:=fun (y:((List (ApiItem))×(List (List ApiItem))×Int×Unit))=>Zak_L0b y.1 y.2.1 y.2.2.1) os (fun i (t:Unit) _=>t)
  (fun i _=>(arrI os,os.take i,((1+(os.take i).flatten.length:Nat):Int),())) (fun _=>(os,())) (fun _ _=>True) (by omega) () trivial
  (by
   rintro i t x _ hx
   refine ⟨?_,trivial⟩
   have hi:=Van hx
   have hsp:os=os.take i++x::os.drop (i+1):=by
    obtain ⟨hlt,rfl⟩:=List.getElem?_eq_some_iff.1 hx
    rw [← List.drop_eq_getElem_cons hlt,List.take_append_drop]
   have hfl:os.flatten=(os.take i).flatten++(x++(os.drop (i+1)).flatten):=by
    conv=>lhs; rw [hsp]
    simp
   have hdrop:(arrI os).drop (1+(os.take i).flatten.length)=x++(os.drop (i+1)).flatten:=by
    unfold arrI
    rw [Nat.add_comm 1,List.drop_succ_cons,hfl,List.drop_left]
   have hx0:=hv x (List.mem_of_getElem? hx)
   have hxn:=Vry hx0
   have hx1:0 < x.length:=List.length_pos_iff.2 hxn
   have hlen:(arrI os).length=1+(os.take i).flatten.length+x.length+(os.drop (i+1)).flatten.length:=by
    unfold arrI
    rw [List.length_cons,hfl,List.length_append,List.length_append]; omega
   have hsk:=Vzo (a:=1+(os.take i).flatten.length) hdrop (fun m=>Vr2 hx0 _ m) hxn
   have htk:os.take (i+1)=os.take i++[x]:=by rw [List.take_add_one,hx]; rfl
   have htl:(os.take (i+1)).flatten.length=(os.take i).flatten.length+x.length:=by rw [htk]; simp
   generalize hp:1+(os.take i).flatten.length=p at *
   simp only
   unfold Zak_L0b
   rw [decide_eq_true (show (p:Int) < ((arrI os).length:Int) by omega),Vrx _ _ hf,hsk]
   simp only [bindS,cond_true,Bool.not_true,cond_false]
   rw [decide_eq_false (show ¬ ((p+x.length:Nat):Int)≤(p:Int) by omega),decide_eq_false (show ¬ ((arrI os).length:Int) < ((p+x.length:Nat):Int) by omega),decide_eq_true (show (0:Int)≤((p+x.length:Nat):Int) by omega),decide_eq_true (show ((p+x.length:Nat):Int)≤((arrI os).length:Int) by omega),Int.toNat_natCast,decide_eq_true (show (0:Int)≤(p:Int) by omega),decide_eq_true (show (p:Int)≤((p+x.length:Nat):Int) by omega),Int.toNat_natCast,Vou hdrop]
   simp only [Bool.and_true,cond_true,cond_false]
   rw [Vgx (by rw [List.length_take,List.length_singleton]; omega)]
   rw [htl,htk,show 1+((os.take i).flatten.length+x.length)=p+x.length by omega]
   rfl)
  (by
   rintro t _
   simp only
   unfold Zak_L0b
   rw [List.take_length,decide_eq_false (show ¬ ((1+os.flatten.length:Nat):Int) < ((arrI os).length:Int) by unfold arrI; rw [List.length_cons]; omega)]
   rfl)
 exact h2
end Go.Proofs.YthoblablopmhfaaGreatDoor

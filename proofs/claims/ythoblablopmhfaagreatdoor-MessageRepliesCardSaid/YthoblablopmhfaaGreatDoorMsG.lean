/- Arrays: out of the texts about items (cbor). Written by a program. -/
import Derived.Test.YthoblablopmhfaaGreatDoorFns
import Derived.Test.YthoblablopmhfaaGreatDoorMsF
namespace Go.Proofs.YthoblablopmhfaaGreatDoor
set_option linter.unusedVariables false
set_option linter.unusedSimpArgs false
set_option maxRecDepth 100000
open Go Go.Abs
theorem LA_ok {h g dd:Nat} (hg:h≤g) (hd:dd+1+h≤9):∀ (os:List (List ApiItem)) (r:List ApiItem) (n:Nat),(∀ o∈os,VT h o)→n+os.flatten.length≤512→LA (fun s n=>W getL g s n (dd+1) false []) os.length (os.flatten++r) n=(0,os.flatten,r)
 | [],r,n,_,_=>rfl
 | o::os,r,n,H,hn=>by
  simp only [List.flatten_cons,List.length_append] at hn
  have h1:=H o (by simp) g n (dd+1) (os.flatten++r) [] hg (by omega) (by omega)
  have h2:=LA_ok hg hd os r (n+o.length) (fun p hp=>H p (by simp [hp])) (by omega)
  simp only [List.length_cons,LA,List.flatten_cons,List.append_assoc]
  rw [h1]
  simp only [decide_true,cond_true]
  rw [h2]
theorem Vzc {h k:Nat} {os:List (List ApiItem)} (hk:os.length=k) (hk3:k≤512) (H:∀ o∈os,VT h o):VT (h+1) (⟨5,BitVec.ofNat 64 k,[]⟩::os.flatten):=by
 intro g n dd r b hg hn hd
 obtain ⟨g,rfl⟩:∃ q,g=q+1:=⟨g - 1,by omega⟩
 simp only [List.length_cons] at hn
 have hkn:(BitVec.ofNat 64 k).toNat=k:=by rw [BitVec.toNat_ofNat,Nat.mod_eq_of_lt (by omega)]
 have hc:chk ⟨5,BitVec.ofNat 64 k,[]⟩ n dd false b=0:=by
  unfold chk adm bad big acc
  dsimp only
  rw [hkn,show decide (512≤n)=false by simp; omega,show decide (8 < dd)=false by simp; omega,show decide (512 < k)=false by simp; omega]
  rfl
 have:=LA_ok (g:=g) (dd:=dd) (by omega) (by omega) os r (n+1) H (by omega)
 rw [hk] at this
 unfold W
 simp only [List.cons_append,getL,hc,decide_true,cond_true,hkn,this]
theorem Vgx {n:Nat} (h:n < 1000000):small n 24=true:=by
 unfold small; simp; omega
theorem Vod {l:List ApiItem} {r:List (List ApiItem)} (h:light1 (l::r)):(l.length≤600∧∀ x∈l,x.data.length < 100000)∧light1 r:=⟨h l (by simp),fun q hq=>h q (by simp [hq])⟩
theorem Vi0:∀ {v:List (List ApiItem)},light1 v→v.flatten.length≤v.length * 600∧∀ x∈v.flatten,x.data.length < 100000
 | [],_=>by simp
 | l::r,h=>by
  obtain ⟨h1,h2⟩:=Vod h
  obtain ⟨i1,i2⟩:=Vi0 h2
  refine ⟨?_,?_⟩
  ·simp only [List.flatten_cons,List.length_append,List.length_cons,Nat.add_mul]
   omega
  ·intro x hx
   simp only [List.flatten_cons,List.mem_append] at hx
   rcases hx with hx | hx
   ·exact h1.2 x hx
   ·exact i2 x hx
def arrO (v:List (List ApiItem)):List ApiItem×Int:=
 bif !decide (fau v=0) then ([],fau v) else
 bif decide (valO (⟨5,BitVec.ofInt 64 (v.length:Int),[]⟩::v.flatten)=0) then (⟨5,BitVec.ofInt 64 (v.length:Int),[]⟩::v.flatten,0) else ([],valO (⟨5,BitVec.ofInt 64 (v.length:Int),[]⟩::v.flatten))
theorem Vzd (v:List (List ApiItem)) (hv:light1 v) (hl:v.length≤1000):Zdn v=some ((),(arrO v).1,(arrO v).2,()):=by
 unfold Zdn arrO
 rw [Vlv v hv hl]
 simp only [bindS]
 by_cases h0:fau v=0
 ·rw [show decide (fau v=0)=true from decide_eq_true h0]
  simp only [Bool.not_true,cond_false]
  have key:∀ (r:List (List ApiItem)) (j f:Nat) (o:List ApiItem),v.drop j=r→r.length < f→o.length≤j * 600+1→iter (fun (y:((List (ApiItem))×(List (List ApiItem))×Int×Int×Unit))=>Zdn_L0b y.1 y.2.1 y.2.2.1 y.2.2.2.1) f (o,v,(v.length:Int),(j:Int),())=some (gat o r,()):=by
   intro r
   induction r with
   | nil=>
    intro j f o hr hf ho
    obtain ⟨f,rfl⟩:∃ g,f=g+1:=⟨f - 1,by omega⟩
    have hjl:v.length≤j:=by
     have:=congrArg List.length hr
     simp at this
     omega
    rw [Vae]
    dsimp only
    unfold Zdn_L0b
    rw [show decide ((j:Int) < (v.length:Int))=false from decide_eq_false (by omega)]
    rfl
   | cons l r ih=>
    intro j f o hr hf ho
    obtain ⟨f,rfl⟩:∃ g,f=g+1:=⟨f - 1,by omega⟩
    obtain ⟨d1,d2,d3,d4⟩:=Vcq hr
    have hm:=hv l (List.mem_of_getElem? d1)
    have e1:Zdn_L0b o v (v.length:Int) (j:Int)=bif decide (512 < o.length) then some (Sum.inr (o,())) else some (Sum.inl (o++l,v,(v.length:Int),((j+1:Nat):Int),())):=by
     unfold Zdn_L0b
     rw [show decide ((j:Int) < (v.length:Int))=true from decide_eq_true (by omega),Vdo d1,Vad (n:=(j:Int)+1) (by omega) (by omega),show decide ((512:Int) < (o.length:Int))=decide (512 < o.length) by rw [decide_eq_decide]; omega]
     simp only [cond_true,bindS]
     rw [Ved (by omega)]
     rfl
    rw [Vae]
    dsimp only
    rw [e1]
    unfold gat
    cases decide (512 < o.length)
    ·exact ih (j+1) f (o++l) d2 (by simp at hf; omega) (by rw [List.length_append,Nat.add_mul]; omega)
    ·rfl
  unfold Zdn_L0
  have e:=key v 0 rounds [⟨5,BitVec.ofInt 64 (v.length:Int),[]⟩] rfl (by rw [Vam]; omega) (by simp)
  rw [show ((0:Nat):Int)=0 from rfl] at e
  rw [e]
  simp only [bindS]
  obtain ⟨l1,l2⟩:=Vi0 hv
  obtain ⟨s1,s2⟩:=Vnk v [⟨5,BitVec.ofInt 64 (v.length:Int),[]⟩]
  have l3:v.length * 600≤1000 * 600:=Nat.mul_le_mul_right _ hl
  rw [Vjk _ (by rw [List.length_append,List.length_singleton] at s1; omega) (fun x hx=>by
   rcases List.mem_append.1 (s2 x hx) with hx | hx
   ·simp at hx; subst hx; simp
   ·exact l2 x hx)]
  simp only [bindS]
  rw [Vr0,(Vke v _).1,List.singleton_append]
  by_cases h1:valO (⟨5,BitVec.ofInt 64 (v.length:Int),[]⟩::v.flatten)=0
  ·rw [h1]; rfl
  ·rw [show decide (valO (⟨5,BitVec.ofInt 64 (v.length:Int),[]⟩::v.flatten)=0)=false from decide_eq_false h1]; rfl
 ·rw [show decide (fau v=0)=false from decide_eq_false h0]
  rfl
end Go.Proofs.YthoblablopmhfaaGreatDoor

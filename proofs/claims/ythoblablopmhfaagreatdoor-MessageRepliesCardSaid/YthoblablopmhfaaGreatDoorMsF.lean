/- Maps of ascending keys; `Map` of the program on them. -/
import Derived.Test.YthoblablopmhfaaGreatDoorFns
import Derived.Test.YthoblablopmhfaaGreatDoorMsE
namespace Go.Proofs.YthoblablopmhfaaGreatDoor
set_option linter.unusedVariables false
set_option linter.unusedSimpArgs false
set_option maxRecDepth 100000
open Go Go.Abs
theorem MapA {keys:List (BitVec 64)} (h:asc keys) (v:List (List ApiItem)) (hk:keys.length≤17) (hl:keys.length=v.length) (hv:light1 v):cbor_Map keys v=some ((),(mapO keys v (List.range keys.length)).1,(mapO keys v (List.range keys.length)).2,()):=by
 unfold cbor_Map
 rw [show decide ((keys.length:Int)=(v.length:Int))=true from decide_eq_true (by omega),show (decide ((0:Int)≤(keys.length:Int))&&(decide ((keys.length:Int)≤(keys.length:Int))&&decide ((8:Int) * (keys.length:Int)≤281474976710656∧(keys.length:Int)≤9223372036854775807)))=true by simp; omega]
 simp only [Bool.not_true,cond_false,cond_true,Int.toNat_natCast]
 -- the indices
 have e0:cbor_Map_L0 (v,keys,List.replicate keys.length (0:Int),(keys.length:Int),0,())=some (v,keys,ci (List.range keys.length),()):=by
  obtain ⟨z,h1,h2⟩:Ok (cbor_Map_L0 (v,keys,List.replicate keys.length (0:Int),(keys.length:Int),0,())) fun z=>z=(v,keys,ci (List.range keys.length),()):=by
   unfold cbor_Map_L0
   refine Ok.iter (fun q=>q.1=v∧q.2.1=keys∧q.2.2.2.1=(keys.length:Int)∧∃ i:Nat,i≤keys.length∧q.2.2.2.2.1=(i:Int)∧q.2.2.1=ci (List.range i)++List.replicate (keys.length - i) 0) (fun q=>(keys.length - q.2.2.2.2.1).toNat) ⟨rfl,rfl,rfl,0,by omega,rfl,by simp⟩ (by rw [Vam]; dsimp only; omega) ?_
   rintro ⟨q0,q1,q2,q3,q4,u⟩ ⟨e1,e2,e3,i,hi,e4,e5⟩
   dsimp only at *
   subst e1; subst e2; subst e3; subst e4; subst e5
   simp only [cbor_Map_L0b]
   by_cases h:i < q1.length
   ·have hlen:(ci (List.range i)++List.replicate (q1.length - i) (0:Int)).length=q1.length:=by simp; omega
    rw [hlen,Vg0 (by omega) (show (i:Int) < (q1.length:Int) by omega),show decide ((i:Int) < (q1.length:Int))=true from decide_eq_true (by omega),Int.toNat_natCast,List.getElem?_eq_getElem (show i < (ci (List.range i)++List.replicate (q1.length - i) (0:Int)).length by omega),Vad (n:=(i:Int)+1) (by omega) (by omega)]
    simp only [cond_true,bindS]
    refine Ok.some ?_
    dsimp only
    refine ⟨⟨rfl,rfl,rfl,i+1,by omega,rfl,?_⟩,by omega⟩
    rw [List.set_append_right _ _ (by simp),show q1.length - i=(q1.length - (i+1))+1 by omega,List.replicate_succ,List.range_succ]
    simp [ci]
   ·rw [show decide ((i:Int) < (q1.length:Int))=false from decide_eq_false (by omega)]
    have:i=q1.length:=by omega
    subst this
    refine Ok.some ?_
    simp
  rw [h1,h2]
 rw [e0]
 simp only [bindS]
 have hs1:=sortA h rfl hk
 rw [hs1]
 simp only [bindS]
 unfold rg
 generalize hgo:List.range keys.length=o
 have hol:o.length=keys.length:=by rw [← hgo,List.length_range]
 have hor:∀ i∈o,i < keys.length:=fun i hi=>by rw [← hgo] at hi; exact List.mem_range.1 hi
 -- duplicates
 have e2:∀ (r:List Nat) (a:Nat) (j f:Nat),o.drop j=a::r→r.length < f→iter (fun (y:((List (List ApiItem))×(List (BitVec 64))×(List (Int))×Int×Unit))=>cbor_Map_L2b y.1 y.2.1 y.2.2.1 y.2.2.2.1) f (v,keys,ci o,((j+1:Nat):Int),())=some (bif adj keys (a::r) then .inl ([],10,()) else .inr (v,keys,ci o,())):=by
  intro r
  induction r with
  | nil=>
   intro a j f hr hf
   obtain ⟨f,rfl⟩:∃ g,f=g+1:=⟨f - 1,by omega⟩
   obtain ⟨d1,d2,d3,d4⟩:=Vcq hr
   rw [Vae]
   dsimp only
   unfold cbor_Map_L2b
   rw [Vov,show decide (((j+1:Nat):Int) < (o.length:Int))=false from decide_eq_false (by simp at d4; omega)]
   rfl
  | cons b r ih=>
   intro a j f hr hf
   obtain ⟨f,rfl⟩:∃ g,f=g+1:=⟨f - 1,by omega⟩
   obtain ⟨d1,d2,d3,d4⟩:=Vcq hr
   obtain ⟨b1,b2,b3,b4⟩:=Vcq d2
   have ha:=hor a (List.mem_of_getElem? d1)
   have hb:=hor b (List.mem_of_getElem? b1)
   have e1:cbor_Map_L2b v keys (ci o) ((j+1:Nat):Int)=bif decide (kk keys a=kk keys b) then some (Sum.inr (Sum.inl ([],10,()))) else some (Sum.inl (v,keys,ci o,((j+1+1:Nat):Int),())):=by
    unfold cbor_Map_L2b
    rw [Vov,Vad (n:=((j+1:Nat):Int) - 1) (by omega) (by omega),show ((j+1:Nat):Int) - 1=(j:Int) by omega,Vg0 (by omega) (show (j:Int) < (o.length:Int) by omega),Vg0 (by omega) (show ((j+1:Nat):Int) < (o.length:Int) by omega),show decide (((j+1:Nat):Int) < (o.length:Int))=true from decide_eq_true (by omega),Int.toNat_natCast,Int.toNat_natCast,Vow d1,Vow b1,Vad (n:=((j+1:Nat):Int)+1) (by omega) (by omega)]
    simp only [cond_true,bindS]
    rw [Vlx ha,Vlx hb]
    simp only [bindS]
    rw [Ve2a]
    rfl
   rw [Vae]
   dsimp only
   rw [e1]
   unfold adj
   cases hq:decide (kk keys a=kk keys b)
   ·simp only [cond_false,bindS,Sum.elim_inl,Bool.false_or]
    exact ih b (j+1) f d2 (by simp at hf; omega)
   ·rfl
 have e3:cbor_Map_L2 (v,keys,ci o,1,())=some (bif adj keys o then .inl ([],10,()) else .inr (v,keys,ci o,())):=by
  unfold cbor_Map_L2
  cases ho:o with
  | nil=>
   rw [Vam,show (1180591620717411303424:Nat)=1180591620717411303423+1 from rfl,Vae]
   rfl
  | cons a r=>
   have:=e2 r a 0 rounds (by rw [ho]; rfl) (by rw [Vam]; rw [ho] at hol; simp at hol; omega)
   rw [ho] at this
   exact this
 rw [e3]
 unfold mapO
 cases hadj:adj keys o
 ·simp only [cond_false,bindS,Sum.elim_inr]
  rw [Vlv v hv (by omega)]
  simp only [bindS]
  by_cases h0:fau v=0
  ·rw [show decide (fau v=0)=true from decide_eq_true h0]
   simp only [Bool.not_true,cond_false]
   -- the collecting
   have e4 : ∀ (r : List Nat) (j f : Nat) (out : List ApiItem), o.drop j = r→r.length < f→out.length≤j * 601+1→iter (fun (y : ((List (List ApiItem))×(List (BitVec 64))×(List (ApiItem))×(List (Int))×Int×Int×Unit)) => cbor_Map_L4b y.1 y.2.1 y.2.2.1 y.2.2.2.1 y.2.2.2.2.1 y.2.2.2.2.2.1) f (v, keys, out, ci o, (o.length : Int), (j : Int), ()) = some (gat out (prO keys v r), ()) := by
    intro r
    induction r with
    | nil=>
     intro j f out hr hf ho
     obtain ⟨f,rfl⟩:∃ g,f=g+1:=⟨f - 1,by omega⟩
     have hjl:o.length≤j:=by
      have:=congrArg List.length hr
      simp at this
      omega
     rw [Vae]
     dsimp only
     unfold cbor_Map_L4b
     rw [show decide ((j:Int) < (o.length:Int))=false from decide_eq_false (by omega)]
     rfl
    | cons b r ih=>
     intro j f out hr hf ho
     obtain ⟨f,rfl⟩:∃ g,f=g+1:=⟨f - 1,by omega⟩
     obtain ⟨d1,d2,d3,d4⟩:=Vcq hr
     have hb:=hor b (List.mem_of_getElem? d1)
     obtain ⟨l1,_⟩:=Vjl hv b
     have e1:cbor_Map_L4b v keys out (ci o) (o.length:Int) (j:Int)=bif decide (512 < out.length) then some (Sum.inr (out,())) else some (Sum.inl (v,keys,out++(⟨1,keys.getD b 0#64,[]⟩::v.getD b []),ci o,(o.length:Int),((j+1:Nat):Int),())):=by
      unfold cbor_Map_L4b
      rw [Vov,Vg0 (by omega) (show (j:Int) < (o.length:Int) by omega),show decide ((j:Int) < (o.length:Int))=true from decide_eq_true (by omega),Int.toNat_natCast,Vow d1,Vad (n:=(j:Int)+1) (by omega) (by omega)]
      simp only [cond_true,bindS]
      rw [show decide ((512:Int) < (out.length:Int))=decide (512 < out.length) by rw [decide_eq_decide]; omega]
      cases decide (512 < out.length)
      ·simp only [cond_false]
       rw [Vlx hb]
       simp only [bindS,Zdt]
       rw [Ved (by simp only [List.length_cons,List.length_nil]; omega),Vx0 (show b < v.length by omega)]
       simp only [cond_true,bindS]
       rw [Ved (by simp only [List.length_append,List.length_cons,List.length_nil]; omega)]
       simp
      ·rfl
     rw [Vae]
     dsimp only
     rw [e1]
     have hpr:prO keys v (b::r)=(⟨1,keys.getD b 0#64,[]⟩::v.getD b [])::prO keys v r:=rfl
     rw [hpr]
     unfold gat
     cases decide (512 < out.length)
     ·exact ih (j+1) f (out++(⟨1,keys.getD b 0#64,[]⟩::v.getD b [])) d2 (by simp at hf; omega) (by rw [List.length_append,List.length_cons,Nat.add_mul]; omega)
     ·rfl
   have e5:=e4 o 0 rounds [⟨6,BitVec.ofInt 64 (keys.length:Int),[]⟩] rfl (by rw [Vam]; omega) (by simp)
   have e6:cbor_Map_L4 (v,keys,[⟨6,BitVec.ofInt 64 (keys.length:Int),[]⟩],ci o,((ci o).length:Int),0,())=some (gat [⟨6,BitVec.ofInt 64 (keys.length:Int),[]⟩] (prO keys v o),()):=by
    rw [Vov]
    exact e5
   rw [e6]
   simp only [bindS]
   obtain ⟨l1,l2⟩:=Vly (keys:=keys) hv o
   obtain ⟨s1,s2⟩:=Vnk (prO keys v o) [⟨6,BitVec.ofInt 64 (keys.length:Int),[]⟩]
   rw [Vjk _ (by rw [List.length_append,List.length_singleton] at s1; omega) (fun x hx=>by
    rcases List.mem_append.1 (s2 x hx) with hx | hx
    ·simp at hx; subst hx; simp
    ·exact l2 x hx)]
   simp only [bindS]
   rw [Vr0,(Vke (prO keys v o) _).1,List.singleton_append]
   by_cases h1:valO (⟨6,BitVec.ofInt 64 (keys.length:Int),[]⟩::(prO keys v o).flatten)=0
   ·rw [h1]; rfl
   ·rw [show decide (valO (⟨6,BitVec.ofInt 64 (keys.length:Int),[]⟩::(prO keys v o).flatten)=0)=false from decide_eq_false h1]; rfl
  ·rw [show decide (fau v=0)=false from decide_eq_false h0]
   rfl
 ·rfl
end Go.Proofs.YthoblablopmhfaaGreatDoor

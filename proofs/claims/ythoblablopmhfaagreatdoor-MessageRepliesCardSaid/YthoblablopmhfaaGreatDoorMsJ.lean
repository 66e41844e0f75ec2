/- Replies: the map of the fields in use, on both sides. -/
import Derived.Test.YthoblablopmhfaaGreatDoorFns
import Derived.Test.YthoblablopmhfaaGreatDoorMsI
namespace Go.Proofs.YthoblablopmhfaaGreatDoor
set_option linter.unusedVariables false
set_option linter.unusedSimpArgs false
set_option maxRecDepth 100000
open Go Go.Abs
def selN:Nat→List Bool→List Nat
 | _,[]=>[]
 | i,b::bs=>bif b then i::selN (i+1) bs else selN (i+1) bs
def selV:List Bool→List (List ApiItem)→List (List ApiItem)
 | b::bs,v::vs=>bif b then v::selV bs vs else selV bs vs
 | _,_=>[]
theorem Vi3 (b:Bool):∀ (l:List Bool) (i:Nat),selN i (l++[b])=selN i l++(bif b then [i+l.length] else [])
 | [],i=>by cases b<;>rfl
 | c::l,i=>by
  rw [List.cons_append]
  unfold selN
  rw [Vi3 b l (i+1),List.length_cons,show i+1+l.length=i+(l.length+1) by omega]
  cases c<;>simp
theorem Vi4 (b:Bool) (v:List ApiItem):∀ (l:List Bool) (vs:List (List ApiItem)),l.length=vs.length→selV (l++[b]) (vs++[v])=selV l vs++(bif b then [v] else [])
 | [],[],_=>by cases b<;>rfl
 | c::l,w::vs,h=>by
  rw [List.cons_append,List.cons_append]
  unfold selV
  rw [Vi4 b v l vs (by simpa using h)]
  cases c<;>simp
theorem Vgy:∀ (l:List Bool) (vs:List (List ApiItem)) (i:Nat),l.length=vs.length→(selN i l).length=(selV l vs).length
 | [],[],i,_=>rfl
 | c::l,w::vs,i,h=>by
  unfold selN selV
  have:=Vgy l vs (i+1) (by simpa using h)
  cases c<;>simp [this]
theorem Vc5:∀ (l:List Bool) (vs:List (List ApiItem)),(selV l vs).flatten.length≤vs.flatten.length∧∀ o∈selV l vs,o∈vs
 | [],_=>by unfold selV; simp
 | c::l,[]=>by unfold selV; simp
 | c::l,w::vs=>by
  obtain ⟨h1,h2⟩:=Vc5 l vs
  unfold selV
  cases c
  ·refine ⟨by simp only [cond_false,List.flatten_cons,List.length_append]; omega,fun o ho=>?_⟩
   exact List.mem_cons_of_mem _ (h2 o ho)
  ·refine ⟨by simp only [cond_true,List.flatten_cons,List.length_append]; omega,fun o ho=>?_⟩
   simp only [cond_true,List.mem_cons] at ho
   rcases ho with rfl | ho
   ·simp
   ·exact List.mem_cons_of_mem _ (h2 o ho)
theorem Vfo:∀ (l:List Bool) (i:Nat),(selN i l).Pairwise (· < ·)∧(∀ n∈selN i l,i≤n∧n < i+l.length)∧(selN i l).length≤l.length
 | [],i=>by unfold selN; simp
 | c::l,i=>by
  obtain ⟨h1,h2,h3⟩:=Vfo l (i+1)
  unfold selN
  cases c
  ·refine ⟨h1,fun n hn=>?_,by simp only [cond_false,List.length_cons]; omega⟩
   have:=h2 n hn
   rw [List.length_cons]; omega
  ·refine ⟨?_,fun n hn=>?_,by simp only [cond_true,List.length_cons]; omega⟩
   ·simp only [cond_true,List.pairwise_cons]
    exact ⟨fun n hn=>by have:=h2 n hn; omega,h1⟩
   ·simp only [cond_true,List.mem_cons] at hn
    rcases hn with rfl | hn
    ·rw [List.length_cons]; omega
    ·have:=h2 n hn
     rw [List.length_cons]; omega
theorem Vi5:∀ (ns:List Nat) (v:List (List ApiItem)),ns.length=v.length→(pairI ns v).length=ns.length+v.flatten.length
 | [],[],_=>rfl
 | n::ns,o::v,h=>by
  have:=Vi5 ns v (by simpa using h)
  unfold pairI at *
  simp only [List.map_cons,List.zip_cons_cons,List.flatMap_cons,List.length_append,List.length_cons,List.flatten_cons]
  omega
def chosI (us:List Bool) (vs:List (List ApiItem)):List ApiItem:=mapI (selN 1 us) (selV us vs)
structure Fit (us:List Bool) (vs:List (List ApiItem)):Prop where
 n:us.length=17
 l:us.length=vs.length
 v:∀ o∈vs,VT 3 o
 f:vs.flatten.length≤400
 d:∀ o∈vs,o.length≤400∧∀ x∈o,x.data.length < 100000
theorem Fit.up {us:List Bool} {vs:List (List ApiItem)} (h:Fit us vs):upN (selN 1 us):=by
 obtain ⟨h1,h2,h3⟩:=Vfo us 1
 exact ⟨h1,fun n hn=>by have:=h2 n hn; have:=h.n; omega⟩
theorem Fit.len {us:List Bool} {vs:List (List ApiItem)} (h:Fit us vs):(chosI us vs).length≤450:=by
 unfold chosI mapI
 rw [List.length_cons,Vi5 _ _ (Vgy us vs 1 h.l)]
 have:=(Vfo us 1).2.2
 have:=(Vc5 us vs).1
 have:=h.n; have:=h.f
 omega
theorem Fit.map {us:List Bool} {vs:List (List ApiItem)} (h:Fit us vs):cbor_Map (kN (selN 1 us)) (selV us vs)=some ((),chosI us vs,0,())∧VT 4 (chosI us vs):=by
 have h3:=(Vfo us 1).2.2
 have h4:=h.len
 refine Vawa h.up (by have:=h.n; omega) (Vgy us vs 1 h.l) (by omega) (by omega) ?_ ?_ (by unfold chosI at h4; omega) ?_
 ·intro o ho
  have:=h.d o ((Vc5 us vs).2 o ho)
  exact ⟨by omega,this.2⟩
 ·intro o ho
  exact h.v o ((Vc5 us vs).2 o ho)
 ·intro o ho
  have:=h.d o ((Vc5 us vs).2 o ho)
  omega
theorem Fit.data {us:List Bool} {vs:List (List ApiItem)} (h:Fit us vs):∀ x∈chosI us vs,x.data.length < 100000:=by
 intro x hx
 unfold chosI mapI pairI at hx
 rcases List.mem_cons.1 hx with rfl | hx
 ·show ([]:List UInt8).length < 100000
  decide
 ·obtain ⟨p,hp,hx⟩:=List.mem_flatMap.1 hx
  obtain ⟨hp1,hp2⟩:=List.of_mem_zip hp
  rcases List.mem_cons.1 hx with rfl | hx
  ·obtain ⟨n,_,hn⟩:=List.mem_map.1 hp1
   rw [← hn]
   show ([]:List UInt8).length < 100000
   decide
  ·exact (h.d _ ((Vc5 us vs).2 _ hp2)).2 x hx
theorem Fit.enc {us:List Bool} {vs:List (List ApiItem)} (h:Fit us vs):encO (chosI us vs)=(encA (chosI us vs),0)∧valO (chosI us vs)=0:=by
 have hv:valO (chosI us vs)=0:=Vc4 h.map.2 (by omega) (by have:=h.len; omega)
 refine ⟨?_,hv⟩
 unfold encO
 rw [hv]; rfl
theorem Vog:∀ (l:List ApiItem),(∀ x∈l,x.data.length < 100000)→(encA l).length≤100009 * l.length
 | [],_=>by simp [encA]
 | x::l,h=>by
  have h1:=Vog l fun y hy=>h y (by simp [hy])
  have h2:=h x (by simp)
  have h3:=(Vka x).2
  rw [Vlt,List.length_append,List.length_cons]
  unfold enc
  rw [List.length_append]
  omega
theorem Vj0a (t:BitVec 32) (k:Nat):decide ((t >>> k) &&& 1#32=1#32)=t.getLsbD k:=by
 cases h:t.getLsbD k
 ·apply decide_eq_false
  intro e
  have:=congrArg (fun b:BitVec 32=>b.getLsbD 0) e
  simp [h] at this
 ·apply decide_eq_true
  apply BitVec.eq_of_getLsbD_eq
  intro i hi
  cases i with
  | zero=>simp [h]
  | succ i=>simp
theorem Vxc {us:List Bool} {vs:List (List ApiItem)} (h:Fit us vs) (first:UInt8) {t:BitVec 32} (ht:∀ k,t.getLsbD k=(decide (1≤k)&&us.getD (k - 1) false)) :
  message_encode first t vs=some ((),first::encA (chosI us vs),0,()):=by
 have h17:=h.n
 have hl:=h.l
 have e0 : message_encode_L0 (first, t, [], [], vs, (vs.length : Int), 0, ()) = some (first, kN (selN 1 us), selV us vs, ()) := by
  unfold message_encode_L0
  obtain ⟨q,h1,h2⟩:=Vcc (f:=fun (y:(UInt8×(BitVec 32)×(List (BitVec 64))×(List (List ApiItem))×(List (List ApiItem))×Int×Int×Unit))=>message_encode_L0b y.1 y.2.1 y.2.2.1 y.2.2.2.1 y.2.2.2.2.1 y.2.2.2.2.2.1 y.2.2.2.2.2.2.1) vs
   (fun i (q:List (BitVec 64)×List (List ApiItem)) x=>bif us.getD i false then (q.1++[BitVec.ofNat 64 (i+1)],q.2++[x]) else q)
   (fun i q=>(first,t,q.1,q.2,vs,(vs.length:Int),(i:Int),())) (fun q=>(first,q.1,q.2,()))
   (fun i q=>q=(kN (selN 1 (us.take i)),selV (us.take i) (vs.take i))) (by omega) ([],[]) (by simp [selN,selV,kN])
   (by
    rintro i q x rfl hx
    have h1:=Van hx
    have hu:us[i]? = some (us.getD i false):=by
     rw [List.getD_eq_getElem?_getD,List.getElem?_eq_getElem (show i < us.length by omega)]; rfl
    have hti:(us.take i).length=i:=by rw [List.length_take]; omega
    have htv:(vs.take i).length=i:=by rw [List.length_take]; omega
    have hsn:=(Vfo (us.take i) 1).2.2
    have hsl:=Vgy (us.take i) (vs.take i) 1 (by omega)
    refine ⟨?_,?_⟩
    ·simp only [message_encode_L0b,Vbk hx,gIn hx,bindS,cond_true,Var (i:=i) (by omega)]
     rw [show decide ((0:Int)≤((i+1:Nat):Int))=true from decide_eq_true (Int.natCast_nonneg _),Int.toNat_natCast,Vj0a,ht (i+1),decide_eq_true (show 1≤i+1 by omega),Nat.add_sub_cancel,Bool.true_and]
     simp only [cond_true]
     cases us.getD i false
     ·rfl
     ·simp only [cond_true]
      rw [show small ((kN (selN 1 (us.take i))).length+([BitVec.ofInt 64 ((i+1:Nat):Int)]:List (BitVec 64)).length) 8=true by unfold small kN; simp; omega,Vgx (by simp; omega),BitVec.ofInt_natCast]
      rfl
    ·rw [List.take_add_one,List.take_add_one,hx,hu,Option.toList_some,Option.toList_some,Vi3,Vi4 _ _ _ _ (by omega),hti]
     unfold kN
     cases us.getD i false
     ·simp
     ·simp [Nat.add_comm])
   (by
    rintro q rfl
    simp [message_encode_L0b])
  have e1:us.take vs.length=us:=List.take_of_length_le (by omega)
  rw [List.take_length,e1] at h1
  rw [h1] at h2
  exact h2
 unfold message_encode
 rw [e0]
 simp only [bindS]
 rw [h.map.1]
 simp only [bindS,decide_true,Bool.not_true,cond_false]
 rw [Vrk _ (by have:=h.len; omega) h.data,h.enc.1]
 simp only [bindS,decide_true,Bool.not_true,cond_false]
 have hlen:=Vog _ h.data
 have:=h.len
 rw [Vco (by simp only [List.length_cons,List.length_nil]; omega)]
 rfl
end Go.Proofs.YthoblablopmhfaaGreatDoor

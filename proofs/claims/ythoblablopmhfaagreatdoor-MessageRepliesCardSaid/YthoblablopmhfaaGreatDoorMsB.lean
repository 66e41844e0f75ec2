/- Replies: ValidateReply of the program and of the reference are the same function. -/
import Derived.Test.YthoblablopmhfaaGreatDoorFns
import Derived.Test.YthoblablopmhfaaGreatDoorMsA
namespace Go.Proofs.YthoblablopmhfaaGreatDoor
set_option linter.unusedVariables false
set_option linter.unusedSimpArgs false
set_option maxRecDepth 100000
open Go Go.Abs
theorem Viy {σ β α τ:Type} {f:σ→Option (σ⊕β)} {l:List α} {g:τ→α→τ} {mk:Nat→τ→σ} {out:τ→β}
  (h:∀ (i:Nat) (t:τ) (x:α),l[i]? = some x→f (mk i t)=some (.inl (mk (i+1) (g t x))))
  (he:∀ t,f (mk l.length t)=some (.inr (out t))):∀ (k n j:Nat) (t:τ),j+k=l.length→k < n→iter f n (mk j t)=some (out ((l.drop j).foldl g t))
 | 0,n+1,j,t,hj,hn=>by
  have:j=l.length:=by omega
  subst this
  rw [Vae,he t]; simp
 | k+1,n+1,j,t,hj,hn=>by
  have hlt:j < l.length:=by omega
  rw [Vae,h j t _ (List.getElem?_eq_getElem hlt),List.drop_eq_getElem_cons hlt]
  exact Viy h he k n (j+1) _ (by omega) (by omega)
theorem Ve4 {σ β α τ:Type} {f:σ→Option (σ⊕β)} (l:List α) (g:τ→α→τ) (mk:Nat→τ→σ) (out:τ→β) (hl:l.length < 9000000000000000000) (t0:τ)
  (h:∀ (i:Nat) (t:τ) (x:α),l[i]? = some x→f (mk i t)=some (.inl (mk (i+1) (g t x))))
  (he:∀ t,f (mk l.length t)=some (.inr (out t))):iter f rounds (mk 0 t0)=some (out (l.foldl g t0)):=
 Viy h he l.length rounds 0 t0 (by omega) (by rw [Vam]; omega)
theorem Veia (l:List Bool) (hl:l.length≤31):∃ t:BitVec 32,Zdf l=some ((),t,())∧∀ k,t.getLsbD k=(decide (1≤k)&&l.getD (k - 1) false):=by
 unfold Zdf Zdf_L0
 obtain ⟨t,h1,h2⟩:=Vcc (f:=fun (y:((BitVec 32)×(List (Bool))×Int×Int×Unit))=>Zdf_L0b y.1 y.2.1 y.2.2.1 y.2.2.2.1) l (fun i (t:BitVec 32) x=>bif x then t ||| (1#32 <<< (i+1)) else t)
  (fun i t=>(t,l,(l.length:Int),(i:Int),())) (fun t=>(t,()))
  (fun i t=>∀ k,t.getLsbD k=(decide (1≤k)&&decide (k≤i)&&l.getD (k - 1) false)) (by omega) 0#32
  (by intro k; by_cases h:1≤k<;>simp [h]; omega)
  (by
   intro i t x hp hx
   have h1:=Van hx
   refine ⟨?_,?_⟩
   ·simp only [Zdf_L0b,Vbk hx,gIn hx,Option.bind_some,cond_true,Var (i:=i) (by omega)]
    cases x
    ·rfl
    ·rw [show decide ((0:Int)≤((i+1:Nat):Int))=true from decide_eq_true (Int.natCast_nonneg _)]; rfl
   ·intro k
    have hget:l.getD i false=x:=by simp [hx]
    cases x
    ·simp only [cond_false,hp k]
     by_cases hk:k=i+1
     ·subst hk; simp [hx]
     ·by_cases h:k≤i
      ·simp [h,show k≤i+1 by omega]
      ·simp [h,show ¬ k≤i+1 by omega]
    ·simp only [cond_true,BitVec.getLsbD_or,hp k]
     by_cases hk:k=i+1
     ·subst hk; simp [hx,BitVec.getLsbD_shiftLeft]; omega
     ·have:(1#32 <<< (i+1)).getLsbD k=false:=by
       rw [BitVec.getLsbD_shiftLeft,BitVec.getLsbD_one]
       by_cases h:k < i+1
       ·simp [h]
       ·simp; omega
      rw [this,Bool.or_false]
      by_cases h:k≤i
      ·simp [h,show k≤i+1 by omega]
      ·simp [h,show ¬ k≤i+1 by omega])
  (by intro t _; simp [Zdf_L0b])
 refine ⟨t,?_,?_⟩
 ·have e:=congrArg (fun o=>o.bind (fun (z3:((BitVec 32)×Unit))=>some ((),(z3.1,())))) h2
  exact e
 ·intro k
  rw [h1 k]
  by_cases h:k≤l.length
  ·simp [h]
  ·have:l.getD (k - 1) false=false:=by
    rw [List.getD_eq_getElem?_getD,List.getElem?_eq_none (by omega)]; rfl
   rw [this]; simp
theorem Vw4 {l:List Bool} {t:BitVec 32} (hl:l.length≤31) (h:∀ k,t.getLsbD k=(decide (1≤k)&&l.getD (k - 1) false)):decide (t=0#32)=l.all (fun b=>!b):=by
 by_cases h0:t=0#32
 ·rw [decide_eq_true h0]
  symm
  rw [List.all_eq_true]
  intro b hb
  obtain ⟨i,hi,rfl⟩:=List.mem_iff_getElem.mp hb
  have:=h (i+1)
  rw [h0] at this
  simp [hi] at this
  simp [this]
 ·rw [decide_eq_false h0]
  symm
  rw [Bool.eq_false_iff]
  intro ha
  apply h0
  apply BitVec.eq_of_getLsbD_eq
  intro i hi
  rw [h i]
  rw [List.all_eq_true] at ha
  rw [List.getD_eq_getElem?_getD]
  by_cases hlt:i - 1 < l.length
  ·have:=ha _ (List.getElem_mem hlt)
   simp [hlt] at this ⊢
   exact fun _=>this
  ·rw [List.getElem?_eq_none (by omega)]; simp
def useR (r:ApiReply):List Bool:=[(decide ((0:Int) < ((r.authData).length:Int))),(decide ((0:Int) < ((r.signature).length:Int))),(decide ((0:Int) < ((r.certificates).length:Int))),(!decide (r.format=(0:Int))),(decide ((0:Int) < ((r.iD).length:Int))),(!decide (r.user=([]:List UInt8))),(!decide (r.name=([]:List UInt8))),(!decide (r.count=(0:Int))),(!decide (r.peer=0#64)),(decide ((0:Int) < ((r.box).length:Int))),(!decide (r.model=0#64)),(!decide (r.retries=(0:Int))),(!decide (r.rooms=(0:Int))),(!decide (r.leases=(0:Int))),r.pinSet,r.finger,(decide ((0:Int) < ((r.entries).length:Int)))]
structure Sane (r:ApiReply):Prop where
 c:r.certificates.length < 1000000
 e:r.entries.length < 1000000
 n:r.name.length < 1000000
 x:∀ x∈r.entries,x.rP.length < 1000000∧x.name.length < 1000000
theorem Sane.at {r:ApiReply} (h:Sane r) {i:Nat} {x:ApiEntry} (hx:r.entries[i]? = some x):x.rP.length < 1000000∧x.name.length < 1000000:=
 h.x x (List.mem_of_getElem? hx)
theorem Ve5 {l:List UInt8} (h:l.length < 1000000):Zck l=some ((),Lib.validD l,()):=by
 unfold Zck
 rw [decide_eq_true (show l.length≤9223372036854775807 by omega)]; rfl
theorem Vp0 (r:ApiReply):∃ t:BitVec 32,Zbi r=some ((),t,())∧(∀ k,t.getLsbD k=(decide (1≤k)&&(useR r).getD (k - 1) false))∧decide (t=0#32)=(useR r).all (fun b=>!b):=by
 obtain ⟨t,h1,h2⟩:=Veia (useR r) (by simp [useR])
 refine ⟨t,?_,h2,Vw4 (by simp [useR]) h2⟩
 unfold Zbi
 show (Zdf (useR r)).bind _=_
 rw [h1]; rfl
def numR (r:ApiReply):Bool:=(r.entries.all fun x=>smallI x.left)&&(smallI r.format&&smallI r.count&&smallI r.retries&&smallI r.rooms&&smallI r.leases)
def bigC (x:List UInt8):Bool:=decide ((1024:Int) < (x.length:Int))
def bigE (x:ApiEntry):Bool:=decide ((64:Int) < (x.rP.length:Int))||decide ((16:Int) < (x.user.length:Int))||decide ((32:Int) < (x.name.length:Int))
def txtE (x:ApiEntry):Bool:=Lib.validD x.rP&&Lib.validD x.name
def idE (x:ApiEntry):Bool:=decide ((x.iD.length:Int)=176)
def bigR0 (r:ApiReply):Bool:=bigC r.authData||bigC r.signature||bigC r.box||decide ((3:Int) < (r.certificates.length:Int))||decide ((8:Int) < (r.entries.length:Int))||decide ((16:Int) < (r.user.length:Int))||decide ((32:Int) < (r.name.length:Int))
def bigR (r:ApiReply):Bool:=bigR0 r||r.certificates.any bigC||r.entries.any bigE
def txtR (r:ApiReply):Bool:=Lib.validD r.name&&r.entries.all txtE
def idR (r:ApiReply):Bool:=(decide ((r.iD.length:Int)=0)||decide ((r.iD.length:Int)=176))&&r.entries.all idE
def errR (r:ApiReply):Bool:=decide (0≤r.err)&&decide (r.err≤42)
def zeroR (r:ApiReply):Bool:=(useR r).all fun b=>!b
def valR (r:ApiReply):Int:=bif !(errR r&&numR r) then 9 else bif !decide (r.err=0)&&!zeroR r then 4 else bif bigR r then 8 else bif !txtR r then 6 else bif !idR r then 4 else 0
theorem Vq3 (r:ApiReply) (h:Sane r):Zas r=some ((),numR r,()):=by
 unfold Zas Zas_L0
 rw [show ((0:Int))=((0:Nat):Int) from rfl,Vby r.entries (fun x=>smallI x.left) (fun i=>((r,()),r.entries,(r.entries.length:Int),(i:Int),())) (Sum.inl (false,())) (Sum.inr ((r,()),())) (by have:=h.e; omega)]
 ·unfold numR
  cases hc:r.entries.all (fun x=>smallI x.left)
  ·rfl
  ·simp only [cond_true,Option.bind_some,Sum.elim_inr]
   rw [Vix _ (by simp)]
   simp [Bool.and_assoc]
 ·intro i x hx
  have h1:=Van hx
  have h2:=h.e
  simp only [Zas_L0b,Vbk hx,gIn hx,Option.bind_some,cond_true,Var (i:=i) (by omega)]
  rw [Vix _ (by simp)]
  simp only [Option.bind_some,List.all_cons,List.all_nil,Bool.and_true]
  cases smallI x.left<;>rfl
 ·simp [Zas_L0b]
theorem Vy9 (r:ApiReply) (h:Sane r):Zbj r=some ((),txtR r,()):=by
 unfold Zbj Zbj_L0
 rw [show ((0:Int))=((0:Nat):Int) from rfl,Vby r.entries txtE (fun i=>((r,()),r.entries,(r.entries.length:Int),(i:Int),())) (Sum.inl (false,())) (Sum.inr ((r,()),())) (by have:=h.e; omega)]
 ·unfold txtR
  cases hc:r.entries.all txtE
  ·simp
  ·simp only [cond_true,Option.bind_some,Sum.elim_inr]
   rw [Ve5 h.n]
   simp
 ·intro i x hx
  have h1:=Van hx
  have h2:=h.e
  simp only [Zbj_L0b,Vbk hx,gIn hx,Option.bind_some,cond_true,Var (i:=i) (by omega)]
  rw [Ve5 (h.at hx).1,Ve5 (h.at hx).2]
  simp only [Option.bind_some,txtE]
  cases Lib.validD x.rP<;>cases Lib.validD x.name<;>rfl
 ·simp [Zbj_L0b]
theorem Vob {α:Type} (p:α→Bool):∀ l:List α,(l.all fun x=>!p x) = !l.any p
 | []=>rfl
 | x::l=>by rw [List.all_cons,List.any_cons,Vob p l,Bool.not_or]
theorem Vza (r:ApiReply) (h:Sane r):Zaq r=some ((),bigR r,()):=by
 unfold Zaq Zaq_L0
 rw [show ((0:Int))=((0:Nat):Int) from rfl,Vby r.certificates (fun x=>!bigC x) (fun i=>((r,()),r.certificates,(r.certificates.length:Int),(i:Int),())) (Sum.inl (true,())) (Sum.inr ((r,()),())) (by have:=h.c; omega),Vob]
 ·unfold bigR
  cases hc:r.certificates.any bigC
  ·simp only [Bool.not_false,cond_true,Option.bind_some,Sum.elim_inr,Zaq_L2]
   rw [Vby r.entries (fun x=>!bigE x) (fun i=>((r,()),r.entries,(r.entries.length:Int),(i:Int),())) (Sum.inl (true,())) (Sum.inr ((r,()),())) (by have:=h.e; omega),Vob]
   ·cases hd:r.entries.any bigE
    ·simp only [Bool.not_false,cond_true,Option.bind_some,Sum.elim_inr,Bool.or_false]
     unfold bigR0 bigC
     generalize (r.authData.length:Int)=a
     generalize (r.signature.length:Int)=b
     generalize (r.box.length:Int)=c
     have e:decide ((1024:Int) < (bif decide ((bif decide (a < b) then b else a) < c) then c else (bif decide (a < b) then b else a)))=(decide (1024 < a)||decide (1024 < b)||decide (1024 < c)):=by
      by_cases h1:a < b
      ·simp only [h1,decide_true,cond_true]
       by_cases h2:b < c
       ·simp only [h2,decide_true,cond_true]
        by_cases h3:1024 < c
        ·simp [h3]
        ·simp [h3]; omega
       ·simp only [h2,decide_false,cond_false]
        by_cases h3:1024 < b
        ·simp [h3]
        ·simp [h3]; omega
      ·simp only [h1,decide_false,cond_false]
       by_cases h2:a < c
       ·simp only [h2,decide_true,cond_true]
        by_cases h3:1024 < c
        ·simp [h3]
        ·simp [h3]; omega
       ·simp only [h2,decide_false,cond_false]
        by_cases h3:1024 < a
        ·simp [h3]
        ·simp [h3]; omega
     rw [e]
     cases (decide (1024 < a)||decide (1024 < b)||decide (1024 < c))<;>cases decide ((3:Int) < (r.certificates.length:Int))<;>cases decide ((8:Int) < (r.entries.length:Int))<;>cases decide ((16:Int) < (r.user.length:Int))<;>rfl
    ·simp
   ·intro i x hx
    have h1:=Van hx
    have h2:=h.e
    simp only [Zaq_L2b,Vbk hx,gIn hx,Option.bind_some,cond_true,Var (i:=i) (by omega),bigE]
    cases decide ((64:Int) < (x.rP.length:Int))<;>cases decide ((16:Int) < (x.user.length:Int))<;>cases decide ((32:Int) < (x.name.length:Int))<;>rfl
   ·simp [Zaq_L2b]
  ·simp
 ·intro i x hx
  have h1:=Van hx
  have h2:=h.c
  simp only [Zaq_L0b,Vbk hx,gIn hx,Option.bind_some,cond_true,Var (i:=i) (by omega),bigC]
  cases decide ((1024:Int) < (x.length:Int))<;>rfl
 ·simp [Zaq_L0b]
end Go.Proofs.YthoblablopmhfaaGreatDoor

/- Replies: what both ValidateReply compute. -/
import Derived.Test.YthoblablopmhfaaGreatDoorFns
import Derived.Test.YthoblablopmhfaaGreatDoorLibC
import Derived.Test.YthoblablopmhfaaGreatDoorCr
namespace Go.Proofs.YthoblablopmhfaaGreatDoor
set_option linter.unusedVariables false
set_option linter.unusedSimpArgs false
set_option maxRecDepth 100000
open Go Go.Abs
open _root_.List renaming length_cons → Qa, length_append → Qd, forall_mem_cons → Qg, getElem?_eq_getElem → Qh, length_singleton → Qj, getD_eq_getElem?_getD → Ql, not_mem_nil → Qo, mem_of_getElem? → Qq, length_map → Qr, flatten_cons → Qs, range → Qu, take_add_one → Qv, length_take → Qz, length_nil → Q2, length_replicate → Q4, replicate → Q8, cons_append → Q9, getElem?_eq_none → Qab, mem_cons_of_mem → Qae, take_length → Qaf, length_drop → Qag, append_nil → Qah, zip_cons_cons → Qai, mem_singleton → Qaj, getElem_mem → Qal, all_eq_true → Qam, mem_cons → Qan, drop_eq_getElem_cons → Qaq, length_range → Qar, map_cons → Qat, all_cons → Qau, take_of_length_le → Qaw, map_append → Qaz, drop_succ_cons → Qa1, getElem?_map → Qa3, nil_append → Qa5, length_set → Qa6, drop_drop → Qa8, getElem?_cons_succ → Qbc, drop → Qbd, take_append_drop → Qbf, singleton_append → Qbg, getElem?_range → Qbk, getElem?_set → Qbm, flatMap_cons → Qbn, append_assoc → Qbo, cons_ne_nil → Qbq, range_succ → Qbr, foldl_cons → Qbs, drop_zero → Qbu, any_cons → Qbx, all_nil → Qbz
open _root_.BitVec renaming ofInt → Qb, ofNat → Qc, ofInt_natCast → Qn, toNat_ofNat → Qt, eq_of_toNat_eq → Qax, getLsbD_shiftLeft → Qa9, eq_of_getLsbD_eq → Qbb, toNat_add → Qbl, toNat → Qbw
open _root_.Bool renaming not_true → Qe, true_and → Qk, false_and → Qm, and_true → Q0, and_eq_true → Qaa, not_false → Qak, or_false → Qa2, decide_and → Qa7, or_eq_false_iff → Qbi, or_eq_true → Qbt, and_assoc → Qbv, or_assoc → Qby, or_true → Qb0, not_not → Qb1
open _root_.Int renaming toNat_natCast → Qf, fdiv → Qav, tmod_eq_emod_of_nonneg → Qba, natCast_nonneg → Qbp
open _root_.Option renaming bind_some → Qi, toList_some → Qao, bind → Qa0, map_some → Qa4
open Go.IntKind renaming wrap → Qp, bits → Qac
open _root_.Sum renaming elim_inr → Qw, inl → Qx, elim_inl → Q6, inr → Q7
open _root_.Nat renaming ble_eq_true_of_le → Qy, ble → Q1, mod_eq_of_lt → Q3, le_of_ble_eq_true → Q5, le_refl → Qas, le_trans → Qay, add_comm → Qbe, eq_of_beq_eq_true → Qbh, add_mul → Qbj
open _root_.Option.some renaming inj → Qad
open _root_.UInt8 renaming ofBitVec → Qap
theorem gIn {α:Type} {l:List α} {i:Nat} {x:α} (h:l[i]? = some x):getI l (i:Int)=some x:=by
 unfold getI
 rw [show decide ((0:Int)≤(i:Int))=true by simp]
 exact h
theorem Vak {α:Type} {l:List α} {i:Nat} {x:α} (h:l[i]? = some x):i < l.length:=(List.getElem?_eq_some_iff.mp h).1
theorem Vam {i:Nat} (h:i < 9000000000000000000):Qp .i64 ((i:Int)+1)=((i+1:Nat):Int):=by
 rw [Vac (by omega) (by omega)]; rfl
theorem Vbv {α:Type} {l:List α} {i:Nat} {x:α} (h:l[i]? = some x):decide ((i:Int) < (l.length:Int))=true:=by
 have:=Vak h; simp; omega
theorem Vms {σ β α:Type} {f:σ→Option (σ⊕β)} {l:List α} {p:α→Bool} {mk:Nat→σ} {bad good:β}
  (h:∀ (i:Nat) (x:α),l[i]? = some x→f (mk i)=some (bif p x then .inl (mk (i+1)) else .inr bad))
  (he:f (mk l.length)=some (.inr good)):∀ (k n j:Nat),j+k=l.length→k < n→iter f n (mk j)=some (bif (l.drop j).all p then good else bad)
 | 0,n+1,j,hj,hn=>by
  have:j=l.length:=by omega
  subst this
  rw [Vad,he]; simp
 | k+1,n+1,j,hj,hn=>by
  have hlt:j < l.length:=by omega
  have hx:l[j]? = some l[j]:=Qh hlt
  rw [Vad,h j _ hx,Qaq hlt,Qau]
  cases hp:p l[j]
  ·rfl
  ·show iter f n (mk (j+1))=_
   rw [Vms h he k n (j+1) (by omega) (by omega)]
   rfl
theorem Vck {σ β α:Type} {f:σ→Option (σ⊕β)} (l:List α) (p:α→Bool) (mk:Nat→σ) (bad good:β) (hl:l.length < 9000000000000000000)
  (h:∀ (i:Nat) (x:α),l[i]? = some x→f (mk i)=some (bif p x then .inl (mk (i+1)) else .inr bad))
  (he:f (mk l.length)=some (.inr good)):iter f rounds (mk 0)=some (bif l.all p then good else bad):=by
 rw [Vms h he l.length rounds 0 (by omega) (by rw [Vae]; omega)]; rfl
theorem Vjt {σ β α τ:Type} {f:σ→Option (σ⊕β)} {l:List α} {g:Nat→τ→α→τ} {mk:Nat→τ→σ} {out:τ→β} {P:Nat→τ→Prop}
  (h:∀ (i:Nat) (t:τ) (x:α),P i t→l[i]? = some x→f (mk i t)=some (.inl (mk (i+1) (g i t x)))∧P (i+1) (g i t x))
  (he:∀ t,P l.length t→f (mk l.length t)=some (.inr (out t))):∀ (k n j:Nat) (t:τ),P j t→j+k=l.length→k < n→∃ t',P l.length t'∧iter f n (mk j t)=some (out t')
 | 0,n+1,j,t,hp,hj,hn=>by
  have:j=l.length:=by omega
  subst this
  exact ⟨t,hp,by rw [Vad,he t hp]; rfl⟩
 | k+1,n+1,j,t,hp,hj,hn=>by
  have hlt:j < l.length:=by omega
  obtain ⟨e,hp2⟩:=h j t _ hp (Qh hlt)
  obtain ⟨t',h1,h2⟩:=Vjt h he k n (j+1) _ hp2 (by omega) (by omega)
  exact ⟨t',h1,by rw [Vad,e]; exact h2⟩
theorem Vcb {σ β α τ:Type} {f:σ→Option (σ⊕β)} (l:List α) (g:Nat→τ→α→τ) (mk:Nat→τ→σ) (out:τ→β) (P:Nat→τ→Prop) (hl:l.length < 9000000000000000000) (t0:τ) (h0:P 0 t0)
  (h:∀ (i:Nat) (t:τ) (x:α),P i t→l[i]? = some x→f (mk i t)=some (.inl (mk (i+1) (g i t x)))∧P (i+1) (g i t x))
  (he:∀ t,P l.length t→f (mk l.length t)=some (.inr (out t))):∃ t',P l.length t'∧iter f rounds (mk 0 t0)=some (out t'):=
 Vjt h he l.length rounds 0 t0 h0 (by omega) (by rw [Vae]; omega)
def smallI (n:Int):Bool:=decide (0≤n)&&decide (n≤255)
theorem Vin (l:List Int) (hl:l.length < 9000000000000000000):Zcm l=some ((),(l.all smallI,())):=by
 unfold Zcm Zcm_L0
 rw [show ((0:Int))=((0:Nat):Int) from rfl,Vck l smallI (fun i=>(l,(l.length:Int),(i:Int),())) (Qx (false,())) (Q7 ()) hl]
 ·cases l.all smallI<;>rfl
 ·intro i x hx
  have h1:=Vak hx
  simp only [Zcm_L0b,Vbv hx,gIn hx,Qi,cond_true,Vam (i:=i) (by omega),smallI]
  by_cases a:x < 0
  ·simp [a,show ¬ (0:Int)≤x by omega]
  ·by_cases b:255 < x
   ·simp [a,b,show ¬ x≤255 by omega]
   ·simp [a,b,show (0:Int)≤x by omega,show x≤255 by omega]
 ·simp [Zcm_L0b]
theorem Vio {σ β α τ:Type} {f:σ→Option (σ⊕β)} {l:List α} {g:τ→α→τ} {mk:Nat→τ→σ} {out:τ→β}
  (h:∀ (i:Nat) (t:τ) (x:α),l[i]? = some x→f (mk i t)=some (.inl (mk (i+1) (g t x))))
  (he:∀ t,f (mk l.length t)=some (.inr (out t))):∀ (k n j:Nat) (t:τ),j+k=l.length→k < n→iter f n (mk j t)=some (out ((l.drop j).foldl g t))
 | 0,n+1,j,t,hj,hn=>by
  have:j=l.length:=by omega
  subst this
  rw [Vad,he t]; simp
 | k+1,n+1,j,t,hj,hn=>by
  have hlt:j < l.length:=by omega
  rw [Vad,h j t _ (Qh hlt),Qaq hlt]
  exact Vio h he k n (j+1) _ (by omega) (by omega)
theorem Vex {σ β α τ:Type} {f:σ→Option (σ⊕β)} (l:List α) (g:τ→α→τ) (mk:Nat→τ→σ) (out:τ→β) (hl:l.length < 9000000000000000000) (t0:τ)
  (h:∀ (i:Nat) (t:τ) (x:α),l[i]? = some x→f (mk i t)=some (.inl (mk (i+1) (g t x))))
  (he:∀ t,f (mk l.length t)=some (.inr (out t))):iter f rounds (mk 0 t0)=some (out (l.foldl g t0)):=
 Vio h he l.length rounds 0 t0 (by omega) (by rw [Vae]; omega)
theorem Vaea (l:List Bool) (hl:l.length≤31):∃ t:BitVec 32,Zdo l=some ((),t,())∧∀ k,t.getLsbD k=(decide (1≤k)&&l.getD (k - 1) false):=by
 unfold Zdo Zdo_L0
 obtain ⟨t,h1,h2⟩:=Vcb (f:=fun (y:((BitVec 32)×(List (Bool))×Int×Int×Unit))=>Zdo_L0b y.1 y.2.1 y.2.2.1 y.2.2.2.1) l (fun i (t:BitVec 32) x=>bif x then t ||| (1#32 <<< (i+1)) else t)
  (fun i t=>(t,l,(l.length:Int),(i:Int),())) (fun t=>(t,()))
  (fun i t=>∀ k,t.getLsbD k=(decide (1≤k)&&decide (k≤i)&&l.getD (k - 1) false)) (by omega) 0#32
  (by intro k; by_cases h:1≤k<;>simp [h]; omega)
  (by
   intro i t x hp hx
   have h1:=Vak hx
   refine ⟨?_,?_⟩
   ·simp only [Zdo_L0b,Vbv hx,gIn hx,Qi,cond_true,Vam (i:=i) (by omega)]
    cases x
    ·rfl
    ·rw [show decide ((0:Int)≤((i+1:Nat):Int))=true from decide_eq_true (Qbp _)]; rfl
   ·intro k
    have hget:l.getD i false=x:=by simp [hx]
    cases x
    ·simp only [cond_false,hp k]
     by_cases hk:k=i+1
     ·subst hk; simp [hx]
     ·by_cases h:k≤i
      ·simp [h,show k≤i+1 by omega]
      ·simp [h,show ¬ k≤i+1 by omega]
    ·simp only [cond_true,BitVec.getLsbD_or,hp k]
     by_cases hk:k=i+1
     ·subst hk; simp [hx,Qa9]; omega
     ·have:(1#32 <<< (i+1)).getLsbD k=false:=by
       rw [Qa9,BitVec.getLsbD_one]
       by_cases h:k < i+1
       ·simp [h]
       ·simp; omega
      rw [this,Qa2]
      by_cases h:k≤i
      ·simp [h,show k≤i+1 by omega]
      ·simp [h,show ¬ k≤i+1 by omega])
  (by intro t _; simp [Zdo_L0b])
 refine ⟨t,?_,?_⟩
 ·have e:=congrArg (fun o=>o.bind (fun (z3:((BitVec 32)×Unit))=>some ((),(z3.1,())))) h2
  exact e
 ·intro k
  rw [h1 k]
  by_cases h:k≤l.length
  ·simp [h]
  ·have:l.getD (k - 1) false=false:=by
    rw [Ql,Qab (by omega)]; rfl
   rw [this]; simp
theorem Vuu {l:List Bool} {t:BitVec 32} (hl:l.length≤31) (h:∀ k,t.getLsbD k=(decide (1≤k)&&l.getD (k - 1) false)):decide (t=0#32)=l.all (fun b=>!b):=by
 by_cases h0:t=0#32
 ·rw [decide_eq_true h0]
  symm
  rw [Qam]
  intro b hb
  obtain ⟨i,hi,rfl⟩:=List.mem_iff_getElem.mp hb
  have:=h (i+1)
  rw [h0] at this
  simp [hi] at this
  simp [this]
 ·rw [decide_eq_false h0]
  symm
  rw [Bool.eq_false_iff]
  intro ha
  apply h0
  apply Qbb
  intro i hi
  rw [h i]
  rw [Qam] at ha
  rw [Ql]
  by_cases hlt:i - 1 < l.length
  ·have:=ha _ (Qal hlt)
   simp [hlt] at this ⊢
   exact fun _=>this
  ·rw [Qab (by omega)]; simp
def useR (r:ApiReply):List Bool:=[(decide ((0:Int) < ((r.authData).length:Int))),(decide ((0:Int) < ((r.signature).length:Int))),(decide ((0:Int) < ((r.certificates).length:Int))),(!decide (r.format=(0:Int))),(decide ((0:Int) < ((r.iD).length:Int))),(!decide (r.user=([]:List UInt8))),(!decide (r.name=([]:List UInt8))),(!decide (r.count=(0:Int))),(!decide (r.peer=0#64)),(decide ((0:Int) < ((r.box).length:Int))),(!decide (r.model=0#64)),(!decide (r.retries=(0:Int))),(!decide (r.rooms=(0:Int))),(!decide (r.leases=(0:Int))),r.pinSet,r.finger,(decide ((0:Int) < ((r.entries).length:Int)))]
structure Sane (r:ApiReply):Prop where
 c:r.certificates.length < 1000000
 e:r.entries.length < 1000000
 n:r.name.length < 1000000
 x:∀ x∈r.entries,x.rP.length < 1000000∧x.name.length < 1000000
theorem Sane.at {r:ApiReply} (h:Sane r) {i:Nat} {x:ApiEntry} (hx:r.entries[i]? = some x):x.rP.length < 1000000∧x.name.length < 1000000:=
 h.x x (Qq hx)
theorem Vey {l:List UInt8} (h:l.length < 1000000):Zct l=some ((),Lib.validD l,()):=by
 unfold Zct
 rw [decide_eq_true (show l.length≤9223372036854775807 by omega)]; rfl
theorem Vpj (r:ApiReply):∃ t:BitVec 32,Zbn r=some ((),t,())∧(∀ k,t.getLsbD k=(decide (1≤k)&&(useR r).getD (k - 1) false))∧decide (t=0#32)=(useR r).all (fun b=>!b):=by
 obtain ⟨t,h1,h2⟩:=Vaea (useR r) (by simp [useR])
 refine ⟨t,?_,h2,Vuu (by simp [useR]) h2⟩
 unfold Zbn
 show (Zdo (useR r)).bind _=_
 rw [h1]; rfl
def numR (r:ApiReply):Bool:=(r.entries.all fun x=>smallI x.left)&&(smallI r.format&&smallI r.count&&smallI r.retries&&smallI r.rooms&&smallI r.leases)
def bigC (x:List UInt8):Bool:=decide ((1024:Int) < (x.length:Int))
def bigE (x:ApiEntry):Bool:=decide ((64:Int) < (x.rP.length:Int))||decide ((16:Int) < (x.user.length:Int))||decide ((32:Int) < (x.name.length:Int))
def txtE (x:ApiEntry):Bool:=Lib.validD x.rP&&Lib.validD x.name
def idE (x:ApiEntry):Bool:=decide ((x.iD.length:Int)=176)
def bigR0 (r:ApiReply):Bool:=bigC r.authData||bigC r.signature||bigC r.box||decide ((3:Int) < (r.certificates.length:Int))||decide ((8:Int) < (r.entries.length:Int))||decide ((16:Int) < (r.user.length:Int))||decide ((32:Int) < (r.name.length:Int))
def bigR (r:ApiReply):Bool:=bigR0 r||r.certificates.any bigC||r.entries.any bigE
def txtR (r:ApiReply):Bool:=Lib.validD r.name&&r.entries.all txtE
def idR (r:ApiReply):Bool:=(decide ((r.iD.length:Int)=0)||decide ((r.iD.length:Int)=176))&&r.entries.all idE
def errR (r:ApiReply):Bool:=decide (0≤r.err)&&decide (r.err≤42)
def zeroR (r:ApiReply):Bool:=(useR r).all fun b=>!b
def valR (r:ApiReply):Int:=bif !(errR r&&numR r) then 9 else bif !decide (r.err=0)&&!zeroR r then 4 else bif bigR r then 8 else bif !txtR r then 6 else bif !idR r then 4 else 0
theorem Vql (r:ApiReply) (h:Sane r):Zav r=some ((),numR r,()):=by
 unfold Zav Zav_L0
 rw [show ((0:Int))=((0:Nat):Int) from rfl,Vck r.entries (fun x=>smallI x.left) (fun i=>((r,()),r.entries,(r.entries.length:Int),(i:Int),())) (Qx (false,())) (Q7 ((r,()),())) (by have:=h.e; omega)]
 ·unfold numR
  cases hc:r.entries.all (fun x=>smallI x.left)
  ·rfl
  ·simp only [cond_true,Qi,Qw]
   rw [Vin _ (by simp)]
   simp [Qbv]
 ·intro i x hx
  have h1:=Vak hx
  have h2:=h.e
  simp only [Zav_L0b,Vbv hx,gIn hx,Qi,cond_true,Vam (i:=i) (by omega)]
  rw [Vin _ (by simp)]
  simp only [Qi,Qau,Qbz,Q0]
  cases smallI x.left<;>rfl
 ·simp [Zav_L0b]
theorem Vw5 (r:ApiReply) (h:Sane r):Zbo r=some ((),txtR r,()):=by
 unfold Zbo Zbo_L0
 rw [show ((0:Int))=((0:Nat):Int) from rfl,Vck r.entries txtE (fun i=>((r,()),r.entries,(r.entries.length:Int),(i:Int),())) (Qx (false,())) (Q7 ((r,()),())) (by have:=h.e; omega)]
 ·unfold txtR
  cases hc:r.entries.all txtE
  ·simp
  ·simp only [cond_true,Qi,Qw]
   rw [Vey h.n]
   simp
 ·intro i x hx
  have h1:=Vak hx
  have h2:=h.e
  simp only [Zbo_L0b,Vbv hx,gIn hx,Qi,cond_true,Vam (i:=i) (by omega)]
  rw [Vey (h.at hx).1,Vey (h.at hx).2]
  simp only [Qi,txtE]
  cases Lib.validD x.rP<;>cases Lib.validD x.name<;>rfl
 ·simp [Zbo_L0b]
theorem Vnx {α:Type} (p:α→Bool):∀ l:List α,(l.all fun x=>!p x) = !l.any p
 | []=>rfl
 | x::l=>by rw [Qau,Qbx,Vnx p l,Bool.not_or]
theorem Vw6 (r:ApiReply) (h:Sane r):Zat r=some ((),bigR r,()):=by
 unfold Zat Zat_L0
 rw [show ((0:Int))=((0:Nat):Int) from rfl,Vck r.certificates (fun x=>!bigC x) (fun i=>((r,()),r.certificates,(r.certificates.length:Int),(i:Int),())) (Qx (true,())) (Q7 ((r,()),())) (by have:=h.c; omega),Vnx]
 ·unfold bigR
  cases hc:r.certificates.any bigC
  ·simp only [Qak,cond_true,Qi,Qw,Zat_L2]
   rw [Vck r.entries (fun x=>!bigE x) (fun i=>((r,()),r.entries,(r.entries.length:Int),(i:Int),())) (Qx (true,())) (Q7 ((r,()),())) (by have:=h.e; omega),Vnx]
   ·cases hd:r.entries.any bigE
    ·simp only [Qak,cond_true,Qi,Qw,Qa2]
     unfold bigR0 bigC
     generalize (r.authData.length:Int)=a
     generalize (r.signature.length:Int)=b
     generalize (r.box.length:Int)=c
     have e:decide ((1024:Int) < (bif decide ((bif decide (a < b) then b else a) < c) then c else (bif decide (a < b) then b else a)))=(decide (1024 < a)||decide (1024 < b)||decide (1024 < c)):=by
      by_cases h1:a < b
      ·simp only [h1,decide_true,cond_true]
       by_cases h2:b < c
       ·simp only [h2,decide_true,cond_true]
        by_cases h3:1024 < c
        ·simp [h3]
        ·simp [h3]; omega
       ·simp only [h2,decide_false,cond_false]
        by_cases h3:1024 < b
        ·simp [h3]
        ·simp [h3]; omega
      ·simp only [h1,decide_false,cond_false]
       by_cases h2:a < c
       ·simp only [h2,decide_true,cond_true]
        by_cases h3:1024 < c
        ·simp [h3]
        ·simp [h3]; omega
       ·simp only [h2,decide_false,cond_false]
        by_cases h3:1024 < a
        ·simp [h3]
        ·simp [h3]; omega
     rw [e]
     cases (decide (1024 < a)||decide (1024 < b)||decide (1024 < c))<;>cases decide ((3:Int) < (r.certificates.length:Int))<;>cases decide ((8:Int) < (r.entries.length:Int))<;>cases decide ((16:Int) < (r.user.length:Int))<;>rfl
    ·simp
   ·intro i x hx
    have h1:=Vak hx
    have h2:=h.e
    simp only [Zat_L2b,Vbv hx,gIn hx,Qi,cond_true,Vam (i:=i) (by omega),bigE]
    cases decide ((64:Int) < (x.rP.length:Int))<;>cases decide ((16:Int) < (x.user.length:Int))<;>cases decide ((32:Int) < (x.name.length:Int))<;>rfl
   ·simp [Zat_L2b]
  ·simp
 ·intro i x hx
  have h1:=Vak hx
  have h2:=h.c
  simp only [Zat_L0b,Vbv hx,gIn hx,Qi,cond_true,Vam (i:=i) (by omega),bigC]
  cases decide ((1024:Int) < (x.length:Int))<;>rfl
 ·simp [Zat_L0b]
theorem Vny (r:ApiReply) (h:Sane r):Zar_L1 (r.entries,(r.entries.length:Int),(0:Int),())=some (bif r.entries.all idE then Q7 () else Qx (4,())):=by
 unfold Zar_L1
 rw [show ((0:Int))=((0:Nat):Int) from rfl,Vck r.entries idE (fun i=>(r.entries,(r.entries.length:Int),(i:Int),())) (Qx (4,())) (Q7 ()) (by have:=h.e; omega)]
 ·intro i x hx
  have h1:=Vak hx
  have h2:=h.e
  simp only [Zar_L1b,Vbv hx,gIn hx,Qi,cond_true,Vam (i:=i) (by omega),idE]
  cases decide ((x.iD.length:Int)=176)<;>rfl
 ·simp [Zar_L1b]
theorem Vgz (r:ApiReply) (h:Sane r):Zar r=some ((),valR r,()):=by
 obtain ⟨t,u1,u2,u3⟩:=Vpj r
 unfold Zar
 simp only [Vql r h,Vw6 r h,Vw5 r h,u1,Qi,Vny r h]
 have eid:decide ((0:Int) < (r.iD.length:Int)) = !decide ((r.iD.length:Int)=0):=by
  by_cases a:(r.iD.length:Int)=0
  ·simp [a]
  ·rw [decide_eq_false a,decide_eq_true (by omega)]; rfl
 have e1:decide (0≤r.err) = !decide (r.err < 0):=by
  by_cases a:r.err < 0
  ·rw [decide_eq_true a,decide_eq_false (by omega)]; rfl
  ·rw [decide_eq_false a,decide_eq_true (by omega)]; rfl
 have e2:decide (r.err≤42) = !decide (42 < r.err):=by
  by_cases a:42 < r.err
  ·rw [decide_eq_true a,decide_eq_false (by omega)]; rfl
  ·rw [decide_eq_false a,decide_eq_true (by omega)]; rfl
 rw [u3,eid]
 unfold valR errR idR zeroR
 rw [e1,e2]
 cases decide (r.err < 0)
 ·cases decide (42 < r.err)
  ·cases numR r
   ·rfl
   ·cases decide (r.err=0)
    ·cases (useR r).all (fun b=>!b)
     ·rfl
     ·cases bigR r
      ·cases txtR r
       ·rfl
       ·cases decide ((r.iD.length:Int)=0)<;>cases decide ((r.iD.length:Int)=176)<;>simp only [cond_true,cond_false,Qe,Qak,Qi,Q6,Qw,Vny r h,Qb0,Qa2,Qk,Qm]<;>cases r.entries.all idE<;>rfl
      ·rfl
    ·cases bigR r
     ·cases txtR r
      ·rfl
      ·cases decide ((r.iD.length:Int)=0)<;>cases decide ((r.iD.length:Int)=176)<;>simp only [cond_true,cond_false,Qe,Qak,Qi,Q6,Qw,Vny r h,Qb0,Qa2,Qk,Qm]<;>cases r.entries.all idE<;>rfl
     ·rfl
  ·rfl
 ·rfl
theorem Vip (a b c:Int):Zbj a b c=some ((),decide (b≤a)&&decide (a≤c),()):=by
 unfold Zbj
 cases decide (b≤a)<;>rfl
theorem zipEq {α:Type} [DecidableEq α]:∀ {l m:List α},l.length=m.length→(l.zip m).all (fun q=>decide (q.1=q.2))=decide (l=m)
 | [],[],_=>rfl
 | x::l,y::m,h=>by
  rw [Qai,Qau,zipEq (by simpa using h)]
  by_cases e:x=y<;>by_cases f:l=m<;>simp [e,f]
theorem zipAt {α:Type} {l m:List α} {i:Nat} {q:α×α} (hq:(l.zip m)[i]? = some q):l[i]? = some q.1∧m[i]? = some q.2:=by
 rw [List.getElem?_zip_eq_some] at hq; exact hq
theorem Vd6a (a b:ApiReply) (h:a.certificates.length=b.certificates.length) (hl:a.certificates.length < 1000000):Zap_L0 ((a,()),(b,()),(0:Int),())=some (bif decide (a.certificates=b.certificates) then Q7 ((a,()),(b,()),()) else Qx (false,())):=by
 have hz:(a.certificates.zip b.certificates).length=a.certificates.length:=by simp [h]
 unfold Zap_L0
 rw [show ((0:Int))=((0:Nat):Int) from rfl,Vck (a.certificates.zip b.certificates) (fun q=>decide (q.1=q.2)) (fun i=>((a,()),(b,()),(i:Int),())) (Qx (false,())) (Q7 ((a,()),(b,()),())) (by omega),zipEq h]
 ·intro i q hq
  obtain ⟨h1,h2⟩:=zipAt hq
  have h3:=Vak h1
  simp only [Zap_L0b,Vbv h1,gIn h1,gIn h2,Qi,cond_true,Vam (i:=i) (by omega)]
  cases decide (q.1=q.2)<;>rfl
 ·rw [hz]; simp [Zap_L0b]
theorem entEq (x y:ApiEntry):decide (x=y)=(decide (x.rP=y.rP)&&(decide (x.user=y.user)&&(decide (x.name=y.name)&&(decide (x.iD=y.iD)&&decide (x.left=y.left))))):=by
 obtain ⟨a1,a2,a3,a4,a5⟩:=x; obtain ⟨b1,b2,b3,b4,b5⟩:=y
 simp only [ApiEntry.mk.injEq,Qa7]
theorem Vd7a (a b:ApiReply) (h:a.entries.length=b.entries.length) (hl:a.entries.length < 1000000):Zap_L2 ((a,()),(b,()),(0:Int),())=some (bif decide (a.entries=b.entries) then Q7 ((a,()),(b,()),()) else Qx (false,())):=by
 have hz:(a.entries.zip b.entries).length=a.entries.length:=by simp [h]
 unfold Zap_L2
 rw [show ((0:Int))=((0:Nat):Int) from rfl,Vck (a.entries.zip b.entries) (fun q=>decide (q.1=q.2)) (fun i=>((a,()),(b,()),(i:Int),())) (Qx (false,())) (Q7 ((a,()),(b,()),())) (by omega),zipEq h]
 ·intro i q hq
  obtain ⟨h1,h2⟩:=zipAt hq
  have h3:=Vak h1
  simp only [Zap_L2b,Vbv h1,gIn h1,gIn h2,Qi,cond_true,Vam (i:=i) (by omega),entEq]
  cases decide (q.1.rP=q.2.rP)<;>cases decide (q.1.user=q.2.user)<;>cases decide (q.1.name=q.2.name)<;>cases decide (q.1.iD=q.2.iD)<;>cases decide (q.1.left=q.2.left)<;>rfl
 ·rw [hz]; simp [Zap_L2b]
theorem Vpk {α:Type} [DecidableEq α] {a b:List α} (h:decide ((a.length:Int)=(b.length:Int))=false):a≠b:=by
 rintro rfl; simp at h
theorem Vel (a b:ApiReply) (h1:a.certificates.length < 1000000) (h2:a.entries.length < 1000000):Zap a b=some ((),decide (a=b),()):=by
 unfold Zap
 cases hc:decide ((a.certificates.length:Int)=(b.certificates.length:Int))
 ·rw [decide_eq_false (show ¬ a=b from fun e=>Vpk hc (by rw [e]))]; rfl
 ·cases he:decide ((a.entries.length:Int)=(b.entries.length:Int))
  ·rw [decide_eq_false (show ¬ a=b from fun e=>Vpk he (by rw [e]))]; rfl
  ·have lc:a.certificates.length=b.certificates.length:=by have:=of_decide_eq_true hc; omega
   have le:a.entries.length=b.entries.length:=by have:=of_decide_eq_true he; omega
   rw [Vd6a a b lc h1]
   cases hd:decide (a.certificates=b.certificates)
   ·rw [decide_eq_false (show ¬ a=b from fun e=>of_decide_eq_false hd (by rw [e]))]; rfl
   ·simp only [Qe,cond_false,cond_true,Qi,Qw]
    rw [Vd7a a b le h2]
    cases hf:decide (a.entries=b.entries)
    ·rw [decide_eq_false (show ¬ a=b from fun e=>of_decide_eq_false hf (by rw [e]))]; rfl
    ·simp only [cond_true,Qi,Qw]
     obtain ⟨a1,a2,a3,a4,a5,a6,a7,a8,a9,a10,a11,a12,a13,a14,a15,a16,a17,a18⟩:=a
     obtain ⟨b1,b2,b3,b4,b5,b6,b7,b8,b9,b10,b11,b12,b13,b14,b15,b16,b17,b18⟩:=b
     dsimp only at *
     have hd2:=of_decide_eq_true hd
     have hf2:=of_decide_eq_true hf
     clear hd hf hc he lc le
     subst hd2
     subst hf2
     simp only [ApiReply.mk.injEq,Qa7,decide_true,Qk,Q0]
     cases decide (a1=b1)<;>simp only [cond_true,cond_false,Qk,Qm]
     cases decide (a2=b2)<;>simp only [cond_true,cond_false,Qk,Qm]
     cases decide (a3=b3)<;>simp only [cond_true,cond_false,Qk,Qm]
     cases decide (a5=b5)<;>simp only [cond_true,cond_false,Qk,Qm]
     cases decide (a6=b6)<;>simp only [cond_true,cond_false,Qk,Qm]
     cases decide (a7=b7)<;>simp only [cond_true,cond_false,Qk,Qm]
     cases decide (a8=b8)<;>simp only [cond_true,cond_false,Qk,Qm]
     cases decide (a9=b9)<;>simp only [cond_true,cond_false,Qk,Qm]
     cases decide (a10=b10)<;>simp only [cond_true,cond_false,Qk,Qm]
     cases decide (a11=b11)<;>simp only [cond_true,cond_false,Qk,Qm]
     cases decide (a12=b12)<;>simp only [cond_true,cond_false,Qk,Qm]
     cases decide (a13=b13)<;>simp only [cond_true,cond_false,Qk,Qm]
     cases decide (a14=b14)<;>simp only [cond_true,cond_false,Qk,Qm]
     cases decide (a15=b15)<;>simp only [cond_true,cond_false,Qk,Qm]
     cases a16<;>cases b16<;>cases a17<;>cases b17<;>rfl
theorem Vpl {α:Type} (p:α→Bool):∀ (l:List α) (b:Bool),l.foldl (fun t x=>t||p x) b=(b||l.any p)
 | [],b=>by simp
 | x::l,b=>by rw [Qbs,Vpl p l,Qbx,Qby]
theorem rL2 (r:ApiReply) (h:Sane r) (b:Bool):Zaf_L2 ((r,()),b,(0:Int),())=some ((r,()),(b||r.certificates.any bigC),()):=by
 unfold Zaf_L2
 rw [show ((0:Int))=((0:Nat):Int) from rfl,Vex r.certificates (fun (t:Bool) x=>t||bigC x) (fun i t=>((r,()),t,(i:Int),())) (fun t=>((r,()),t,())) (by have:=h.c; omega) b,Vpl]
 ·intro i t x hx
  have h1:=Vak hx
  have h2:=h.c
  simp only [Zaf_L2b,Vbv hx,gIn hx,Qi,cond_true,Vam (i:=i) (by omega),bigC]
  cases t<;>rfl
 ·intro t; simp [Zaf_L2b]
theorem Vmt:∀ (l:List ApiEntry) (a b c:Bool),l.foldl (fun (t:Bool×Bool×Bool) x=>(t.1||bigE x,t.2.1&&txtE x,t.2.2&&idE x)) (a,b,c)=(a||l.any bigE,b&&l.all txtE,c&&l.all idE)
 | [],a,b,c=>by simp
 | x::l,a,b,c=>by rw [Qbs,Vmt l]; simp [Qby,Qbv]
theorem rL4 (r:ApiReply) (h:Sane r) (a b c:Bool):Zaf_L4 ((r,()),a,b,c,(0:Int),())=some ((a||r.entries.any bigE),(b&&r.entries.all txtE),(c&&r.entries.all idE),()):=by
 unfold Zaf_L4
 rw [show ((0:Int))=((0:Nat):Int) from rfl,Vex r.entries (fun (t:Bool×Bool×Bool) x=>(t.1||bigE x,t.2.1&&txtE x,t.2.2&&idE x)) (fun i t=>((r,()),t.1,t.2.1,t.2.2,(i:Int),())) (fun t=>(t.1,t.2.1,t.2.2,())) (by have:=h.e; omega) (a,b,c),Vmt]
 ·rintro i ⟨a,b,c⟩ x hx
  have h1:=Vak hx
  have h2:=h.e
  simp only [Zaf_L4b,Vbv hx,gIn hx,Qi,cond_true,Vam (i:=i) (by omega),bigE,txtE,idE]
  rw [Vey (h.at hx).1,Vey (h.at hx).2]
  simp only [Qi]
  cases a<;>cases b<;>cases c<;>cases Lib.validD x.rP<;>cases decide ((64:Int) < (x.rP.length:Int))<;>cases decide ((16:Int) < (x.user.length:Int))<;>rfl
 ·intro t; simp [Zaf_L4b]
theorem rL0 (r:ApiReply) (h:Sane r):Zaf_L0 ((r,()),(0:Int),())=some (bif r.entries.all (fun x=>smallI x.left) then Q7 ((r,()),()) else Qx (9,())):=by
 unfold Zaf_L0
 rw [show ((0:Int))=((0:Nat):Int) from rfl,Vck r.entries (fun x=>smallI x.left) (fun i=>((r,()),(i:Int),())) (Qx (9,())) (Q7 ((r,()),())) (by have:=h.e; omega)]
 ·intro i x hx
  have h1:=Vak hx
  have h2:=h.e
  simp only [Zaf_L0b,Vbv hx,gIn hx,Qi,cond_true,Vam (i:=i) (by omega),Vip,smallI]
  cases (decide ((0:Int)≤x.left)&&decide (x.left≤255))<;>rfl
 ·simp [Zaf_L0b]
theorem Vuv {α:Type} [DecidableEq α] (l:List α):(!decide ((0:Int) < (l.length:Int)))=decide (l=[]):=by
 cases l with
 | nil=>rfl
 | cons a l=>rw [decide_eq_true (show (0:Int) < (((a::l).length:Nat):Int) by rw [Qa]; omega)]; rfl
theorem Vuw (r:ApiReply) (h:Sane r):Zcb r=some ((),zeroR r,()):=by
 unfold Zcb
 rw [Vel _ _ (by have:=h.c; omega) (by have:=h.e; omega)]
 simp only [Qi]
 obtain ⟨a1,a2,a3,a4,a5,a6,a7,a8,a9,a10,a11,a12,a13,a14,a15,a16,a17,a18⟩:=r
 unfold zeroR useR
 simp only [ApiReply.mk.injEq,Qa7,decide_true,Qk,Qau,Qbz,Q0,Vuv,Qb1]
 have e (b:Bool):decide (b=false) = !b:=by cases b<;>rfl
 rw [e,e]
theorem Vgj (r:ApiReply) (h:Sane r):Zaf r=some ((),valR r,()):=by
 unfold Zaf
 simp only [Vip,Qi,rL0 r h]
 unfold valR
 have e1:(decide ((0:Int)≤r.err)&&decide (r.err≤42))=errR r:=rfl
 rw [e1]
 cases errR r
 ·rfl
 have e2:(decide ((0:Int)≤r.format)&&decide (r.format≤255))=smallI r.format:=rfl
 have e3:(decide ((0:Int)≤r.count)&&decide (r.count≤255))=smallI r.count:=rfl
 have e4:(decide ((0:Int)≤r.retries)&&decide (r.retries≤255))=smallI r.retries:=rfl
 have e5:(decide ((0:Int)≤r.rooms)&&decide (r.rooms≤255))=smallI r.rooms:=rfl
 have e6:(decide ((0:Int)≤r.leases)&&decide (r.leases≤255))=smallI r.leases:=rfl
 rw [e2,e3,e4,e5,e6]
 unfold numR
 cases smallI r.format
 ·simp
 cases smallI r.count
 ·simp
 cases smallI r.retries
 ·simp
 cases smallI r.rooms
 ·simp
 cases smallI r.leases
 ·simp
 cases r.entries.all (fun x=>smallI x.left)
 ·rfl
 simp only [Qe,cond_false,cond_true,Qi,Qw,Q0,Qk,Vuw r h,rL2 r h,rL4 r h,Vey h.n]
 have f1:decide ((1024:Int) < (r.authData.length:Int))=bigC r.authData:=rfl
 have f2:decide ((1024:Int) < (r.signature.length:Int))=bigC r.signature:=rfl
 have f3:decide ((1024:Int) < (r.box.length:Int))=bigC r.box:=rfl
 rw [f1,f2,f3]
 have key:∀ (big:Bool),(bif decide ((r.iD.length:Int)=0) then (bif (big||r.certificates.any bigC||r.entries.any bigE) then (some ((),((8:Int),()))) else (bif (!(Lib.validD r.name&&r.entries.all txtE)) then (some ((),((6:Int),()))) else (bif (!(r.entries.all idE)) then (some ((),((4:Int),()))) else (some ((),((0:Int),()))))))
   else (bif (big||r.certificates.any bigC||r.entries.any bigE) then (some ((),((8:Int),()))) else (bif (!(Lib.validD r.name&&r.entries.all txtE)) then (some ((),((6:Int),()))) else (bif (!(decide ((r.iD.length:Int)=176)&&r.entries.all idE)) then (some ((),((4:Int),()))) else (some ((),((0:Int),())))))))=some ((),(bif (big||r.certificates.any bigC||r.entries.any bigE) then 8 else bif !txtR r then 6 else bif !idR r then 4 else 0),()):=by
  intro big
  unfold txtR idR
  cases decide ((r.iD.length:Int)=0)<;>cases (big||r.certificates.any bigC||r.entries.any bigE)<;>cases (Lib.validD r.name&&r.entries.all txtE)<;>cases decide ((r.iD.length:Int)=176)<;>cases r.entries.all idE<;>rfl
 unfold bigR bigR0
 simp only [key]
 cases decide (r.err=0)
 ·cases zeroR r
  ·rfl
  ·cases bigC r.authData
   ·cases bigC r.signature
    ·cases bigC r.box
     ·cases decide ((3:Int) < (r.certificates.length:Int))
      ·cases decide ((8:Int) < (r.entries.length:Int))
       ·cases decide ((16:Int) < (r.user.length:Int))<;>rfl
       ·rfl
      ·rfl
     ·rfl
    ·rfl
   ·rfl
 ·cases bigC r.authData
  ·cases bigC r.signature
   ·cases bigC r.box
    ·cases decide ((3:Int) < (r.certificates.length:Int))
     ·cases decide ((8:Int) < (r.entries.length:Int))
      ·cases decide ((16:Int) < (r.user.length:Int))<;>rfl
      ·rfl
     ·rfl
    ·rfl
   ·rfl
  ·rfl
def asc (keys:List (BitVec 64)):Prop:=∀ i j,i < j→j < keys.length→kk keys i < kk keys j
abbrev rg (n:Nat):List Int:=ci (Qu n)
theorem Vux (n:Nat):(rg n).length=n:=by simp
theorem rg_at {n i:Nat} (h:i < n):(rg n)[i]? = some (i:Int):=by
 refine Vol ?_
 rw [Qbk h]
theorem up_ok {keys:List (BitVec 64)} (h:asc keys) {i j:Nat} (hij:i < j) (hj:j < keys.length):Zdy (j:Int) (i:Int) keys=some ((),1,()):=by
 rw [Vza keys j i hj (by omega)]
 unfold cmpI
 have:=h i j hij hj
 rw [decide_eq_false (show ¬ kk keys j < kk keys i by omega),decide_eq_true this]; rfl
theorem Vd8a {keys:List (BitVec 64)} (h:asc keys) {n:Nat} (hn:keys.length=n) (h31:n≤31) {i:Nat} (h0:1≤i) (hi:i < n):Zac_L2 (rg n,0,(n:Int),(keys,()),(i:Int),(i:Int),())=some (rg n,0,(n:Int),(keys,()),(i:Int),()):=by
 unfold Zac_L2
 rw [Vae,show (1180591620717411303424:Nat)=1180591620717411303423+1 from rfl,Vad]
 dsimp only
 unfold Zac_L2b
 rw [Vux,decide_eq_true (show (0:Int) < (i:Int) by omega),Vgp (show (0:Int)≤(i:Int) by omega) (show (i:Int) < (n:Int) by omega),Vac (n:=(i:Int) - 1) (by omega) (by omega),show (i:Int) - 1=((i - 1:Nat):Int) by omega,Vgp (show (0:Int)≤((i - 1:Nat):Int) by omega) (show ((i - 1:Nat):Int) < (n:Int) by omega),Qf,Qf,rg_at hi,rg_at (show i - 1 < n by omega)]
 simp only [cond_true,bindS]
 rw [up_ok h (show i - 1 < i by omega) (by omega)]
 rfl
theorem insA {keys:List (BitVec 64)} (h:asc keys) {n:Nat} (hn:keys.length=n) (h31:n≤31):Zac (rg n) 0 (n:Int) (keys,())=some ((rg n,()),()):=by
 unfold Zac Zac_L0
 rw [show Qp .i64 ((0:Int)+1)=((0+1:Nat):Int) from rfl,Vex (Q8 (n - 1) ()) (fun (t:Unit) _=>t) (fun i t=>(rg n,0,(n:Int),(keys,()),((i+1:Nat):Int),())) (fun _=>(rg n,())) (by simp; omega) ()]
 ·rfl
 ·intro i t x hx
  have h1:=Vak hx
  rw [Q4] at h1
  simp only [Zac_L0b]
  rw [decide_eq_true (show ((i+1:Nat):Int) < (n:Int) by omega),Vd8a h hn h31 (by omega) (by omega)]
  simp only [cond_true,bindS,Vam (i:=i+1) (by omega)]
 ·intro t
  simp only [Zac_L0b,Q4]
  rw [decide_eq_false (show ¬ ((n - 1+1:Nat):Int) < (n:Int) by omega)]; rfl
theorem ordA {keys:List (BitVec 64)} (h:asc keys) {n:Nat} (hn:keys.length=n) {i j:Nat} (hij:i < j) (hj:j < n) (s:Int):Zak (rg n) (i:Int) (j:Int) (s,()) (keys,())=some (((s,()),()),(i:Int),(j:Int),()):=by
 unfold Zak
 rw [gIn (rg_at hj),gIn (rg_at (show i < n by omega))]
 simp only [bindS]
 rw [up_ok h hij (by omega)]
 rfl
theorem medA {keys:List (BitVec 64)} (h:asc keys) {n:Nat} (hn:keys.length=n) {i j k:Nat} (hij:i < j) (hjk:j < k) (hk:k < n) (s:Int):Zaj (rg n) (i:Int) (j:Int) (k:Int) (s,()) (keys,())=some (((s,()),()),(j:Int),()):=by
 unfold Zaj
 rw [ordA h hn hij (by omega)]
 simp only [bindS]
 rw [ordA h hn hjk hk]
 simp only [bindS]
 rw [ordA h hn hij (by omega)]
 rfl
theorem pivA {keys:List (BitVec 64)} (h:asc keys) {n:Nat} (hn:keys.length=n) (h8:12 < n) (h31:n≤31):∃ p,Zad (rg n) 0 (n:Int) (keys,())=some ((),p,1,()):=by
 unfold Zad
 have e0:Qp .i64 ((n:Int) - 0)=(n:Int):=by rw [Vac (by omega) (by omega)]; omega
 have e1:Int.tdiv (n:Int) 4=((n / 4:Nat):Int):=rfl
 rw [e0,e1,Vac (n:=((n / 4:Nat):Int)) (by omega) (by omega)]
 dsimp only
 rw [Vac (n:=((n / 4:Nat):Int) * 1) (by omega) (by omega),Vac (n:=((n / 4:Nat):Int) * 2) (by omega) (by omega),Vac (n:=((n / 4:Nat):Int) * 3) (by omega) (by omega),Vac (n:=0+((n / 4:Nat):Int) * 1) (by omega) (by omega),Vac (n:=0+((n / 4:Nat):Int) * 2) (by omega) (by omega),Vac (n:=0+((n / 4:Nat):Int) * 3) (by omega) (by omega)]
 rw [decide_eq_true (show (8:Int)≤(n:Int) by omega),decide_eq_false (show ¬ (50:Int)≤(n:Int) by omega),show 0+((n / 4:Nat):Int) * 1=((n / 4:Nat):Int) by omega,show 0+((n / 4:Nat):Int) * 2=((n / 4 * 2:Nat):Int) by omega,show 0+((n / 4:Nat):Int) * 3=((n / 4 * 3:Nat):Int) by omega]
 rw [medA h hn (show n / 4 < n / 4 * 2 by omega) (show n / 4 * 2 < n / 4 * 3 by omega) (by omega)]
 exact ⟨_,rfl⟩
theorem parA {keys:List (BitVec 64)} (h:asc keys) {n:Nat} (hn:keys.length=n) (h8:12 < n) (h31:n≤31):Zaa (rg n) 0 (n:Int) (keys,())=some ((rg n,()),true,()):=by
 unfold Zaa Zaa_L0
 have e2:Zaa_L2 (rg n,0,(n:Int),(keys,()),1,0,())=some (rg n,0,(n:Int),(keys,()),(n:Int),0,()):=by
  unfold Zaa_L2
  rw [show ((1:Int))=((0+1:Nat):Int) from rfl,Vex (Q8 (n - 1) ()) (fun (t:Unit) _=>t) (fun i t=>(rg n,0,(n:Int),(keys,()),((i+1:Nat):Int),0,())) (fun _=>(rg n,0,(n:Int),(keys,()),(n:Int),0,())) (by simp; omega) ()]
  ·intro i t x hx
   have h1:=Vak hx
   rw [Q4] at h1
   simp only [Zaa_L2b]
   rw [Vux,decide_eq_true (show ((i+1:Nat):Int) < (n:Int) by omega),decide_eq_true (show (0:Int)≤((i+1:Nat):Int) by omega),Vac (n:=((i+1:Nat):Int) - 1) (by omega) (by omega),show ((i+1:Nat):Int) - 1=(i:Int) by omega,Vgp (show (0:Int)≤(i:Int) by omega) (show (i:Int) < (n:Int) by omega),Qf,Qf,rg_at (show i+1 < n by omega),rg_at (show i < n by omega)]
   simp only [cond_true,bindS,Q0]
   rw [up_ok h (show i < i+1 by omega) (by omega)]
   simp only [bindS,Vam (i:=i+1) (by omega)]
   rfl
  ·intro t
   simp only [Zaa_L2b,Q4]
   rw [decide_eq_false (show ¬ ((n - 1+1:Nat):Int) < (n:Int) by omega),show n - 1+1=n by omega]; rfl
 rw [Vae,show (1180591620717411303424:Nat)=1180591620717411303423+1 from rfl,Vad]
 dsimp only
 unfold Zaa_L0b
 rw [show Qp .i64 ((0:Int)+1)=1 from rfl,e2]
 simp only [bindS,decide_true,cond_true,Q6,Qw,show decide ((0:Int) < 5)=true from rfl]
theorem Vw7 (n:Nat) (h:n≤17):∃ k,Zdi (Qb 64 (n:Int))=some ((),k,())∧(12 < n→k≠0):=by
 by_cases h12:n≤12
 ·obtain ⟨k,hk⟩:=Vzb n h12
  exact ⟨k,hk,fun h=>absurd h (by omega)⟩
 ·have:n=13∨n=14∨n=15∨n=16∨n=17:=by omega
  rcases this with rfl | rfl | rfl | rfl | rfl
  ·exact ⟨4,by kernel_rfl,fun _=>by decide⟩
  ·exact ⟨4,by kernel_rfl,fun _=>by decide⟩
  ·exact ⟨4,by kernel_rfl,fun _=>by decide⟩
  ·exact ⟨5,by kernel_rfl,fun _=>by decide⟩
  ·exact ⟨5,by kernel_rfl,fun _=>by decide⟩
theorem sortA {keys:List (BitVec 64)} (h:asc keys) {n:Nat} (hn:keys.length=n) (h17:n≤17):Zao (rg n) (keys,())=some ((rg n,()),()):=by
 unfold Zao
 obtain ⟨k,hk,hk0⟩:=Vw7 n h17
 rw [Vux,hk]
 simp only [bindS]
 unfold Zag Zag_L0
 rw [Vae,show (1180591620717411303424:Nat)=1180591620717411303423+1 from rfl,Vad]
 dsimp only
 unfold Zag_L0b
 rw [Vac (n:=(n:Int) - 0) (by omega) (by omega)]
 by_cases h12:n≤12
 ·rw [decide_eq_true (show (n:Int) - 0≤12 by omega),insA h hn (by omega)]
  rfl
 ·obtain ⟨p,hp⟩:=pivA h hn (by omega) (by omega)
  rw [decide_eq_false (show ¬ (n:Int) - 0≤12 by omega),decide_eq_false (hk0 (by omega))]
  simp only [cond_false,cond_true,Qe,bindS]
  rw [hp]
  simp only [bindS,decide_true,cond_true,cond_false,show decide ((1:Int)=2)=false from rfl]
  rw [parA h hn (by omega) (by omega)]
  simp only [bindS,cond_true,Qw]
theorem MapA {keys:List (BitVec 64)} (h:asc keys) (v:List (List ApiItem)) (hk:keys.length≤17) (hl:keys.length=v.length) (hv:light1 v):cbor_Map keys v=some ((),(mapO keys v (Qu keys.length)).1,(mapO keys v (Qu keys.length)).2,()):=by
 unfold cbor_Map
 rw [show decide ((keys.length:Int)=(v.length:Int))=true from decide_eq_true (by omega),show (decide ((0:Int)≤(keys.length:Int))&&(decide ((keys.length:Int)≤(keys.length:Int))&&decide ((8:Int) * (keys.length:Int)≤281474976710656∧(keys.length:Int)≤9223372036854775807)))=true by simp; omega]
 simp only [Qe,cond_false,cond_true,Qf]
 -- the indices
 have e0:cbor_Map_L0 (v,keys,Q8 keys.length (0:Int),(keys.length:Int),0,())=some (v,keys,ci (Qu keys.length),()):=by
  obtain ⟨z,h1,h2⟩:Ok (cbor_Map_L0 (v,keys,Q8 keys.length (0:Int),(keys.length:Int),0,())) fun z=>z=(v,keys,ci (Qu keys.length),()):=by
   unfold cbor_Map_L0
   refine Ok.iter (fun q=>q.1=v∧q.2.1=keys∧q.2.2.2.1=(keys.length:Int)∧∃ i:Nat,i≤keys.length∧q.2.2.2.2.1=(i:Int)∧q.2.2.1=ci (Qu i)++Q8 (keys.length - i) 0) (fun q=>(keys.length - q.2.2.2.2.1).toNat) ⟨rfl,rfl,rfl,0,by omega,rfl,by simp⟩ (by rw [Vae]; dsimp only; omega) ?_
   rintro ⟨q0,q1,q2,q3,q4,u⟩ ⟨e1,e2,e3,i,hi,e4,e5⟩
   dsimp only at *
   subst e1; subst e2; subst e3; subst e4; subst e5
   simp only [cbor_Map_L0b]
   by_cases h:i < q1.length
   ·have hlen:(ci (Qu i)++Q8 (q1.length - i) (0:Int)).length=q1.length:=by simp; omega
    rw [hlen,Vgp (by omega) (show (i:Int) < (q1.length:Int) by omega),show decide ((i:Int) < (q1.length:Int))=true from decide_eq_true (by omega),Qf,Qh (show i < (ci (Qu i)++Q8 (q1.length - i) (0:Int)).length by omega),Vac (n:=(i:Int)+1) (by omega) (by omega)]
    simp only [cond_true,bindS]
    refine Ok.some ?_
    dsimp only
    refine ⟨⟨rfl,rfl,rfl,i+1,by omega,rfl,?_⟩,by omega⟩
    rw [List.set_append_right _ _ (by simp),show q1.length - i=(q1.length - (i+1))+1 by omega,List.replicate_succ,Qbr]
    simp [ci]
   ·rw [show decide ((i:Int) < (q1.length:Int))=false from decide_eq_false (by omega)]
    have:i=q1.length:=by omega
    subst this
    refine Ok.some ?_
    simp
  rw [h1,h2]
 rw [e0]
 simp only [bindS]
 have hs1:=sortA h rfl hk
 rw [hs1]
 simp only [bindS]
 unfold rg
 generalize hgo:Qu keys.length=o
 have hol:o.length=keys.length:=by rw [← hgo,Qar]
 have hor:∀ i∈o,i < keys.length:=fun i hi=>by rw [← hgo] at hi; exact List.mem_range.1 hi
 -- duplicates
 have e2:∀ (r:List Nat) (a:Nat) (j f:Nat),o.drop j=a::r→r.length < f→iter (fun (y:((List (List ApiItem))×(List (BitVec 64))×(List (Int))×Int×Unit))=>cbor_Map_L2b y.1 y.2.1 y.2.2.1 y.2.2.2.1) f (v,keys,ci o,((j+1:Nat):Int),())=some (bif adj keys (a::r) then .inl ([],10,()) else .inr (v,keys,ci o,())):=by
  intro r
  induction r with
  | nil=>
   intro a j f hr hf
   obtain ⟨f,rfl⟩:∃ g,f=g+1:=⟨f - 1,by omega⟩
   obtain ⟨d1,d2,d3,d4⟩:=Vbk hr
   rw [Vad]
   dsimp only
   unfold cbor_Map_L2b
   rw [Vok,show decide (((j+1:Nat):Int) < (o.length:Int))=false from decide_eq_false (by simp at d4; omega)]
   rfl
  | cons b r ih=>
   intro a j f hr hf
   obtain ⟨f,rfl⟩:∃ g,f=g+1:=⟨f - 1,by omega⟩
   obtain ⟨d1,d2,d3,d4⟩:=Vbk hr
   obtain ⟨b1,b2,b3,b4⟩:=Vbk d2
   have ha:=hor a (Qq d1)
   have hb:=hor b (Qq b1)
   have e1:cbor_Map_L2b v keys (ci o) ((j+1:Nat):Int)=bif decide (kk keys a=kk keys b) then some (Q7 (Qx ([],10,()))) else some (Qx (v,keys,ci o,((j+1+1:Nat):Int),())):=by
    unfold cbor_Map_L2b
    rw [Vok,Vac (n:=((j+1:Nat):Int) - 1) (by omega) (by omega),show ((j+1:Nat):Int) - 1=(j:Int) by omega,Vgp (by omega) (show (j:Int) < (o.length:Int) by omega),Vgp (by omega) (show ((j+1:Nat):Int) < (o.length:Int) by omega),show decide (((j+1:Nat):Int) < (o.length:Int))=true from decide_eq_true (by omega),Qf,Qf,Vol d1,Vol b1,Vac (n:=((j+1:Nat):Int)+1) (by omega) (by omega)]
    simp only [cond_true,bindS]
    rw [Vln ha,Vln hb]
    simp only [bindS]
    rw [Va0a]
    rfl
   rw [Vad]
   dsimp only
   rw [e1]
   unfold adj
   cases hq:decide (kk keys a=kk keys b)
   ·simp only [cond_false,bindS,Q6,Bool.false_or]
    exact ih b (j+1) f d2 (by simp at hf; omega)
   ·rfl
 have e3:cbor_Map_L2 (v,keys,ci o,1,())=some (bif adj keys o then .inl ([],10,()) else .inr (v,keys,ci o,())):=by
  unfold cbor_Map_L2
  cases ho:o with
  | nil=>
   rw [Vae,show (1180591620717411303424:Nat)=1180591620717411303423+1 from rfl,Vad]
   rfl
  | cons a r=>
   have:=e2 r a 0 rounds (by rw [ho]; rfl) (by rw [Vae]; rw [ho] at hol; simp at hol; omega)
   rw [ho] at this
   exact this
 rw [e3]
 unfold mapO
 cases hadj:adj keys o
 ·simp only [cond_false,bindS,Qw]
  rw [Vll v hv (by omega)]
  simp only [bindS]
  by_cases h0:fau v=0
  ·rw [show decide (fau v=0)=true from decide_eq_true h0]
   simp only [Qe,cond_false]
   -- the collecting
   have e4 : ∀ (r : List Nat) (j f : Nat) (out : List ApiItem), o.drop j = r→r.length < f→out.length≤j * 601+1→iter (fun (y : ((List (List ApiItem))×(List (BitVec 64))×(List (ApiItem))×(List (Int))×Int×Int×Unit)) => cbor_Map_L4b y.1 y.2.1 y.2.2.1 y.2.2.2.1 y.2.2.2.2.1 y.2.2.2.2.2.1) f (v, keys, out, ci o, (o.length : Int), (j : Int), ()) = some (gat out (prO keys v r), ()) := by
    intro r
    induction r with
    | nil=>
     intro j f out hr hf ho
     obtain ⟨f,rfl⟩:∃ g,f=g+1:=⟨f - 1,by omega⟩
     have hjl:o.length≤j:=by
      have:=congrArg List.length hr
      simp at this
      omega
     rw [Vad]
     dsimp only
     unfold cbor_Map_L4b
     rw [show decide ((j:Int) < (o.length:Int))=false from decide_eq_false (by omega)]
     rfl
    | cons b r ih=>
     intro j f out hr hf ho
     obtain ⟨f,rfl⟩:∃ g,f=g+1:=⟨f - 1,by omega⟩
     obtain ⟨d1,d2,d3,d4⟩:=Vbk hr
     have hb:=hor b (Qq d1)
     obtain ⟨l1,_⟩:=Vja hv b
     have e1:cbor_Map_L4b v keys out (ci o) (o.length:Int) (j:Int)=bif decide (512 < out.length) then some (Q7 (out,())) else some (Qx (v,keys,out++(⟨1,keys.getD b 0#64,[]⟩::v.getD b []),ci o,(o.length:Int),((j+1:Nat):Int),())):=by
      unfold cbor_Map_L4b
      rw [Vok,Vgp (by omega) (show (j:Int) < (o.length:Int) by omega),show decide ((j:Int) < (o.length:Int))=true from decide_eq_true (by omega),Qf,Vol d1,Vac (n:=(j:Int)+1) (by omega) (by omega)]
      simp only [cond_true,bindS]
      rw [show decide ((512:Int) < (out.length:Int))=decide (512 < out.length) by rw [decide_eq_decide]; omega]
      cases decide (512 < out.length)
      ·simp only [cond_false]
       rw [Vln hb]
       simp only [bindS,Zec]
       rw [Vc2 (by simp only [Qa,Q2]; omega),Vvx (show b < v.length by omega)]
       simp only [cond_true,bindS]
       rw [Vc2 (by simp only [Qd,Qa,Q2]; omega)]
       simp
      ·rfl
     rw [Vad]
     dsimp only
     rw [e1]
     have hpr:prO keys v (b::r)=(⟨1,keys.getD b 0#64,[]⟩::v.getD b [])::prO keys v r:=rfl
     rw [hpr]
     unfold gat
     cases decide (512 < out.length)
     ·exact ih (j+1) f (out++(⟨1,keys.getD b 0#64,[]⟩::v.getD b [])) d2 (by simp at hf; omega) (by rw [Qd,Qa,Qbj]; omega)
     ·rfl
   have e5:=e4 o 0 rounds [⟨6,Qb 64 (keys.length:Int),[]⟩] rfl (by rw [Vae]; omega) (by simp)
   have e6:cbor_Map_L4 (v,keys,[⟨6,Qb 64 (keys.length:Int),[]⟩],ci o,((ci o).length:Int),0,())=some (gat [⟨6,Qb 64 (keys.length:Int),[]⟩] (prO keys v o),()):=by
    rw [Vok]
    exact e5
   rw [e6]
   simp only [bindS]
   obtain ⟨l1,l2⟩:=Vlo (keys:=keys) hv o
   obtain ⟨s1,s2⟩:=Vm9 (prO keys v o) [⟨6,Qb 64 (keys.length:Int),[]⟩]
   rw [Vi9 _ (by rw [Qd,Qj] at s1; omega) (fun x hx=>by
    rcases List.mem_append.1 (s2 x hx) with hx | hx
    ·simp at hx; subst hx; simp
    ·exact l2 x hx)]
   simp only [bindS]
   rw [Vrk,(Vj5 (prO keys v o) _).1,Qbg]
   by_cases h1:valO (⟨6,Qb 64 (keys.length:Int),[]⟩::(prO keys v o).flatten)=0
   ·rw [h1]; rfl
   ·rw [show decide (valO (⟨6,Qb 64 (keys.length:Int),[]⟩::(prO keys v o).flatten)=0)=false from decide_eq_false h1]; rfl
  ·rw [show decide (fau v=0)=false from decide_eq_false h0]
   rfl
 ·rfl
theorem LA_ok {h g dd:Nat} (hg:h≤g) (hd:dd+1+h≤9):∀ (os:List (List ApiItem)) (r:List ApiItem) (n:Nat),(∀ o∈os,VT h o)→n+os.flatten.length≤512→LA (fun s n=>W getL g s n (dd+1) false []) os.length (os.flatten++r) n=(0,os.flatten,r)
 | [],r,n,_,_=>rfl
 | o::os,r,n,H,hn=>by
  simp only [Qs,Qd] at hn
  have h1:=H o (by simp) g n (dd+1) (os.flatten++r) [] hg (by omega) (by omega)
  have h2:=LA_ok hg hd os r (n+o.length) (fun p hp=>H p (by simp [hp])) (by omega)
  simp only [Qa,LA,Qs,Qbo]
  rw [h1]
  simp only [decide_true,cond_true]
  rw [h2]
theorem Vw8 {h k:Nat} {os:List (List ApiItem)} (hk:os.length=k) (hk3:k≤512) (H:∀ o∈os,VT h o):VT (h+1) (⟨5,Qc 64 k,[]⟩::os.flatten):=by
 intro g n dd r b hg hn hd
 obtain ⟨g,rfl⟩:∃ q,g=q+1:=⟨g - 1,by omega⟩
 simp only [Qa] at hn
 have hkn:(Qc 64 k).toNat=k:=by rw [Qt,Q3 (by omega)]
 have hc:chk ⟨5,Qc 64 k,[]⟩ n dd false b=0:=by
  unfold chk adm bad big acc
  dsimp only
  rw [hkn,show decide (512≤n)=false by simp; omega,show decide (8 < dd)=false by simp; omega,show decide (512 < k)=false by simp; omega]
  rfl
 have:=LA_ok (g:=g) (dd:=dd) (by omega) (by omega) os r (n+1) H (by omega)
 rw [hk] at this
 unfold W
 simp only [Q9,getL,hc,decide_true,cond_true,hkn,this]
theorem Vdw {n:Nat} (h:n < 1000000):small n 24=true:=by
 unfold small; simp; omega
theorem Vnz {l:List ApiItem} {r:List (List ApiItem)} (h:light1 (l::r)):(l.length≤600∧∀ x∈l,x.data.length < 100000)∧light1 r:=⟨h l (by simp),fun q hq=>h q (by simp [hq])⟩
theorem Viq:∀ {v:List (List ApiItem)},light1 v→v.flatten.length≤v.length * 600∧∀ x∈v.flatten,x.data.length < 100000
 | [],_=>by simp
 | l::r,h=>by
  obtain ⟨h1,h2⟩:=Vnz h
  obtain ⟨i1,i2⟩:=Viq h2
  refine ⟨?_,?_⟩
  ·simp only [Qs,Qd,Qa,Qbj]
   omega
  ·intro x hx
   simp only [Qs,List.mem_append] at hx
   rcases hx with hx | hx
   ·exact h1.2 x hx
   ·exact i2 x hx
def arrO (v:List (List ApiItem)):List ApiItem×Int:=
 bif !decide (fau v=0) then ([],fau v) else
 bif decide (valO (⟨5,Qb 64 (v.length:Int),[]⟩::v.flatten)=0) then (⟨5,Qb 64 (v.length:Int),[]⟩::v.flatten,0) else ([],valO (⟨5,Qb 64 (v.length:Int),[]⟩::v.flatten))
theorem Vw9 (v:List (List ApiItem)) (hv:light1 v) (hl:v.length≤1000):Zdw v=some ((),(arrO v).1,(arrO v).2,()):=by
 unfold Zdw arrO
 rw [Vll v hv hl]
 simp only [bindS]
 by_cases h0:fau v=0
 ·rw [show decide (fau v=0)=true from decide_eq_true h0]
  simp only [Qe,cond_false]
  have key:∀ (r:List (List ApiItem)) (j f:Nat) (o:List ApiItem),v.drop j=r→r.length < f→o.length≤j * 600+1→iter (fun (y:((List (ApiItem))×(List (List ApiItem))×Int×Int×Unit))=>Zdw_L0b y.1 y.2.1 y.2.2.1 y.2.2.2.1) f (o,v,(v.length:Int),(j:Int),())=some (gat o r,()):=by
   intro r
   induction r with
   | nil=>
    intro j f o hr hf ho
    obtain ⟨f,rfl⟩:∃ g,f=g+1:=⟨f - 1,by omega⟩
    have hjl:v.length≤j:=by
     have:=congrArg List.length hr
     simp at this
     omega
    rw [Vad]
    dsimp only
    unfold Zdw_L0b
    rw [show decide ((j:Int) < (v.length:Int))=false from decide_eq_false (by omega)]
    rfl
   | cons l r ih=>
    intro j f o hr hf ho
    obtain ⟨f,rfl⟩:∃ g,f=g+1:=⟨f - 1,by omega⟩
    obtain ⟨d1,d2,d3,d4⟩:=Vbk hr
    have hm:=hv l (Qq d1)
    have e1:Zdw_L0b o v (v.length:Int) (j:Int)=bif decide (512 < o.length) then some (Q7 (o,())) else some (Qx (o++l,v,(v.length:Int),((j+1:Nat):Int),())):=by
     unfold Zdw_L0b
     rw [show decide ((j:Int) < (v.length:Int))=true from decide_eq_true (by omega),Vbj d1,Vac (n:=(j:Int)+1) (by omega) (by omega),show decide ((512:Int) < (o.length:Int))=decide (512 < o.length) by rw [decide_eq_decide]; omega]
     simp only [cond_true,bindS]
     rw [Vc2 (by omega)]
     rfl
    rw [Vad]
    dsimp only
    rw [e1]
    unfold gat
    cases decide (512 < o.length)
    ·exact ih (j+1) f (o++l) d2 (by simp at hf; omega) (by rw [Qd,Qbj]; omega)
    ·rfl
  unfold Zdw_L0
  have e:=key v 0 rounds [⟨5,Qb 64 (v.length:Int),[]⟩] rfl (by rw [Vae]; omega) (by simp)
  rw [show ((0:Nat):Int)=0 from rfl] at e
  rw [e]
  simp only [bindS]
  obtain ⟨l1,l2⟩:=Viq hv
  obtain ⟨s1,s2⟩:=Vm9 v [⟨5,Qb 64 (v.length:Int),[]⟩]
  have l3:v.length * 600≤1000 * 600:=Nat.mul_le_mul_right _ hl
  rw [Vi9 _ (by rw [Qd,Qj] at s1; omega) (fun x hx=>by
   rcases List.mem_append.1 (s2 x hx) with hx | hx
   ·simp at hx; subst hx; simp
   ·exact l2 x hx)]
  simp only [bindS]
  rw [Vrk,(Vj5 v _).1,Qbg]
  by_cases h1:valO (⟨5,Qb 64 (v.length:Int),[]⟩::v.flatten)=0
  ·rw [h1]; rfl
  ·rw [show decide (valO (⟨5,Qb 64 (v.length:Int),[]⟩::v.flatten)=0)=false from decide_eq_false h1]; rfl
 ·rw [show decide (fau v=0)=false from decide_eq_false h0]
  rfl
theorem Vc0 {h:Nat} {o:List ApiItem} (H:VT h o) (hh:h≤9) (hl:o.length≤512):valO o=0:=by
 have hv:=H 12 0 0 [] [] (by omega) (by omega) (by omega)
 rw [Qah] at hv
 unfold valO
 rw [(Vob Vm2 12 (by omega) o).2 (by rw [hv]),hv]
 rfl
def keyI (n:Nat):ApiItem:=⟨1,Qc 64 n,[]⟩
theorem Vafa:∀ a b:Fin 18,a < b→lss (enc (keyI a.val)) (enc (keyI b.val))=true:=by decide +kernel
theorem Vuy:∀ a:Fin 18,bad (keyI a.val)=false∧big (keyI a.val)=false:=by decide +kernel
def upN:List Nat→Prop:=fun ns=>ns.Pairwise (· < ·)∧∀ n∈ns,n≤17
theorem Vuz:∀ (ns:List Nat) (last:List UInt8),upN ns→(last=[]∨∃ m,m≤17∧last=enc (keyI m)∧∀ n∈ns,m < n)→keysOk last (ns.map keyI)
 | [],_,_,_=>trivial
 | n::ns,last,h,hl=>by
  have hn:=h.2 n (by simp)
  refine ⟨rfl,?_,Vuz ns (enc (keyI n)) ⟨(List.pairwise_cons.1 h.1).2,fun m hm=>h.2 m (by simp [hm])⟩ (.inr ⟨n,hn,rfl,(List.pairwise_cons.1 h.1).1⟩)⟩
  intro k d hk hd
  refine Vy0 (.inl rfl) (Vuy ⟨n,by omega⟩).1 (Vuy ⟨n,by omega⟩).2 (fun h=>by cases h) ?_ hk hd
  rcases hl with rfl | ⟨m,hm,rfl,hm2⟩
  ·exact .inl rfl
  ·exact .inr (Vafa ⟨m,by omega⟩ ⟨n,by omega⟩ (hm2 n (by simp)))
def kN (ns:List Nat):List (BitVec 64):=ns.map (Qc 64)
theorem kk_kN {ns:List Nat} (h:upN ns) {i:Nat} (hi:i < ns.length):kk (kN ns) i=ns[i]:=by
 unfold kk kN
 have:=h.2 ns[i] (Qal hi)
 rw [Ql,Qa3,Qh hi]
 simp only [Qa4,Option.getD_some,Qt]
 omega
theorem Vyh {ns:List Nat} (h:upN ns):asc (kN ns):=by
 intro i j hij hj
 have hj:j < ns.length:=by simpa [kN] using hj
 rw [kk_kN h (by omega),kk_kN h hj]
 exact List.pairwise_iff_getElem.1 h.1 i j _ _ hij
theorem Vu0 {keys:List (BitVec 64)}:∀ (o:List Nat),o.Pairwise (fun a b=>kk keys a < kk keys b)→adj keys o=false
 | [],_=>rfl
 | [a],_=>rfl
 | a::b::r,h=>by
  unfold adj
  have h1:=(List.pairwise_cons.1 h)
  have:=h1.1 b (by simp)
  rw [Vu0 (b::r) h1.2,decide_eq_false (show ¬ kk keys a=kk keys b by omega)]; rfl
theorem Vn0:∀ (v:List (List ApiItem)),(∀ o∈v,valO o=0)→fau v=0
 | [],_=>rfl
 | l::r,h=>by
  unfold fau
  rw [decide_eq_true (h l (by simp))]
  exact Vn0 r fun o ho=>h o (by simp [ho])
def pairI (ns:List Nat) (v:List (List ApiItem)):List ApiItem:=((ns.map keyI).zip v).flatMap fun p=>p.1::p.2
def mapI (ns:List Nat) (v:List (List ApiItem)):List ApiItem:=⟨6,Qc 64 ns.length,[]⟩::pairI ns v
theorem Vaga {ns:List Nat} {v:List (List ApiItem)} (hl:ns.length=v.length):(prO (kN ns) v (Qu ns.length)).flatten=pairI ns v:=by
 unfold pairI prO
 rw [List.flatMap_def]
 congr 1
 apply List.ext_getElem
 ·simp [hl]
 ·intro i h1 h2
  have hi:i < ns.length:=by simpa using h1
  simp [kN,keyI,Ql,Qh hi,Qh (show i < v.length by omega)]
theorem Vyi {ns:List Nat} {v:List (List ApiItem)} {h:Nat} (hu:upN ns) (hk:ns.length≤17) (hl:ns.length=v.length) (h1:1≤h) (hh:h≤8) (hv:light1 v) (H:∀ o∈v,VT h o) (hs:(mapI ns v).length≤512) (hs2:∀ o∈v,o.length≤512) :
  cbor_Map (kN ns) v=some ((),mapI ns v,0,())∧VT (h+1) (mapI ns v):=by
 have hkl:(kN ns).length=ns.length:=by simp [kN]
 have hV:VT (h+1) (mapI ns v):=Vasa (k:=ns.length) (by simp) (by simpa using hl) (by omega) h1 (Vuz ns [] hu (.inl rfl)) H
 refine ⟨?_,hV⟩
 rw [MapA (Vyh hu) v (by omega) (by omega) hv,hkl]
 unfold mapO
 have ha:adj (kN ns) (Qu ns.length)=false:=by
  apply Vu0
  rw [List.pairwise_iff_getElem]
  intro i j hi hj hij
  simp only [List.getElem_range]
  exact Vyh hu i j hij (by simpa [kN] using hj)
 rw [ha,Vn0 v fun o ho=>Vc0 (H o ho) (by omega) (hs2 o ho),Vaga hl,hkl,Qn]
 have:=Vc0 hV (by omega) hs
 unfold mapI at this
 rw [this]
 rfl
def bytesI (b:List UInt8):List ApiItem:=[⟨3,0#64,b⟩]
def textI (b:List UInt8):List ApiItem:=[⟨4,0#64,b⟩]
def uintI (n:BitVec 64):List ApiItem:=[⟨1,n,[]⟩]
def boolI (b:Bool):List ApiItem:=[⟨7,bif b then 1#64 else 0#64,[]⟩]
theorem Vdx {b:List UInt8} (h:b.length≤1024):VT 1 (bytesI b):=
 Vhg (by dsimp only; decide) (by dsimp only; decide) fun n d bb hn hd=>Vfh (by dsimp only; decide) (by dsimp only; decide) rfl (by unfold big; rw [decide_eq_false (show ¬ 1024 < b.length by omega)]; rfl) (fun h=>by cases h) hn hd
theorem Vir {b:List UInt8} (h:b.length≤1024) (hv:Lib.validD b=true):VT 1 (textI b):=
 Vhg (by dsimp only; decide) (by dsimp only; decide) fun n d bb hn hd=>Vfh (by dsimp only; decide) (by dsimp only; decide) rfl (by unfold big; rw [decide_eq_false (show ¬ 1024 < b.length by omega)]; rfl) (fun _=>hv) hn hd
theorem Vn1 (n:BitVec 64):VT 1 (uintI n):=
 Vhg (by dsimp only; decide) (by dsimp only; decide) fun k d bb hn hd=>Vfh (by dsimp only; decide) (by dsimp only; decide) rfl rfl (fun h=>by cases h) hn hd
theorem Vaha (b:Bool):VT 1 (boolI b):=by
 cases b
 ·exact Vhg (by dsimp only; decide) (by dsimp only; decide) fun k d bb hn hd=>Vfh (by dsimp only; decide) (by dsimp only; decide) rfl rfl (fun h=>by cases h) hn hd
 ·exact Vhg (by dsimp only; decide) (by dsimp only; decide) fun k d bb hn hd=>Vfh (by dsimp only; decide) (by dsimp only; decide) rfl rfl (fun h=>by cases h) hn hd
def arrI (v:List (List ApiItem)):List ApiItem:=⟨5,Qc 64 v.length,[]⟩::v.flatten
theorem Vpm {v:List (List ApiItem)} {h:Nat} (hk:v.length≤100) (h1:1≤h) (hh:h≤8) (hv:light1 v) (H:∀ o∈v,VT h o) (hs:(arrI v).length≤512) (hs2:∀ o∈v,o.length≤512) :
  Zdj v=some ((),arrI v,())∧VT (h+1) (arrI v):=by
 have hV:VT (h+1) (arrI v):=Vw8 rfl (by omega) H
 refine ⟨?_,hV⟩
 unfold Zdj
 rw [Vw9 v hv (by omega)]
 have:=Vc0 hV (by omega) hs
 unfold arrI at this
 unfold arrO
 rw [Vn0 v fun o ho=>Vc0 (H o ho) (by omega) (hs2 o ho),Qn,this]
 rfl
theorem Vhd {σ β α τ:Type} {f:σ→Option (σ⊕β)} (l:List α) (g:α→τ) (mk:Nat→List τ→σ) (b:β) (hl:l.length < 9000000000000000000)
  (h:∀ (i:Nat) (x:α),l[i]? = some x→f (mk i ((l.take i).map g))=some (.inl (mk (i+1) ((l.take i).map g++[g x]))))
  (he:f (mk l.length (l.map g))=some (.inr b)):iter f rounds (mk 0 [])=some b:=by
 obtain ⟨t,h1,h2⟩:=Vcb (f:=f) l (fun _ (t:List τ) x=>t++[g x]) mk (fun _=>b) (fun i t=>t=(l.take i).map g) hl [] (by simp)
  (by
   rintro i t x rfl hx
   refine ⟨h i x hx,?_⟩
   rw [Qv,hx]
   simp)
  (by
   rintro t rfl
   rw [Qaf]
   exact he)
 exact h2
theorem Vu1 (b:List UInt8):Zdx b=some ((),bytesI b,()):=rfl
theorem Vyj (b:List UInt8):Zeb b=some ((),textI b,()):=rfl
theorem Vyk (n:BitVec 64):Zec n=some ((),uintI n,()):=rfl
theorem Vd9a (b:Bool):Zea b=some ((),boolI b,()):=by cases b<;>rfl
def certI (l:List (List UInt8)):List ApiItem:=arrI (l.map bytesI)
theorem Vgw {l:List (List UInt8)} (h:∀ c∈l,c.length≤1024):light1 (l.map bytesI):=by
 intro o ho
 obtain ⟨c,hc,rfl⟩:=List.mem_map.1 ho
 have:=h c hc
 exact ⟨by simp [bytesI],fun x hx=>by simp [bytesI] at hx; subst hx; dsimp only; omega⟩
theorem flat1 {α:Type} (g:α→List ApiItem) (k:Nat):∀ (l:List α),(∀ x∈l,(g x).length=k)→(l.map g).flatten.length=k * l.length
 | [],_=>by simp
 | x::l,h=>by
  rw [Qat,Qs,Qd,flat1 g k l fun y hy=>h y (by simp [hy]),h x (by simp),Qa,Nat.mul_succ]; omega
theorem Vf1 (l:List (List UInt8)):(certI l).length=1+l.length:=by
 unfold certI arrI
 rw [Qa,flat1 bytesI 1 l fun x _=>rfl]; omega
theorem Vju {l:List (List UInt8)} (hl:l.length≤3) (h:∀ c∈l,c.length≤1024):Zcz l=some ((),certI l,())∧VT 2 (certI l):=by
 obtain ⟨a1,a2⟩:=Vpm (v:=l.map bytesI) (h:=1) (by simp; omega) (by omega) (by omega) (Vgw h)
  (by intro o ho; obtain ⟨c,hc,rfl⟩:=List.mem_map.1 ho; exact Vdx (h c hc)) (by have:=Vf1 l; unfold certI at this; omega) (by intro o ho; obtain ⟨c,hc,rfl⟩:=List.mem_map.1 ho; simp [bytesI])
 refine ⟨?_,a2⟩
 unfold Zcz Zcz_L0
 rw [show ((0:Int))=((0:Nat):Int) from rfl,Vhd l bytesI (fun i t=>(t,l,(l.length:Int),(i:Int),())) (l.map bytesI,()) (by omega)]
 ·simp only [bindS]; rw [a1]; rfl
 ·intro i x hx
  have h1:=Vak hx
  simp only [Zcz_L0b,Vbv hx,gIn hx,Vu1,bindS,cond_true,Vam (i:=i) (by omega)]
  rw [Vdw (by simp; omega)]
  rfl
 ·simp [Zcz_L0b]
def entV (x:ApiEntry):List (List ApiItem):=[textI x.rP,bytesI x.user,textI x.name,bytesI x.iD,uintI (Qb 64 x.left)]
def entI (x:ApiEntry):List ApiItem:=mapI [1,2,3,4,5] (entV x)
structure GoodE (x:ApiEntry):Prop where
 r:x.rP.length≤64
 u:x.user.length≤16
 n:x.name.length≤32
 vr:Lib.validD x.rP=true
 vn:Lib.validD x.name=true
 i:x.iD.length=176
 l:0≤x.left∧x.left≤255
theorem Vpn {x:ApiEntry} (h:GoodE x):cbor_Map ([1#64,2#64,3#64,4#64,5#64]:List (BitVec 64)) (entV x)=some ((),entI x,0,())∧VT 2 (entI x):=by
 have:=h.r; have:=h.u; have:=h.n; have:=h.i
 refine Vyi (ns:=[1,2,3,4,5]) (v:=entV x) (h:=1) ⟨by decide,by decide⟩ (by decide) rfl (by omega) (by omega) ?_ ?_ (by simp [mapI,pairI,entV,textI,bytesI,uintI]) ?_
 ·intro o ho
  simp only [entV,Qan,Qo,or_false] at ho
  rcases ho with rfl | rfl | rfl | rfl | rfl<;>exact ⟨by simp [textI,bytesI,uintI],fun y hy=>by simp [textI,bytesI,uintI] at hy; subst hy; dsimp only; first | omega | exact (by decide)⟩
 ·intro o ho
  simp only [entV,Qan,Qo,or_false] at ho
  rcases ho with rfl | rfl | rfl | rfl | rfl
  ·exact Vir (by omega) h.vr
  ·exact Vdx (by omega)
  ·exact Vir (by omega) h.vn
  ·exact Vdx (by omega)
  ·exact Vn1 _
 ·intro o ho
  simp only [entV,Qan,Qo,or_false] at ho
  rcases ho with rfl | rfl | rfl | rfl | rfl<;>simp [textI,bytesI,uintI]
theorem Vb5 (x:ApiEntry):(entI x).length=11:=by simp [entI,mapI,pairI,entV,textI,bytesI,uintI]
theorem Vis {x:ApiEntry} (h:GoodE x):∀ y∈entI x,y.data.length < 100000:=by
 have:=h.r; have:=h.u; have:=h.n; have:=h.i
 intro y hy
 simp only [entI,mapI,pairI,entV,textI,bytesI,uintI,keyI,Qat,List.map_nil,Qai,List.zip_nil_right,Qbn,List.flatMap_nil,Qah,Q9,Qa5,Qan,Qo,or_false] at hy
 rcases hy with rfl | rfl | rfl | rfl | rfl | rfl | rfl | rfl | rfl | rfl | rfl<;>dsimp only [Q2]<;>omega
def entsI (l:List ApiEntry):List ApiItem:=arrI (l.map entI)
theorem Vem (l:List ApiEntry):(entsI l).length=1+11 * l.length:=by
 unfold entsI arrI
 rw [Qa,flat1 entI 11 l fun x _=>Vb5 x]; omega
theorem Vjv {l:List ApiEntry} (hl:l.length≤8) (h:∀ x∈l,GoodE x):Zbm l=some ((),entsI l,())∧VT 3 (entsI l):=by
 obtain ⟨a1,a2⟩:=Vpm (v:=l.map entI) (h:=2) (by simp; omega) (by omega) (by omega)
  (by intro o ho; obtain ⟨c,hc,rfl⟩:=List.mem_map.1 ho; exact ⟨by rw [Vb5]; omega,Vis (h c hc)⟩)
  (by intro o ho; obtain ⟨c,hc,rfl⟩:=List.mem_map.1 ho; exact (Vpn (h c hc)).2) (by have:=Vem l; unfold entsI at this; omega) (by intro o ho; obtain ⟨c,hc,rfl⟩:=List.mem_map.1 ho; rw [Vb5]; omega)
 refine ⟨?_,a2⟩
 unfold Zbm Zbm_L0
 rw [show ((0:Int))=((0:Nat):Int) from rfl,Vhd l entI (fun i t=>(t,l,(l.length:Int),(i:Int),())) (Q7 (l.map entI,())) (by omega)]
 ·simp only [bindS,Qw]; rw [a1]; rfl
 ·intro i x hx
  have h1:=Vak hx
  have hm:=(Vpn (h x (Qq hx))).1
  unfold entV at hm
  simp only [Zbm_L0b,Vbv hx,gIn hx,Vu1,Vyj,Vyk,bindS,cond_true,Vam (i:=i) (by omega)]
  rw [hm]
  simp only [bindS,decide_true,Qe,cond_false]
  rw [Vdw (by simp; omega)]
  rfl
 ·simp [Zbm_L0b]
def selN:Nat→List Bool→List Nat
 | _,[]=>[]
 | i,b::bs=>bif b then i::selN (i+1) bs else selN (i+1) bs
def selV:List Bool→List (List ApiItem)→List (List ApiItem)
 | b::bs,v::vs=>bif b then v::selV bs vs else selV bs vs
 | _,_=>[]
theorem Vit (b:Bool):∀ (l:List Bool) (i:Nat),selN i (l++[b])=selN i l++(bif b then [i+l.length] else [])
 | [],i=>by cases b<;>rfl
 | c::l,i=>by
  rw [Q9]
  unfold selN
  rw [Vit b l (i+1),Qa,show i+1+l.length=i+(l.length+1) by omega]
  cases c<;>simp
theorem Viu (b:Bool) (v:List ApiItem):∀ (l:List Bool) (vs:List (List ApiItem)),l.length=vs.length→selV (l++[b]) (vs++[v])=selV l vs++(bif b then [v] else [])
 | [],[],_=>by cases b<;>rfl
 | c::l,w::vs,h=>by
  rw [Q9,Q9]
  unfold selV
  rw [Viu b v l vs (by simpa using h)]
  cases c<;>simp
theorem Vgk:∀ (l:List Bool) (vs:List (List ApiItem)) (i:Nat),l.length=vs.length→(selN i l).length=(selV l vs).length
 | [],[],i,_=>rfl
 | c::l,w::vs,i,h=>by
  unfold selN selV
  have:=Vgk l vs (i+1) (by simpa using h)
  cases c<;>simp [this]
theorem Vc1:∀ (l:List Bool) (vs:List (List ApiItem)),(selV l vs).flatten.length≤vs.flatten.length∧∀ o∈selV l vs,o∈vs
 | [],_=>by unfold selV; simp
 | c::l,[]=>by unfold selV; simp
 | c::l,w::vs=>by
  obtain ⟨h1,h2⟩:=Vc1 l vs
  unfold selV
  cases c
  ·refine ⟨by simp only [cond_false,Qs,Qd]; omega,fun o ho=>?_⟩
   exact Qae _ (h2 o ho)
  ·refine ⟨by simp only [cond_true,Qs,Qd]; omega,fun o ho=>?_⟩
   simp only [cond_true,Qan] at ho
   rcases ho with rfl | ho
   ·simp
   ·exact Qae _ (h2 o ho)
theorem Vfd:∀ (l:List Bool) (i:Nat),(selN i l).Pairwise (· < ·)∧(∀ n∈selN i l,i≤n∧n < i+l.length)∧(selN i l).length≤l.length
 | [],i=>by unfold selN; simp
 | c::l,i=>by
  obtain ⟨h1,h2,h3⟩:=Vfd l (i+1)
  unfold selN
  cases c
  ·refine ⟨h1,fun n hn=>?_,by simp only [cond_false,Qa]; omega⟩
   have:=h2 n hn
   rw [Qa]; omega
  ·refine ⟨?_,fun n hn=>?_,by simp only [cond_true,Qa]; omega⟩
   ·simp only [cond_true,List.pairwise_cons]
    exact ⟨fun n hn=>by have:=h2 n hn; omega,h1⟩
   ·simp only [cond_true,Qan] at hn
    rcases hn with rfl | hn
    ·rw [Qa]; omega
    ·have:=h2 n hn
     rw [Qa]; omega
theorem Viv:∀ (ns:List Nat) (v:List (List ApiItem)),ns.length=v.length→(pairI ns v).length=ns.length+v.flatten.length
 | [],[],_=>rfl
 | n::ns,o::v,h=>by
  have:=Viv ns v (by simpa using h)
  unfold pairI at *
  simp only [Qat,Qai,Qbn,Qd,Qa,Qs]
  omega
def chosI (us:List Bool) (vs:List (List ApiItem)):List ApiItem:=mapI (selN 1 us) (selV us vs)
structure Fit (us:List Bool) (vs:List (List ApiItem)):Prop where
 n:us.length=17
 l:us.length=vs.length
 v:∀ o∈vs,VT 3 o
 f:vs.flatten.length≤400
 d:∀ o∈vs,o.length≤400∧∀ x∈o,x.data.length < 100000
theorem Fit.up {us:List Bool} {vs:List (List ApiItem)} (h:Fit us vs):upN (selN 1 us):=by
 obtain ⟨h1,h2,h3⟩:=Vfd us 1
 exact ⟨h1,fun n hn=>by have:=h2 n hn; have:=h.n; omega⟩
theorem Fit.len {us:List Bool} {vs:List (List ApiItem)} (h:Fit us vs):(chosI us vs).length≤450:=by
 unfold chosI mapI
 rw [Qa,Viv _ _ (Vgk us vs 1 h.l)]
 have:=(Vfd us 1).2.2
 have:=(Vc1 us vs).1
 have:=h.n; have:=h.f
 omega
theorem Fit.map {us:List Bool} {vs:List (List ApiItem)} (h:Fit us vs):cbor_Map (kN (selN 1 us)) (selV us vs)=some ((),chosI us vs,0,())∧VT 4 (chosI us vs):=by
 have h3:=(Vfd us 1).2.2
 have h4:=h.len
 refine Vyi h.up (by have:=h.n; omega) (Vgk us vs 1 h.l) (by omega) (by omega) ?_ ?_ (by unfold chosI at h4; omega) ?_
 ·intro o ho
  have:=h.d o ((Vc1 us vs).2 o ho)
  exact ⟨by omega,this.2⟩
 ·intro o ho
  exact h.v o ((Vc1 us vs).2 o ho)
 ·intro o ho
  have:=h.d o ((Vc1 us vs).2 o ho)
  omega
theorem Fit.data {us:List Bool} {vs:List (List ApiItem)} (h:Fit us vs):∀ x∈chosI us vs,x.data.length < 100000:=by
 intro x hx
 unfold chosI mapI pairI at hx
 rcases List.mem_cons.1 hx with rfl | hx
 ·show ([]:List UInt8).length < 100000
  decide
 ·obtain ⟨p,hp,hx⟩:=List.mem_flatMap.1 hx
  obtain ⟨hp1,hp2⟩:=List.of_mem_zip hp
  rcases List.mem_cons.1 hx with rfl | hx
  ·obtain ⟨n,_,hn⟩:=List.mem_map.1 hp1
   rw [← hn]
   show ([]:List UInt8).length < 100000
   decide
  ·exact (h.d _ ((Vc1 us vs).2 _ hp2)).2 x hx
theorem Fit.enc {us:List Bool} {vs:List (List ApiItem)} (h:Fit us vs):encO (chosI us vs)=(encA (chosI us vs),0)∧valO (chosI us vs)=0:=by
 have hv:valO (chosI us vs)=0:=Vc0 h.map.2 (by omega) (by have:=h.len; omega)
 refine ⟨?_,hv⟩
 unfold encO
 rw [hv]; rfl
theorem Vn2:∀ (l:List ApiItem),(∀ x∈l,x.data.length < 100000)→(encA l).length≤100009 * l.length
 | [],_=>by simp [encA]
 | x::l,h=>by
  have h1:=Vn2 l fun y hy=>h y (by simp [hy])
  have h2:=h x (by simp)
  have h3:=(Vjz x).2
  rw [Vhj,Qd,Qa]
  unfold enc
  rw [Qd]
  omega
theorem Veaa (t:BitVec 32) (k:Nat):decide ((t >>> k) &&& 1#32=1#32)=t.getLsbD k:=by
 cases h:t.getLsbD k
 ·apply decide_eq_false
  intro e
  have:=congrArg (fun b:BitVec 32=>b.getLsbD 0) e
  simp [h] at this
 ·apply decide_eq_true
  apply Qbb
  intro i hi
  cases i with
  | zero=>simp [h]
  | succ i=>simp
theorem Vu2 {us:List Bool} {vs:List (List ApiItem)} (h:Fit us vs) (first:UInt8) {t:BitVec 32} (ht:∀ k,t.getLsbD k=(decide (1≤k)&&us.getD (k - 1) false)) :
  message_encode first t vs=some ((),first::encA (chosI us vs),0,()):=by
 have h17:=h.n
 have hl:=h.l
 have e0 : message_encode_L0 (first, t, [], [], vs, (vs.length : Int), 0, ()) = some (first, kN (selN 1 us), selV us vs, ()) := by
  unfold message_encode_L0
  obtain ⟨q,h1,h2⟩:=Vcb (f:=fun (y:(UInt8×(BitVec 32)×(List (BitVec 64))×(List (List ApiItem))×(List (List ApiItem))×Int×Int×Unit))=>message_encode_L0b y.1 y.2.1 y.2.2.1 y.2.2.2.1 y.2.2.2.2.1 y.2.2.2.2.2.1 y.2.2.2.2.2.2.1) vs
   (fun i (q:List (BitVec 64)×List (List ApiItem)) x=>bif us.getD i false then (q.1++[Qc 64 (i+1)],q.2++[x]) else q)
   (fun i q=>(first,t,q.1,q.2,vs,(vs.length:Int),(i:Int),())) (fun q=>(first,q.1,q.2,()))
   (fun i q=>q=(kN (selN 1 (us.take i)),selV (us.take i) (vs.take i))) (by omega) ([],[]) (by simp [selN,selV,kN])
   (by
    rintro i q x rfl hx
    have h1:=Vak hx
    have hu:us[i]? = some (us.getD i false):=by
     rw [Ql,Qh (show i < us.length by omega)]; rfl
    have hti:(us.take i).length=i:=by rw [Qz]; omega
    have htv:(vs.take i).length=i:=by rw [Qz]; omega
    have hsn:=(Vfd (us.take i) 1).2.2
    have hsl:=Vgk (us.take i) (vs.take i) 1 (by omega)
    refine ⟨?_,?_⟩
    ·simp only [message_encode_L0b,Vbv hx,gIn hx,bindS,cond_true,Vam (i:=i) (by omega)]
     rw [show decide ((0:Int)≤((i+1:Nat):Int))=true from decide_eq_true (Qbp _),Qf,Veaa,ht (i+1),decide_eq_true (show 1≤i+1 by omega),Nat.add_sub_cancel,Qk]
     simp only [cond_true]
     cases us.getD i false
     ·rfl
     ·simp only [cond_true]
      rw [show small ((kN (selN 1 (us.take i))).length+([Qb 64 ((i+1:Nat):Int)]:List (BitVec 64)).length) 8=true by unfold small kN; simp; omega,Vdw (by simp; omega),Qn]
      rfl
    ·rw [Qv,Qv,hx,hu,Qao,Qao,Vit,Viu _ _ _ _ (by omega),hti]
     unfold kN
     cases us.getD i false
     ·simp
     ·simp [Qbe])
   (by
    rintro q rfl
    simp [message_encode_L0b])
  have e1:us.take vs.length=us:=Qaw (by omega)
  rw [Qaf,e1] at h1
  rw [h1] at h2
  exact h2
 unfold message_encode
 rw [e0]
 simp only [bindS]
 rw [h.map.1]
 simp only [bindS,decide_true,Qe,cond_false]
 rw [Vq0 _ (by have:=h.len; omega) h.data,h.enc.1]
 simp only [bindS,decide_true,Qe,cond_false]
 have hlen:=Vn2 _ h.data
 have:=h.len
 rw [Vcg (by simp only [Qa,Q2]; omega)]
 rfl
abbrev T18:=List ApiItem×List ApiItem×List ApiItem×List ApiItem×List ApiItem×List ApiItem×List ApiItem×List ApiItem×List ApiItem×List ApiItem×List ApiItem×List ApiItem×List ApiItem×List ApiItem×List ApiItem×List ApiItem×List ApiItem×List ApiItem×Unit
def upd (y2:T18) (k:Nat) (v:List ApiItem):Option T18:=
 bif Nat.beq k 17 then some (y2.1,y2.2.1,y2.2.2.1,y2.2.2.2.1,y2.2.2.2.2.1,y2.2.2.2.2.2.1,y2.2.2.2.2.2.2.1,y2.2.2.2.2.2.2.2.1,y2.2.2.2.2.2.2.2.2.1,y2.2.2.2.2.2.2.2.2.2.1,y2.2.2.2.2.2.2.2.2.2.2.1,y2.2.2.2.2.2.2.2.2.2.2.2.1,y2.2.2.2.2.2.2.2.2.2.2.2.2.1,y2.2.2.2.2.2.2.2.2.2.2.2.2.2.1,y2.2.2.2.2.2.2.2.2.2.2.2.2.2.2.1,y2.2.2.2.2.2.2.2.2.2.2.2.2.2.2.2.1,y2.2.2.2.2.2.2.2.2.2.2.2.2.2.2.2.2.1,v,()) else bif Nat.beq k 16 then some (y2.1,y2.2.1,y2.2.2.1,y2.2.2.2.1,y2.2.2.2.2.1,y2.2.2.2.2.2.1,y2.2.2.2.2.2.2.1,y2.2.2.2.2.2.2.2.1,y2.2.2.2.2.2.2.2.2.1,y2.2.2.2.2.2.2.2.2.2.1,y2.2.2.2.2.2.2.2.2.2.2.1,y2.2.2.2.2.2.2.2.2.2.2.2.1,y2.2.2.2.2.2.2.2.2.2.2.2.2.1,y2.2.2.2.2.2.2.2.2.2.2.2.2.2.1,y2.2.2.2.2.2.2.2.2.2.2.2.2.2.2.1,y2.2.2.2.2.2.2.2.2.2.2.2.2.2.2.2.1,v,y2.2.2.2.2.2.2.2.2.2.2.2.2.2.2.2.2.2.1,()) else bif Nat.beq k 15 then some (y2.1,y2.2.1,y2.2.2.1,y2.2.2.2.1,y2.2.2.2.2.1,y2.2.2.2.2.2.1,y2.2.2.2.2.2.2.1,y2.2.2.2.2.2.2.2.1,y2.2.2.2.2.2.2.2.2.1,y2.2.2.2.2.2.2.2.2.2.1,y2.2.2.2.2.2.2.2.2.2.2.1,y2.2.2.2.2.2.2.2.2.2.2.2.1,y2.2.2.2.2.2.2.2.2.2.2.2.2.1,y2.2.2.2.2.2.2.2.2.2.2.2.2.2.1,y2.2.2.2.2.2.2.2.2.2.2.2.2.2.2.1,v,y2.2.2.2.2.2.2.2.2.2.2.2.2.2.2.2.2.1,y2.2.2.2.2.2.2.2.2.2.2.2.2.2.2.2.2.2.1,()) else bif Nat.beq k 14 then some (y2.1,y2.2.1,y2.2.2.1,y2.2.2.2.1,y2.2.2.2.2.1,y2.2.2.2.2.2.1,y2.2.2.2.2.2.2.1,y2.2.2.2.2.2.2.2.1,y2.2.2.2.2.2.2.2.2.1,y2.2.2.2.2.2.2.2.2.2.1,y2.2.2.2.2.2.2.2.2.2.2.1,y2.2.2.2.2.2.2.2.2.2.2.2.1,y2.2.2.2.2.2.2.2.2.2.2.2.2.1,y2.2.2.2.2.2.2.2.2.2.2.2.2.2.1,v,y2.2.2.2.2.2.2.2.2.2.2.2.2.2.2.2.1,y2.2.2.2.2.2.2.2.2.2.2.2.2.2.2.2.2.1,y2.2.2.2.2.2.2.2.2.2.2.2.2.2.2.2.2.2.1,()) else bif Nat.beq k 13 then some (y2.1,y2.2.1,y2.2.2.1,y2.2.2.2.1,y2.2.2.2.2.1,y2.2.2.2.2.2.1,y2.2.2.2.2.2.2.1,y2.2.2.2.2.2.2.2.1,y2.2.2.2.2.2.2.2.2.1,y2.2.2.2.2.2.2.2.2.2.1,y2.2.2.2.2.2.2.2.2.2.2.1,y2.2.2.2.2.2.2.2.2.2.2.2.1,y2.2.2.2.2.2.2.2.2.2.2.2.2.1,v,y2.2.2.2.2.2.2.2.2.2.2.2.2.2.2.1,y2.2.2.2.2.2.2.2.2.2.2.2.2.2.2.2.1,y2.2.2.2.2.2.2.2.2.2.2.2.2.2.2.2.2.1,y2.2.2.2.2.2.2.2.2.2.2.2.2.2.2.2.2.2.1,()) else bif Nat.beq k 12 then some (y2.1,y2.2.1,y2.2.2.1,y2.2.2.2.1,y2.2.2.2.2.1,y2.2.2.2.2.2.1,y2.2.2.2.2.2.2.1,y2.2.2.2.2.2.2.2.1,y2.2.2.2.2.2.2.2.2.1,y2.2.2.2.2.2.2.2.2.2.1,y2.2.2.2.2.2.2.2.2.2.2.1,y2.2.2.2.2.2.2.2.2.2.2.2.1,v,y2.2.2.2.2.2.2.2.2.2.2.2.2.2.1,y2.2.2.2.2.2.2.2.2.2.2.2.2.2.2.1,y2.2.2.2.2.2.2.2.2.2.2.2.2.2.2.2.1,y2.2.2.2.2.2.2.2.2.2.2.2.2.2.2.2.2.1,y2.2.2.2.2.2.2.2.2.2.2.2.2.2.2.2.2.2.1,()) else bif Nat.beq k 11 then some (y2.1,y2.2.1,y2.2.2.1,y2.2.2.2.1,y2.2.2.2.2.1,y2.2.2.2.2.2.1,y2.2.2.2.2.2.2.1,y2.2.2.2.2.2.2.2.1,y2.2.2.2.2.2.2.2.2.1,y2.2.2.2.2.2.2.2.2.2.1,y2.2.2.2.2.2.2.2.2.2.2.1,v,y2.2.2.2.2.2.2.2.2.2.2.2.2.1,y2.2.2.2.2.2.2.2.2.2.2.2.2.2.1,y2.2.2.2.2.2.2.2.2.2.2.2.2.2.2.1,y2.2.2.2.2.2.2.2.2.2.2.2.2.2.2.2.1,y2.2.2.2.2.2.2.2.2.2.2.2.2.2.2.2.2.1,y2.2.2.2.2.2.2.2.2.2.2.2.2.2.2.2.2.2.1,()) else bif Nat.beq k 10 then some (y2.1,y2.2.1,y2.2.2.1,y2.2.2.2.1,y2.2.2.2.2.1,y2.2.2.2.2.2.1,y2.2.2.2.2.2.2.1,y2.2.2.2.2.2.2.2.1,y2.2.2.2.2.2.2.2.2.1,y2.2.2.2.2.2.2.2.2.2.1,v,y2.2.2.2.2.2.2.2.2.2.2.2.1,y2.2.2.2.2.2.2.2.2.2.2.2.2.1,y2.2.2.2.2.2.2.2.2.2.2.2.2.2.1,y2.2.2.2.2.2.2.2.2.2.2.2.2.2.2.1,y2.2.2.2.2.2.2.2.2.2.2.2.2.2.2.2.1,y2.2.2.2.2.2.2.2.2.2.2.2.2.2.2.2.2.1,y2.2.2.2.2.2.2.2.2.2.2.2.2.2.2.2.2.2.1,()) else bif Nat.beq k 9 then some (y2.1,y2.2.1,y2.2.2.1,y2.2.2.2.1,y2.2.2.2.2.1,y2.2.2.2.2.2.1,y2.2.2.2.2.2.2.1,y2.2.2.2.2.2.2.2.1,y2.2.2.2.2.2.2.2.2.1,v,y2.2.2.2.2.2.2.2.2.2.2.1,y2.2.2.2.2.2.2.2.2.2.2.2.1,y2.2.2.2.2.2.2.2.2.2.2.2.2.1,y2.2.2.2.2.2.2.2.2.2.2.2.2.2.1,y2.2.2.2.2.2.2.2.2.2.2.2.2.2.2.1,y2.2.2.2.2.2.2.2.2.2.2.2.2.2.2.2.1,y2.2.2.2.2.2.2.2.2.2.2.2.2.2.2.2.2.1,y2.2.2.2.2.2.2.2.2.2.2.2.2.2.2.2.2.2.1,()) else bif Nat.beq k 8 then some (y2.1,y2.2.1,y2.2.2.1,y2.2.2.2.1,y2.2.2.2.2.1,y2.2.2.2.2.2.1,y2.2.2.2.2.2.2.1,y2.2.2.2.2.2.2.2.1,v,y2.2.2.2.2.2.2.2.2.2.1,y2.2.2.2.2.2.2.2.2.2.2.1,y2.2.2.2.2.2.2.2.2.2.2.2.1,y2.2.2.2.2.2.2.2.2.2.2.2.2.1,y2.2.2.2.2.2.2.2.2.2.2.2.2.2.1,y2.2.2.2.2.2.2.2.2.2.2.2.2.2.2.1,y2.2.2.2.2.2.2.2.2.2.2.2.2.2.2.2.1,y2.2.2.2.2.2.2.2.2.2.2.2.2.2.2.2.2.1,y2.2.2.2.2.2.2.2.2.2.2.2.2.2.2.2.2.2.1,()) else bif Nat.beq k 7 then some (y2.1,y2.2.1,y2.2.2.1,y2.2.2.2.1,y2.2.2.2.2.1,y2.2.2.2.2.2.1,y2.2.2.2.2.2.2.1,v,y2.2.2.2.2.2.2.2.2.1,y2.2.2.2.2.2.2.2.2.2.1,y2.2.2.2.2.2.2.2.2.2.2.1,y2.2.2.2.2.2.2.2.2.2.2.2.1,y2.2.2.2.2.2.2.2.2.2.2.2.2.1,y2.2.2.2.2.2.2.2.2.2.2.2.2.2.1,y2.2.2.2.2.2.2.2.2.2.2.2.2.2.2.1,y2.2.2.2.2.2.2.2.2.2.2.2.2.2.2.2.1,y2.2.2.2.2.2.2.2.2.2.2.2.2.2.2.2.2.1,y2.2.2.2.2.2.2.2.2.2.2.2.2.2.2.2.2.2.1,()) else bif Nat.beq k 6 then some (y2.1,y2.2.1,y2.2.2.1,y2.2.2.2.1,y2.2.2.2.2.1,y2.2.2.2.2.2.1,v,y2.2.2.2.2.2.2.2.1,y2.2.2.2.2.2.2.2.2.1,y2.2.2.2.2.2.2.2.2.2.1,y2.2.2.2.2.2.2.2.2.2.2.1,y2.2.2.2.2.2.2.2.2.2.2.2.1,y2.2.2.2.2.2.2.2.2.2.2.2.2.1,y2.2.2.2.2.2.2.2.2.2.2.2.2.2.1,y2.2.2.2.2.2.2.2.2.2.2.2.2.2.2.1,y2.2.2.2.2.2.2.2.2.2.2.2.2.2.2.2.1,y2.2.2.2.2.2.2.2.2.2.2.2.2.2.2.2.2.1,y2.2.2.2.2.2.2.2.2.2.2.2.2.2.2.2.2.2.1,()) else bif Nat.beq k 5 then some (y2.1,y2.2.1,y2.2.2.1,y2.2.2.2.1,y2.2.2.2.2.1,v,y2.2.2.2.2.2.2.1,y2.2.2.2.2.2.2.2.1,y2.2.2.2.2.2.2.2.2.1,y2.2.2.2.2.2.2.2.2.2.1,y2.2.2.2.2.2.2.2.2.2.2.1,y2.2.2.2.2.2.2.2.2.2.2.2.1,y2.2.2.2.2.2.2.2.2.2.2.2.2.1,y2.2.2.2.2.2.2.2.2.2.2.2.2.2.1,y2.2.2.2.2.2.2.2.2.2.2.2.2.2.2.1,y2.2.2.2.2.2.2.2.2.2.2.2.2.2.2.2.1,y2.2.2.2.2.2.2.2.2.2.2.2.2.2.2.2.2.1,y2.2.2.2.2.2.2.2.2.2.2.2.2.2.2.2.2.2.1,()) else bif Nat.beq k 4 then some (y2.1,y2.2.1,y2.2.2.1,y2.2.2.2.1,v,y2.2.2.2.2.2.1,y2.2.2.2.2.2.2.1,y2.2.2.2.2.2.2.2.1,y2.2.2.2.2.2.2.2.2.1,y2.2.2.2.2.2.2.2.2.2.1,y2.2.2.2.2.2.2.2.2.2.2.1,y2.2.2.2.2.2.2.2.2.2.2.2.1,y2.2.2.2.2.2.2.2.2.2.2.2.2.1,y2.2.2.2.2.2.2.2.2.2.2.2.2.2.1,y2.2.2.2.2.2.2.2.2.2.2.2.2.2.2.1,y2.2.2.2.2.2.2.2.2.2.2.2.2.2.2.2.1,y2.2.2.2.2.2.2.2.2.2.2.2.2.2.2.2.2.1,y2.2.2.2.2.2.2.2.2.2.2.2.2.2.2.2.2.2.1,()) else bif Nat.beq k 3 then some (y2.1,y2.2.1,y2.2.2.1,v,y2.2.2.2.2.1,y2.2.2.2.2.2.1,y2.2.2.2.2.2.2.1,y2.2.2.2.2.2.2.2.1,y2.2.2.2.2.2.2.2.2.1,y2.2.2.2.2.2.2.2.2.2.1,y2.2.2.2.2.2.2.2.2.2.2.1,y2.2.2.2.2.2.2.2.2.2.2.2.1,y2.2.2.2.2.2.2.2.2.2.2.2.2.1,y2.2.2.2.2.2.2.2.2.2.2.2.2.2.1,y2.2.2.2.2.2.2.2.2.2.2.2.2.2.2.1,y2.2.2.2.2.2.2.2.2.2.2.2.2.2.2.2.1,y2.2.2.2.2.2.2.2.2.2.2.2.2.2.2.2.2.1,y2.2.2.2.2.2.2.2.2.2.2.2.2.2.2.2.2.2.1,()) else bif Nat.beq k 2 then some (y2.1,y2.2.1,v,y2.2.2.2.1,y2.2.2.2.2.1,y2.2.2.2.2.2.1,y2.2.2.2.2.2.2.1,y2.2.2.2.2.2.2.2.1,y2.2.2.2.2.2.2.2.2.1,y2.2.2.2.2.2.2.2.2.2.1,y2.2.2.2.2.2.2.2.2.2.2.1,y2.2.2.2.2.2.2.2.2.2.2.2.1,y2.2.2.2.2.2.2.2.2.2.2.2.2.1,y2.2.2.2.2.2.2.2.2.2.2.2.2.2.1,y2.2.2.2.2.2.2.2.2.2.2.2.2.2.2.1,y2.2.2.2.2.2.2.2.2.2.2.2.2.2.2.2.1,y2.2.2.2.2.2.2.2.2.2.2.2.2.2.2.2.2.1,y2.2.2.2.2.2.2.2.2.2.2.2.2.2.2.2.2.2.1,()) else bif Nat.beq k 1 then some (y2.1,v,y2.2.2.1,y2.2.2.2.1,y2.2.2.2.2.1,y2.2.2.2.2.2.1,y2.2.2.2.2.2.2.1,y2.2.2.2.2.2.2.2.1,y2.2.2.2.2.2.2.2.2.1,y2.2.2.2.2.2.2.2.2.2.1,y2.2.2.2.2.2.2.2.2.2.2.1,y2.2.2.2.2.2.2.2.2.2.2.2.1,y2.2.2.2.2.2.2.2.2.2.2.2.2.1,y2.2.2.2.2.2.2.2.2.2.2.2.2.2.1,y2.2.2.2.2.2.2.2.2.2.2.2.2.2.2.1,y2.2.2.2.2.2.2.2.2.2.2.2.2.2.2.2.1,y2.2.2.2.2.2.2.2.2.2.2.2.2.2.2.2.2.1,y2.2.2.2.2.2.2.2.2.2.2.2.2.2.2.2.2.2.1,()) else bif Nat.beq k 0 then some (v,y2.2.1,y2.2.2.1,y2.2.2.2.1,y2.2.2.2.2.1,y2.2.2.2.2.2.1,y2.2.2.2.2.2.2.1,y2.2.2.2.2.2.2.2.1,y2.2.2.2.2.2.2.2.2.1,y2.2.2.2.2.2.2.2.2.2.1,y2.2.2.2.2.2.2.2.2.2.2.1,y2.2.2.2.2.2.2.2.2.2.2.2.1,y2.2.2.2.2.2.2.2.2.2.2.2.2.1,y2.2.2.2.2.2.2.2.2.2.2.2.2.2.1,y2.2.2.2.2.2.2.2.2.2.2.2.2.2.2.1,y2.2.2.2.2.2.2.2.2.2.2.2.2.2.2.2.1,y2.2.2.2.2.2.2.2.2.2.2.2.2.2.2.2.2.1,y2.2.2.2.2.2.2.2.2.2.2.2.2.2.2.2.2.2.1,()) else none
def mkT (G:Nat→List ApiItem):T18:=(G 0,G 1,G 2,G 3,G 4,G 5,G 6,G 7,G 8,G 9,G 10,G 11,G 12,G 13,G 14,G 15,G 16,G 17,())
theorem Vu3 (G:Nat→List ApiItem) {k:Nat} (hk:k < 18) (v:List ApiItem):upd (mkT G) k v=some (mkT fun j=>bif Nat.beq j k then v else G j):=by
 have:k=0∨k=1∨k=2∨k=3∨k=4∨k=5∨k=6∨k=7∨k=8∨k=9∨k=10∨k=11∨k=12∨k=13∨k=14∨k=15∨k=16∨k=17:=by omega
 rcases this with rfl | rfl | rfl | rfl | rfl | rfl | rfl | rfl | rfl | rfl | rfl | rfl | rfl | rfl | rfl | rfl | rfl | rfl<;>rfl
def fv (n:BitVec 64) (s:List UInt8) (b:Bool) (i:Nat) (old:List ApiItem):List ApiItem:=
 bif !decide (n=0#64) then [⟨1,n,[]⟩] else bif !decide (s=([]:List UInt8)) then (bif decide ((i:Int)=7) then [⟨4,0#64,s⟩] else [⟨3,0#64,s⟩]) else bif b then [⟨7,1#64,[]⟩] else old
theorem Veba (y0:ApiReply×Unit) (y1 y2:T18) (y3:List (BitVec 64)) (y4:List (List UInt8)) (y5:List Bool) {i:Nat} (hi:i < 18) {n:BitVec 64} {s:List UInt8} {b:Bool} (h3:y3[i]? = some n) (h4:y4[i]? = some s) (h5:y5[i]? = some b) :
  passkeyref14_replyFields_L0b y0 y1 y2 y3 y4 y5 (i:Int)=bif !decide (n=0#64) then (upd y2 i [⟨1,n,[]⟩]).bind (fun t=>some (Qx ((y0.1,()),y1,t,y3,y4,y5,((i+1:Nat):Int),()))) else bif !decide (s=([]:List UInt8)) then (upd y2 i (bif decide ((i:Int)=7) then [⟨4,0#64,s⟩] else [⟨3,0#64,s⟩])).bind (fun t=>some (Qx ((y0.1,()),y1,t,y3,y4,y5,((i+1:Nat):Int),()))) else bif b then (upd y2 i [⟨7,1#64,[]⟩]).bind (fun t=>some (Qx ((y0.1,()),y1,t,y3,y4,y5,((i+1:Nat):Int),()))) else some (Qx ((y0.1,()),y1,y2,y3,y4,y5,((i+1:Nat):Int),())):=by
 unfold passkeyref14_replyFields_L0b
 rw [decide_eq_true (show (i:Int) < 18 by omega)]
 simp only [Vgp (show (0:Int)≤(i:Int) by omega) (show (i:Int) < 18 by omega),decide_eq_true (show (0:Int)≤(i:Int) by omega),Q0,cond_true,Qf,h3,h4,h5,bindS,Zbi,Zby,Zca,Zax,Vam (i:=i) (by omega)]
 cases decide (n=0#64)
 ·simp only [Qak,cond_true]
  have:i=0∨i=1∨i=2∨i=3∨i=4∨i=5∨i=6∨i=7∨i=8∨i=9∨i=10∨i=11∨i=12∨i=13∨i=14∨i=15∨i=16∨i=17:=by omega
  rcases this with rfl | rfl | rfl | rfl | rfl | rfl | rfl | rfl | rfl | rfl | rfl | rfl | rfl | rfl | rfl | rfl | rfl | rfl<;>rfl
 ·simp only [Qe,cond_false]
  cases decide (s=([]:List UInt8))
  ·simp only [Qak,cond_true]
   have:i=0∨i=1∨i=2∨i=3∨i=4∨i=5∨i=6∨i=7∨i=8∨i=9∨i=10∨i=11∨i=12∨i=13∨i=14∨i=15∨i=16∨i=17:=by omega
   rcases this with rfl | rfl | rfl | rfl | rfl | rfl | rfl | rfl | rfl | rfl | rfl | rfl | rfl | rfl | rfl | rfl | rfl | rfl<;>rfl
  ·simp only [Qe,cond_false]
   cases b
   ·rfl
   ·simp only [cond_true]
    have:i=0∨i=1∨i=2∨i=3∨i=4∨i=5∨i=6∨i=7∨i=8∨i=9∨i=10∨i=11∨i=12∨i=13∨i=14∨i=15∨i=16∨i=17:=by omega
    rcases this with rfl | rfl | rfl | rfl | rfl | rfl | rfl | rfl | rfl | rfl | rfl | rfl | rfl | rfl | rfl | rfl | rfl | rfl<;>rfl
theorem Vxa (G:Nat→List ApiItem) (i:Nat):mkT (fun j=>bif Nat.beq j i then G i else G j)=mkT G:=by
 congr 1
 funext j
 cases h:Nat.beq j i
 ·rfl
 ·rw [Qbh h]; rfl
theorem Vaia (y0:ApiReply×Unit) (y1:T18) (G:Nat→List ApiItem) (y3:List (BitVec 64)) (y4:List (List UInt8)) (y5:List Bool) {i:Nat} (hi:i < 18) {n:BitVec 64} {s:List UInt8} {b:Bool} (h3:y3[i]? = some n) (h4:y4[i]? = some s) (h5:y5[i]? = some b) :
  passkeyref14_replyFields_L0b y0 y1 (mkT G) y3 y4 y5 (i:Int)=some (Qx ((y0.1,()),y1,mkT (fun j=>bif Nat.beq j i then fv n s b i (G i) else G j),y3,y4,y5,((i+1:Nat):Int),())):=by
 rw [Veba y0 y1 (mkT G) y3 y4 y5 hi h3 h4 h5,Vu3 G hi,Vu3 G hi,Vu3 G hi]
 unfold fv
 simp only [bindS]
 cases decide (n=0#64)
 ·rfl
 ·cases decide (s=([]:List UInt8))
  ·rfl
  ·cases b
   ·simp only [Qe,cond_false]
    rw [Vxa]
   ·rfl
def numsR (a0:ApiReply):List (BitVec 64):=[0#64,0#64,0#64,0#64,(Qb 64 a0.format),0#64,0#64,0#64,(Qb 64 a0.count),a0.peer,0#64,a0.model,(Qb 64 a0.retries),(Qb 64 a0.rooms),(Qb 64 a0.leases),0#64,0#64,0#64]
def strsR (a0:ApiReply):List (List UInt8):=[([]:List UInt8),a0.authData,a0.signature,([]:List UInt8),([]:List UInt8),a0.iD,a0.user,a0.name,([]:List UInt8),([]:List UInt8),a0.box,([]:List UInt8),([]:List UInt8),([]:List UInt8),([]:List UInt8),([]:List UInt8),([]:List UInt8),([]:List UInt8)]
def flagsR (a0:ApiReply):List Bool:=[false,false,false,false,false,false,false,false,false,false,false,false,false,false,false,a0.pinSet,a0.finger,false]
def FR (r:ApiReply) (k:Nat):List ApiItem:=bif Nat.beq k 0 then [] else fv ((numsR r).getD k 0#64) ((strsR r).getD k []) ((flagsR r).getD k false) k []
def y18:T18:=([],[],[],[],[],[],[],[],[],[],[],[],[],[],[],[],[],[],())
theorem Vmu {α:Type} {l:List α} {i:Nat} (d:α) (h:i < l.length):l[i]? = some (l.getD i d):=by
 rw [Ql,Qh h]; rfl
theorem rfL0 (r : ApiReply) : passkeyref14_replyFields_L0 ((r, ()), y18, y18, numsR r, strsR r, flagsR r, (1 : Int), ()) = some ((r, ()), y18, mkT (FR r), ()) := by
 unfold passkeyref14_replyFields_L0
 obtain ⟨t,h1,h2⟩:=Vcb (f:=fun (y:((ApiReply×Unit)×T18×T18×(List (BitVec 64))×(List (List UInt8))×(List (Bool))×Int×Unit))=>passkeyref14_replyFields_L0b y.1 y.2.1 y.2.2.1 y.2.2.2.1 y.2.2.2.2.1 y.2.2.2.2.2.1 y.2.2.2.2.2.2.1)
  (Q8 17 ()) (fun i (G:Nat→List ApiItem) _=>fun j=>bif Nat.beq j (i+1) then fv ((numsR r).getD (i+1) 0#64) ((strsR r).getD (i+1) []) ((flagsR r).getD (i+1) false) (i+1) (G (i+1)) else G j)
  (fun i G=>((r,()),y18,mkT G,numsR r,strsR r,flagsR r,((i+1:Nat):Int),())) (fun G=>((r,()),y18,mkT G,()))
  (fun i G=>G=fun j=>bif Q1 j i then FR r j else []) (by decide) (fun j=>bif Q1 j 0 then FR r j else []) rfl
  (by
   rintro i G x rfl hx
   have h1:=Vak hx
   rw [Q4] at h1
   refine ⟨?_,?_⟩
   ·have:=Vaia (r,()) y18 (fun j=>bif Q1 j i then FR r j else []) (numsR r) (strsR r) (flagsR r) (i:=i+1) (by omega) (Vmu 0#64 (by show i+1 < 18; omega)) (Vmu [] (by show i+1 < 18; omega)) (Vmu false (by show i+1 < 18; omega))
    exact this
   ·funext j
    have hb:Q1 (i+1) i=false:=by
     cases h:Q1 (i+1) i
     ·rfl
     ·have:=Q5 h; omega
    cases h:Nat.beq j (i+1)
    ·dsimp only [cond_false]
     have:Q1 j (i+1)=Q1 j i:=by
      have hne:j≠i+1:=fun e=>by rw [e] at h; rw [Nat.beq_refl] at h; cases h
      cases h2:Q1 j i
      ·cases h3:Q1 j (i+1)
       ·rfl
       ·have a1:=Q5 h3
        have a2:Q1 j i=true:=Qy (by omega)
        rw [a2] at h2; cases h2
      ·exact Qy (by have:=Q5 h2; omega)
     rw [this]
    ·have e:=Qbh h
     subst e
     have:Q1 (i+1) (i+1)=true:=Qy (Qas _)
     simp only [hb,this,cond_true,cond_false]
     rfl)
  (by
   rintro G rfl
   rfl)
 have e0:mkT (fun j=>bif Q1 j 0 then FR r j else [])=y18:=rfl
 rw [e0] at h2
 have e1:mkT t=mkT (FR r):=by rw [h1]; rfl
 rw [e1] at h2
 exact h2
theorem Vu4 (l:List (List UInt8)) (hl:l.length≤3):Zbz l=some ((),certI l,()):=by
 unfold Zbz Zbz_L0
 obtain ⟨t,h1,h2⟩:=Vcb (f:=fun (y:((List (List UInt8))×(List (ApiItem))×Int×Unit))=>Zbz_L0b y.1 y.2.1 y.2.2.1) l
  (fun _ (t:List ApiItem) x=>t++bytesI x) (fun i t=>(l,t,(i:Int),())) (fun t=>(t,()))
  (fun i t=>t=⟨5,Qc 64 l.length,[]⟩::((l.take i).map bytesI).flatten) (by omega) [⟨5,Qb 64 (l.length:Int),[]⟩] (by rw [Qn]; rfl)
  (by
   rintro i t x rfl hx
   have h1:=Vak hx
   refine ⟨?_,?_⟩
   ·simp only [Zbz_L0b,Vbv hx,gIn hx,bindS,cond_true,Vam (i:=i) (by omega),Zby]
    rw [Vc2 (by rw [Qa,flat1 bytesI 1 _ fun x _=>rfl,Qz,Qa,Q2]; omega)]
    rfl
   ·rw [Qv,hx]; simp)
  (by rintro t rfl; simp [Zbz_L0b])
 have e:=congrArg (fun (o:Option (List ApiItem×Unit))=>o.bind fun z4=>some ((),(z4.1,()))) h2
 refine Eq.trans e ?_
 rw [h1,Qaf]
 simp only [bindS,certI,arrI,Qr]
abbrev y2x (G:Nat→List ApiItem) (v:List ApiItem):T18:=mkT fun j=>bif Nat.beq j 17 then v else G j
theorem rfL3 (r:ApiReply) (hl:r.entries.length≤8) (G:Nat→List ApiItem) (v:List ApiItem) (hv:v.length≤10):passkeyref14_replyFields_L3 ((r,()),y18,y2x G v,(0:Int),())=some (y18,y2x G (v++(r.entries.map entI).flatten),()):=by
 unfold passkeyref14_replyFields_L3
 obtain ⟨t,h1,h2⟩:=Vcb (f:=fun (y:((ApiReply×Unit)×T18×T18×Int×Unit))=>passkeyref14_replyFields_L3b y.1 y.2.1 y.2.2.1 y.2.2.2.1) r.entries
  (fun _ (t:List ApiItem) x=>t++entI x) (fun i t=>((r,()),y18,y2x G t,(i:Int),())) (fun t=>(y18,y2x G t,()))
  (fun i t=>t=v++((r.entries.take i).map entI).flatten) (by omega) v (by simp)
  (by
   rintro i t x rfl hx
   have h1:=Vak hx
   refine ⟨?_,?_⟩
   ·unfold passkeyref14_replyFields_L3b
    dsimp only
    rw [Vbv hx,gIn hx]
    simp only [bindS,cond_true,Vam (i:=i) (by omega),Zby,Zbi,Zca]
    have hs:small ((y2x G (v++((r.entries.take i).map entI).flatten)).2.2.2.2.2.2.2.2.2.2.2.2.2.2.2.2.2.1.length+11) 32=true:=by
     refine Vc2 ?_
     show (v++((r.entries.take i).map entI).flatten).length+11 < 1000000
     rw [Qd,flat1 entI 11 _ fun x _=>Vb5 x,Qz]
     omega
    simp only [Qa,Q2] at hs ⊢
    rw [hs]
    rfl
   ·rw [Qv,hx]; simp)
  (by
   rintro t rfl
   unfold passkeyref14_replyFields_L3b
   dsimp only
   rw [decide_eq_false (show ¬ (r.entries.length:Int) < (r.entries.length:Int) by omega)]
   rfl)
 rw [h1,Qaf] at h2
 exact h2
def arrT (t:T18):Arr18_ListApiItem:=⟨t.1,t.2.1,t.2.2.1,t.2.2.2.1,t.2.2.2.2.1,t.2.2.2.2.2.1,t.2.2.2.2.2.2.1,t.2.2.2.2.2.2.2.1,t.2.2.2.2.2.2.2.2.1,t.2.2.2.2.2.2.2.2.2.1,t.2.2.2.2.2.2.2.2.2.2.1,t.2.2.2.2.2.2.2.2.2.2.2.1,t.2.2.2.2.2.2.2.2.2.2.2.2.1,t.2.2.2.2.2.2.2.2.2.2.2.2.2.1,t.2.2.2.2.2.2.2.2.2.2.2.2.2.2.1,t.2.2.2.2.2.2.2.2.2.2.2.2.2.2.2.1,t.2.2.2.2.2.2.2.2.2.2.2.2.2.2.2.2.1,t.2.2.2.2.2.2.2.2.2.2.2.2.2.2.2.2.2.1⟩
def valsR (r:ApiReply):List (List ApiItem):=[bytesI r.authData,bytesI r.signature,certI r.certificates,uintI (Qb 64 r.format),bytesI r.iD,bytesI r.user,textI r.name,uintI (Qb 64 r.count),uintI r.peer,bytesI r.box,uintI r.model,uintI (Qb 64 r.retries),uintI (Qb 64 r.rooms),uintI (Qb 64 r.leases),boolI r.pinSet,boolI r.finger,entsI r.entries]
def GR (r:ApiReply) (k:Nat):List ApiItem:=bif Nat.beq k 17 then (bif decide ((0:Int) < (r.entries.length:Int)) then entsI r.entries else []) else bif Nat.beq k 3 then (bif decide ((0:Int) < (r.certificates.length:Int)) then certI r.certificates else []) else FR r k
theorem Vu5 (r:ApiReply) (hc:r.certificates.length≤3) (he:r.entries.length≤8):passkeyref14_replyFields r=some ((),arrT (mkT (GR r)),()):=by
 have e0:=rfL0 r
 unfold passkeyref14_replyFields
 unfold numsR strsR flagsR y18 at e0
 rw [e0]
 simp only [bindS]
 have em:r.entries.length=0→(r.entries.map entI).flatten=[]:=fun h=>by rw [List.length_eq_zero_iff.1 h]; rfl
 have en (G:Nat→List ApiItem):y2x G ([⟨5,Qb 64 (r.entries.length:Int),[]⟩]++(r.entries.map entI).flatten)=mkT fun j=>bif Nat.beq j 17 then entsI r.entries else G j:=by
  unfold entsI arrI
  rw [Qr,Qn]
  rfl
 cases dc:decide ((0:Int) < (r.certificates.length:Int))<;>cases de:decide ((0:Int) < (r.entries.length:Int))
 ·simp only [cond_false,bindS]
  rw [de]
  simp only [cond_false,bindS]
  have hz:r.entries.length=0:=by have:=of_decide_eq_false de; omega
  have e1:=rfL3 r he (FR r) [] (by decide)
  rw [em hz,Qah] at e1
  have e2:y2x (FR r) []=mkT (FR r):=rfl
  rw [e2] at e1
  unfold y18 at e1
  rw [e1]
  simp only [bindS]
  unfold GR
  rw [dc,de]
  rfl
 ·simp only [cond_false,bindS]
  rw [de]
  simp only [cond_true,bindS]
  have e1:=rfL3 r he (FR r) [⟨5,Qb 64 (r.entries.length:Int),[]⟩] (by simp)
  rw [en] at e1
  unfold y18 at e1
  refine Eq.trans (congrArg (fun o=>Qa0 o _) e1) ?_
  simp only [bindS]
  unfold GR
  rw [dc,de]
  rfl
 ·simp only [cond_true,bindS]
  rw [Vu4 r.certificates hc]
  simp only [bindS]
  rw [de]
  simp only [cond_false,bindS]
  have hz:r.entries.length=0:=by have:=of_decide_eq_false de; omega
  have e1:=rfL3 r he (fun j=>bif Nat.beq j 3 then certI r.certificates else FR r j) [] (by decide)
  rw [em hz,Qah] at e1
  unfold y18 at e1
  refine Eq.trans (congrArg (fun o=>Qa0 o _) e1) ?_
  simp only [bindS]
  unfold GR
  rw [dc,de]
  rfl
 ·simp only [cond_true,bindS]
  rw [Vu4 r.certificates hc]
  simp only [bindS]
  rw [de]
  simp only [cond_true,bindS]
  have e1:=rfL3 r he (fun j=>bif Nat.beq j 3 then certI r.certificates else FR r j) [⟨5,Qb 64 (r.entries.length:Int),[]⟩] (by simp)
  rw [en] at e1
  unfold y18 at e1
  refine Eq.trans (congrArg (fun o=>Qa0 o _) e1) ?_
  simp only [bindS]
  unfold GR
  rw [dc,de]
  rfl
def fld (us:List Bool) (vs:List (List ApiItem)):List (List ApiItem):=List.zipWith (fun b v=>bif b then v else []) us vs
theorem Vgl {α:Type} [DecidableEq α] (l:List α):decide ((0:Int) < (l.length:Int)) = !decide (l=[]):=by
 rw [← Vuv,Qb1]
def sm (n:Int):Prop:=0≤n∧n≤255
theorem Vmv {n:Int} (h:sm n):decide (Qb 64 n=0#64)=decide (n=0):=by
 obtain ⟨k,rfl⟩:∃ k:Nat,n=(k:Int):=⟨n.toNat,by have:=h.1; omega⟩
 have h2:=h.2
 rw [decide_eq_decide,Qn]
 constructor
 ·intro e
  have:=congrArg Qbw e
  rw [Qt,Q3 (by omega)] at this
  have h3:(0#64).toNat=0:=rfl
  omega
 ·intro e
  have:k=0:=by omega
  rw [this]
structure Nums (r:ApiReply):Prop where
 format:sm r.format
 count:sm r.count
 retries:sm r.retries
 rooms:sm r.rooms
 leases:sm r.leases
theorem Vaja (r:ApiReply) (h:Nums r) (q:Arr18_ListApiItem) (hq:q=arrT (mkT (GR r))):([q.a0,q.a1,q.a2,q.a3,q.a4,q.a5,q.a6,q.a7,q.a8,q.a9,q.a10,q.a11,q.a12,q.a13,q.a14,q.a15,q.a16,q.a17]:List (List ApiItem))=[]::fld (useR r) (valsR r):=by
 subst hq
 show ([GR r 0,GR r 1,GR r 2,GR r 3,GR r 4,GR r 5,GR r 6,GR r 7,GR r 8,GR r 9,GR r 10,GR r 11,GR r 12,GR r 13,GR r 14,GR r 15,GR r 16,GR r 17]:List (List ApiItem))=_
 have g1:GR r 1=bif decide ((0:Int) < (r.authData.length:Int)) then bytesI r.authData else []:=by rw [Vgl]; rfl
 have g2:GR r 2=bif decide ((0:Int) < (r.signature.length:Int)) then bytesI r.signature else []:=by rw [Vgl]; rfl
 have g3:GR r 3=bif decide ((0:Int) < (r.certificates.length:Int)) then certI r.certificates else []:=rfl
 have g4:GR r 4=bif !decide (r.format=(0:Int)) then uintI (Qb 64 r.format) else []:=by rw [← Vmv h.format]; rfl
 have g5:GR r 5=bif decide ((0:Int) < (r.iD.length:Int)) then bytesI r.iD else []:=by rw [Vgl]; rfl
 have g6:GR r 6=bif !decide (r.user=([]:List UInt8)) then bytesI r.user else []:=rfl
 have g7:GR r 7=bif !decide (r.name=([]:List UInt8)) then textI r.name else []:=rfl
 have g8:GR r 8=bif !decide (r.count=(0:Int)) then uintI (Qb 64 r.count) else []:=by rw [← Vmv h.count]; rfl
 have g9:GR r 9=bif !decide (r.peer=0#64) then uintI r.peer else []:=rfl
 have g10:GR r 10=bif decide ((0:Int) < (r.box.length:Int)) then bytesI r.box else []:=by rw [Vgl]; rfl
 have g11:GR r 11=bif !decide (r.model=0#64) then uintI r.model else []:=rfl
 have g12:GR r 12=bif !decide (r.retries=(0:Int)) then uintI (Qb 64 r.retries) else []:=by rw [← Vmv h.retries]; rfl
 have g13:GR r 13=bif !decide (r.rooms=(0:Int)) then uintI (Qb 64 r.rooms) else []:=by rw [← Vmv h.rooms]; rfl
 have g14:GR r 14=bif !decide (r.leases=(0:Int)) then uintI (Qb 64 r.leases) else []:=by rw [← Vmv h.leases]; rfl
 have g15:GR r 15=bif r.pinSet then boolI r.pinSet else []:=by
  show (bif r.pinSet then ([⟨7,1#64,[]⟩]:List ApiItem) else [])=_
  cases r.pinSet<;>rfl
 have g16:GR r 16=bif r.finger then boolI r.finger else []:=by
  show (bif r.finger then ([⟨7,1#64,[]⟩]:List ApiItem) else [])=_
  cases r.finger<;>rfl
 have g17:GR r 17=bif decide ((0:Int) < (r.entries.length:Int)) then entsI r.entries else []:=rfl
 have g0:GR r 0=[]:=rfl
 rw [g0,g1,g2,g3,g4,g5,g6,g7,g8,g9,g10,g11,g12,g13,g14,g15,g16,g17]
 rfl
theorem Vqm (n:Nat) (o:List ApiItem):∀ (ns:List Nat) (v:List (List ApiItem)),ns.length=v.length→pairI (ns++[n]) (v++[o])=pairI ns v++(keyI n::o):=by
 intro ns v h
 unfold pairI
 rw [Qaz,List.zip_append (by simpa using h),List.flatMap_append]
 simp
theorem Vqn {us:List Bool} {vs:List (List ApiItem)} (h:Fit us vs) (hne:∀ o∈vs,o≠[]):passkeyref14_encode ([]::fld us vs)=some ((),encA (chosI us vs),()):=by
 have h17:=h.n
 have hl:=h.l
 have hfl:(fld us vs).length=17:=by unfold fld; rw [List.length_zipWith]; omega
 have e0 : passkeyref14_encode_L0 ([]::fld us vs, [⟨6, 0#64, []⟩], (1 : Int), ()) = some (chosI us vs, ()) := by
  unfold passkeyref14_encode_L0
  obtain ⟨q,h1,h2⟩:=Vcb (f:=fun (y:((List (List ApiItem))×(List (ApiItem))×Int×Unit))=>passkeyref14_encode_L0b y.1 y.2.1 y.2.2.1) (fld us vs)
   (fun i (q:List ApiItem) x=>chosI (us.take (i+1)) (vs.take (i+1)))
   (fun i q=>([]::fld us vs,q,((i+1:Nat):Int),())) (fun q=>(q,()))
   (fun i q=>q=chosI (us.take i) (vs.take i)) (by omega) [⟨6,0#64,[]⟩] rfl
   (by
    rintro i q x rfl hx
    have h1:=Vak hx
    rw [hfl] at h1
    refine ⟨?_,rfl⟩
    have hu:us[i]? = some (us.getD i false):=Vmu false (by omega)
    have hv:vs[i]? = some (vs.getD i []):=Vmu [] (by omega)
    have hx2:x=bif us.getD i false then vs.getD i [] else []:=by
     unfold fld at hx
     rw [List.getElem?_zipWith,hu,hv] at hx
     exact (Qad hx).symm
    have hti:(us.take i).length=i:=by rw [Qz]; omega
    have htv:(vs.take i).length=i:=by rw [Qz]; omega
    have hsn:=(Vfd (us.take i) 1).2.2
    have hsl:=Vgk (us.take i) (vs.take i) 1 (by omega)
    have hg:getI ([]::fld us vs) ((i+1:Nat):Int)=some x:=gIn (by rw [Qbc]; exact hx)
    have hmem:vs.getD i []∈vs:=Qq hv
    have hfull:(pairI (selN 1 (us.take i)) (selV (us.take i) (vs.take i))).length≤450:=by
     rw [Viv _ _ hsl]
     have a1:=(Vc1 (us.take i) (vs.take i)).1
     have a2:(vs.take i).flatten.length≤vs.flatten.length:=by
      conv=>rhs; rw [← Qbf i vs,List.flatten_append,Qd]
      omega
     have:=h.f
     omega
    have ec:chosI (us.take (i+1)) (vs.take (i+1))=bif us.getD i false then ⟨6,Qc 64 ((selN 1 (us.take i)).length+1),[]⟩::(pairI (selN 1 (us.take i)) (selV (us.take i) (vs.take i))++(keyI (i+1)::vs.getD i [])) else chosI (us.take i) (vs.take i):=by
     unfold chosI mapI
     rw [Qv,Qv,hu,hv,Qao,Qao,Vit,Viu _ _ _ _ (by omega),hti]
     cases us.getD i false
     ·simp
     ·simp only [cond_true]
      rw [Vqm _ _ _ _ hsl,Qd,Qbe 1 i]
      rfl
    simp only
    rw [ec]
    unfold passkeyref14_encode_L0b
    rw [hg,decide_eq_true (show ((i+1:Nat):Int) < (([]::fld us vs).length:Int) by rw [Qa,hfl]; omega)]
    simp only [bindS,cond_true,Vam (i:=i+1) (by omega)]
    subst hx2
    cases us.getD i false
    ·rfl
    ·simp only [cond_true]
     have hpos:decide ((0:Int) < ((vs.getD i []).length:Int))=true:=by
      rw [Vgl,decide_eq_false (hne _ hmem)]; rfl
     have hd:=(h.d _ hmem).1
     rw [hpos]
     unfold chosI mapI
     rw [decide_eq_true (show (0:Int) < (((⟨6,Qc 64 (selN 1 (us.take i)).length,[]⟩::pairI (selN 1 (us.take i)) (selV (us.take i) (vs.take i)):List ApiItem)).length:Int) by rw [Qa]; omega)]
     simp only [cond_true,List.getElem?_cons_zero,bindS,List.set_cons_zero,Zbi,Qn]
     rw [Vc2 (by simp only [Qa,Q2]; omega)]
     simp only [cond_true]
     rw [Vc2 (by simp only [Qd,Qa,Q2]; omega)]
     simp only [cond_true,Q9,Qbo,Qa5]
     rw [show Qc 64 (selN 1 (us.take i)).length+1#64=Qc 64 ((selN 1 (us.take i)).length+1) by rw [BitVec.ofNat_add]]
     rfl)
   (by
    rintro q rfl
    unfold passkeyref14_encode_L0b
    rw [decide_eq_false (show ¬ (((fld us vs).length+1:Nat):Int) < (([]::fld us vs).length:Int) by rw [Qa]; omega)]
    rfl)
  rw [h1,hfl,Qaw (by omega),Qaw (by omega)] at h2
  exact h2
 unfold passkeyref14_encode
 dsimp only
 rw [e0]
 simp only [bindS]
 rw [Vps _ (by have:=h.len; omega) h.data,h.enc.1]
 rfl
structure GoodR (r:ApiReply):Prop where
 e:0≤r.err∧r.err≤42
 num:Nums r
 a:r.authData.length≤1024
 s:r.signature.length≤1024
 b:r.box.length≤1024
 c:r.certificates.length≤3
 cs:∀ c∈r.certificates,c.length≤1024
 es:r.entries.length≤8
 u:r.user.length≤16
 n:r.name.length≤32
 nv:Lib.validD r.name=true
 i:r.iD.length=0∨r.iD.length=176
 x:∀ x∈r.entries,GoodE x
theorem sm_of {n:Int} (h:smallI n=true):sm n:=by
 unfold smallI at h
 rw [Qaa] at h
 exact ⟨of_decide_eq_true h.1,of_decide_eq_true h.2⟩
theorem Vle {r:ApiReply} (hv:valR r=0):GoodR r∧(¬ r.err=0→zeroR r=true):=by
 unfold valR at hv
 cases h1:(errR r&&numR r)
 ·rw [h1] at hv; cases hv
 rw [h1] at hv
 have h2:(!decide (r.err=0)&&!zeroR r)=false:=by
  cases h:(!decide (r.err=0)&&!zeroR r)
  ·rfl
  ·rw [h] at hv; cases hv
 rw [h2] at hv
 have h3:bigR r=false:=by
  cases h:bigR r
  ·rfl
  ·rw [h] at hv; cases hv
 rw [h3] at hv
 cases h4:txtR r
 ·rw [h4] at hv; cases hv
 rw [h4] at hv
 cases h5:idR r
 ·rw [h5] at hv; cases hv
 clear hv
 unfold errR numR at h1
 simp only [Qaa,decide_eq_true_eq,Qam] at h1
 obtain ⟨⟨e1,e2⟩,n0,⟨⟨⟨n1,n2⟩,n3⟩,n4⟩,n5⟩:=h1
 unfold bigR bigR0 bigC at h3
 simp only [Qbi,decide_eq_false_iff_not,List.any_eq_false,decide_eq_true_eq,bigE,Qbt,not_or] at h3
 obtain ⟨⟨⟨⟨⟨⟨⟨⟨b1,b2⟩,b3⟩,b4⟩,b5⟩,b6⟩,b7⟩,b8⟩,b9⟩:=h3
 unfold txtR txtE at h4
 simp only [Qaa,Qam] at h4
 unfold idR idE at h5
 simp only [Qaa,Qbt,Qam,decide_eq_true_eq] at h5
 refine ⟨⟨⟨e1,e2⟩,⟨sm_of n1,sm_of n2,sm_of n3,sm_of n4,sm_of n5⟩,by omega,by omega,by omega,by omega,?_,by omega,by omega,by omega,h4.1,by have:=h5.1; omega,?_⟩,?_⟩
 ·intro c hc
  have:=b8 c hc
  omega
 ·intro x hx
  have a1:=b9 x hx
  have a2:=h4.2 x hx
  have a3:=h5.2 x hx
  have a4:=sm_of (n0 x hx)
  exact ⟨by omega,by omega,by omega,a2.1,a2.2,by omega,a4⟩
 ·intro he
  rw [decide_eq_false he] at h2
  cases hz:zeroR r
  ·rw [hz] at h2; cases h2
  ·rfl
def PV (o:List ApiItem):Prop:=VT 3 o∧(o.length≤400∧∀ x∈o,x.data.length < 100000)∧o≠[]
theorem Vpo {x:ApiItem} (h:VT 1 [x]) (hx:x.data.length < 100000):PV [x]:=by
 refine ⟨Vq1 (by omega) h,⟨by rw [Qj]; omega,fun y hy=>?_⟩,by intro hh; cases hh⟩
 rw [Qaj] at hy
 rw [hy]; exact hx
theorem PV_b {b:List UInt8} (h:b.length≤1024):PV (bytesI b):=Vpo (Vdx h) (by dsimp only; omega)
theorem PV_t {b:List UInt8} (h:b.length≤1024) (hv:Lib.validD b=true):PV (textI b):=Vpo (Vir h hv) (by dsimp only; omega)
theorem PV_u (n:BitVec 64):PV (uintI n):=Vpo (Vn1 n) (by show ([]:List UInt8).length < 100000; decide)
theorem PV_o (b:Bool):PV (boolI b):=Vpo (Vaha b) (by show ([]:List UInt8).length < 100000; decide)
theorem PV_c {l:List (List UInt8)} (hl:l.length≤3) (h:∀ c∈l,c.length≤1024):PV (certI l):=by
 have hc:=Vf1 l
 refine ⟨Vq1 (by omega) (Vju hl h).2,⟨by omega,?_⟩,by unfold certI arrI; exact Qbq _ _⟩
 intro x hx
 unfold certI arrI at hx
 rcases List.mem_cons.1 hx with rfl | hx
 ·show ([]:List UInt8).length < 100000
  decide
 ·obtain ⟨o,ho,hx⟩:=List.mem_flatten.1 hx
  exact (Vgw h o ho).2 x hx
theorem PV_e {l:List ApiEntry} (hl:l.length≤8) (h:∀ x∈l,GoodE x):PV (entsI l):=by
 have hc:=Vem l
 refine ⟨(Vjv hl h).2,⟨by omega,?_⟩,by unfold entsI arrI; exact Qbq _ _⟩
 intro x hx
 unfold entsI arrI at hx
 rcases List.mem_cons.1 hx with rfl | hx
 ·show ([]:List UInt8).length < 100000
  decide
 ·obtain ⟨o,ho,hx⟩:=List.mem_flatten.1 hx
  obtain ⟨y,hy,rfl⟩:=List.mem_map.1 ho
  exact Vis (h y hy) x hx
theorem Vu6 {r:ApiReply} (h:GoodR r):∀ o∈valsR r,PV o:=by
 have hi:r.iD.length≤1024:=by rcases h.i with hh | hh<;>omega
 have hu:r.user.length≤1024:=by have:=h.u; omega
 have hn:r.name.length≤1024:=by have:=h.n; omega
 unfold valsR
 rw [Qg,Qg,Qg,Qg,Qg,Qg,Qg,Qg,Qg,Qg,Qg,Qg,Qg,Qg,Qg,Qg,Qg]
 exact ⟨PV_b h.a,PV_b h.s,PV_c h.c h.cs,PV_u _,PV_b hi,PV_b hu,PV_t hn h.nv,PV_u _,PV_u _,PV_b h.b,PV_u _,PV_u _,PV_u _,PV_u _,PV_o _,PV_o _,PV_e h.es h.x,fun x hx=>absurd hx Qo⟩
theorem Vu7 {r:ApiReply} (h:GoodR r):(valsR r).flatten.length≤400:=by
 have h1:=h.c
 have h2:=h.es
 have hc:=Vf1 r.certificates
 have he:=Vem r.entries
 have f (o:List ApiItem) (l:List (List ApiItem)):(o::l).flatten.length=o.length+l.flatten.length:=by rw [Qs,Qd]
 have b1 (b:List UInt8):(bytesI b).length=1:=rfl
 have b2 (b:List UInt8):(textI b).length=1:=rfl
 have b3 (b:BitVec 64):(uintI b).length=1:=rfl
 have b4 (b:Bool):(boolI b).length=1:=rfl
 have b5:(([]:List (List ApiItem)).flatten).length=0:=rfl
 have e:(valsR r).flatten.length=1+(1+(certI r.certificates).length+(13+(entsI r.entries).length)):=by
  unfold valsR
  rw [f,f,f,f,f,f,f,f,f,f,f,f,f,f,f,f,f,b1,b1,b3,b1,b1,b2,b3,b3,b1,b3,b3,b3,b3,b4,b4,b5]
  generalize (certI r.certificates).length=p
  generalize (entsI r.entries).length=q
  omega
 have e2:1+(1+(certI r.certificates).length+(13+(entsI r.entries).length))≤400:=by rw [hc,he]; omega
 exact Qay (Nat.le_of_eq e) e2
theorem Vn3 (r:ApiReply):(useR r).length=17:=by unfold useR; rfl
theorem Vxb (r:ApiReply):(valsR r).length=17:=by unfold valsR; rfl
theorem Vgx {r:ApiReply} (h:GoodR r):Fit (useR r) (valsR r)∧∀ o∈valsR r,o≠[]:=
 ⟨⟨Vn3 r,(Vn3 r).trans (Vxb r).symm,fun o ho=>(Vu6 h o ho).1,Vu7 h,fun o ho=>(Vu6 h o ho).2.1⟩,fun o ho=>(Vu6 h o ho).2.2⟩
def repI (r:ApiReply):List ApiItem:=chosI (useR r) (valsR r)
def errB (r:ApiReply):UInt8:=Qap (Qb 8 r.err)
def repO (r:ApiReply):List UInt8×Int:=
 bif !decide (valR r=0) then ([],valR r) else bif !decide (r.err=0) then ([errB r],0) else
 bif decide ((4096:Int) < ((0::encA (repI r)).length:Int)) then ([],8) else (0::encA (repI r),0)
theorem Vda (r:ApiReply) (h:Sane r):Zbb r=some ((),(repO r).1,(repO r).2,()):=by
 unfold Zbb repO
 rw [Vgz r h]
 simp only [bindS]
 by_cases hv:valR r=0
 ·have hg:=(Vle hv).1
  rw [decide_eq_true hv]
  simp only [Qe,cond_false]
  cases he:decide (r.err=0)
  ·rfl
  ·simp only [Qe,cond_false]
   obtain ⟨t,u1,u2,u3⟩:=Vpj r
   rw [u1]
   simp only [bindS,Vu1,Vyj,Vyk,Vd9a]
   rw [(Vju hg.c hg.cs).1]
   simp only [bindS]
   rw [(Vjv hg.es hg.x).1]
   simp only [bindS]
   have e:=Vu2 (Vgx hg).1 (0:UInt8) u2
   unfold valsR at e
   rw [e]
   simp only [bindS,decide_true,cond_true]
   unfold repI valsR
   cases decide ((4096:Int) < ((0::encA (chosI (useR r) [bytesI r.authData,bytesI r.signature,certI r.certificates,uintI (Qb 64 r.format),bytesI r.iD,bytesI r.user,textI r.name,uintI (Qb 64 r.count),uintI r.peer,bytesI r.box,uintI r.model,uintI (Qb 64 r.retries),uintI (Qb 64 r.rooms),uintI (Qb 64 r.leases),boolI r.pinSet,boolI r.finger,entsI r.entries])).length:Int))<;>rfl
 ·rw [decide_eq_false hv]
  rfl
theorem Ven (r:ApiReply) (h:Sane r):Zai r=some ((),(repO r).1,(repO r).2,()):=by
 unfold Zai repO
 rw [Vgj r h]
 simp only [bindS]
 by_cases hv:valR r=0
 ·have hg:=(Vle hv).1
  rw [decide_eq_true hv]
  simp only [Qe,cond_false]
  cases he:decide (r.err=0)
  ·rfl
  ·simp only [cond_true,Qe,cond_false]
   rw [Vu5 r hg.c hg.es]
   simp only [bindS]
   rw [Vaja r hg.num _ rfl,Vqn (Vgx hg).1 (Vgx hg).2]
   simp only [bindS]
   have hlen:=Vn2 _ (Vgx hg).1.data
   have:=(Vgx hg).1.len
   have he0:Qap (Qb 8 r.err)=0:=by rw [of_decide_eq_true he]; rfl
   rw [Vcg (by simp only [Qa,Q2]; omega),he0]
   simp only [cond_true,Q9,Qa5]
   unfold repI
   cases decide ((4096:Int) < ((0::encA (chosI (useR r) (valsR r))).length:Int))<;>rfl
 ·rw [decide_eq_false hv]
  rfl
theorem Vyl:∀ (ns:List Nat) (v:List (List ApiItem)),ns.length=v.length→(∀ o∈v,valO o=0)→PairsAt ns.length (pairI ns v) [] ((ns.map keyI).zip v)
 | [],[],_,_=>PairsAt.nil []
 | n::ns,o::v,h,hv=>by
  have ho:=hv o (by simp)
  have ih:=Vyl ns v (by simpa using h) fun q hq=>hv q (by simp [hq])
  exact PairsAt.cons (x:=keyI n) rfl (fun m=>Vrm ho _ m) (Vm8 ho) ih
theorem Vaka {ns:List Nat} {v:List (List ApiItem)} (hl:ns.length=v.length) (hn:ns.length≤512) (hv:∀ o∈v,valO o=0) (h0:valO (mapI ns v)=0) (hlen:(mapI ns v).length < 1000000) (hd:∀ x∈mapI ns v,x.data.length < 100000) (key:BitVec 64) :
  Zdt (mapI ns v) key=some ((),(lkP key ((ns.map keyI).zip v)).1,(lkP key ((ns.map keyI).zip v)).2,()):=by
 unfold Zdt
 rw [Vcn _ hlen hd,h0]
 simp only [bindS,decide_true,Qe,cond_false]
 have eg:getI (mapI ns v) (0:Int)=some ⟨6,Qc 64 ns.length,[]⟩:=rfl
 rw [eg]
 simp only [bindS,decide_true,Qe,cond_false]
 have e1:(Qc 64 ns.length).toNat=ns.length:=by rw [Qt]; omega
 obtain ⟨z,z1,z2⟩:=Voi (mapI ns v) hlen key (Qc 64 ns.length) (by omega) ns.length 0 1 rounds (pairI ns v) _ (Vyl ns v hl hv) (by omega) rfl (by unfold mapI; rw [Qa]; omega) (by rw [Vae]; omega)
 have z1':Zdt_L0 (mapI ns v,key,1,Qc 64 ns.length,0#64,())=some z:=z1
 rw [z1']
 exact z2
theorem Vym (k:Nat) (hk:k≤17):∀ (us:List Bool) (vs:List (List ApiItem)) (i:Nat),us.length=vs.length→i+us.length≤18 →
  lkP (Qc 64 k) (((selN i us).map keyI).zip (selV us vs))=bif Q1 i k&&us.getD (k - i) false then (vs.getD (k - i) [],true) else ([],false)
 | [],[],i,_,_=>by simp [selN,selV,lkP]
 | b::us,v::vs,i,h,hi=>by
  rw [Qa] at hi
  have ih:=Vym k hk us vs (i+1) (by simpa using h) (by omega)
  unfold selN selV
  by_cases hik:i=k
  ·subst hik
   have hn:Q1 (i+1) i=false:=by
    cases h:Q1 (i+1) i
    ·rfl
    ·have:=Q5 h; omega
   cases b
   ·simp only [cond_false]
    rw [ih,hn,Nat.sub_self]
    simp
   ·simp only [cond_true,Qat,Qai]
    unfold lkP
    have hii:Q1 i i=true:=Qy (Qas i)
    simp [keyI,hii]
  ·have hne:decide (Qc 64 i=Qc 64 k)=false:=by
    apply decide_eq_false
    intro e
    have:=congrArg Qbw e
    rw [Qt,Qt,Q3 (by omega),Q3 (by omega)] at this
    exact hik this
   have hrec:(bif Q1 i k&&(b::us).getD (k - i) false then ((v::vs).getD (k - i) [],true) else ([],false))=(bif Q1 (i+1) k&&us.getD (k - (i+1)) false then (vs.getD (k - (i+1)) [],true) else ([],false)):=by
    by_cases hlt:i < k
    ·obtain ⟨d,hd⟩:∃ d,k - i=d+1:=⟨k - i - 1,by omega⟩
     rw [show k - (i+1)=d by omega,hd,Qy (show i≤k by omega),Qy (show i+1≤k by omega)]
     rfl
    ·have h1:Q1 i k=false:=by
      cases h:Q1 i k
      ·rfl
      ·have:=Q5 h; omega
     have h2:Q1 (i+1) k=false:=by
      cases h:Q1 (i+1) k
      ·rfl
      ·have:=Q5 h; omega
     rw [h1,h2]; rfl
   rw [hrec,← ih]
   cases b
   ·rfl
   ·simp only [cond_true,Qat,Qai]
    conv=>lhs; unfold lkP
    show (bif decide ((1:Int)=1)&&decide (Qc 64 i=Qc 64 k) then _ else _)=_
    rw [hne]
    simp
structure Look (us:List Bool) (vs:List (List ApiItem)):Prop where
 n:us.length≤17
 l:us.length=vs.length
 v:∀ o∈vs,valO o=0
 z:valO (chosI us vs)=0
 f:(chosI us vs).length < 1000000
 d:∀ x∈chosI us vs,x.data.length < 100000
theorem look_ok {us:List Bool} {vs:List (List ApiItem)} (h:Look us vs) (k:Nat) (h1:1≤k) (hk:k≤17) :
  Zdt (chosI us vs) (Qc 64 k)=some ((),(bif us.getD (k - 1) false then vs.getD (k - 1) [] else []),us.getD (k - 1) false,()):=by
 have hs:=(Vfd us 1).2.2
 have hn:=h.n
 have e:=Vaka (Vgk us vs 1 h.l) (by omega) (fun o ho=>h.v o ((Vc1 us vs).2 o ho)) h.z h.f h.d (Qc 64 k)
 unfold chosI
 rw [e,Vym k hk us vs 1 h.l (by omega),Qy h1,Qk]
 cases us.getD (k - 1) false<;>rfl
def zI:ApiItem:=⟨0,0#64,[]⟩
def itO (us:List Bool) (vs:List (List ApiItem)) (k:Nat):ApiItem:=bif us.getD (k - 1) false then (vs.getD (k - 1) []).headD zI else zI
theorem Vgm {us:List Bool} {vs:List (List ApiItem)} (h:Look us vs) (k:Nat) (h1:1≤k) (hk:k≤17):Zbd (chosI us vs) (Qc 64 k)=some ((),itO us vs k,()):=by
 unfold Zbd itO
 rw [look_ok h k h1 hk]
 simp only [bindS]
 cases us.getD (k - 1) false
 ·rfl
 ·simp only [Qe,cond_false,cond_true]
  cases vs.getD (k - 1) [] with
  | nil=>rfl
  | cons x r=>
   rw [decide_eq_false (show ¬ ((x::r).length:Int)=0 by rw [Qa]; omega),decide_eq_true (show (0:Int) < ((x::r).length:Int) by rw [Qa]; omega)]
   rfl
theorem Vyn (os:List (List ApiItem)) (hv:∀ o∈os,valO o=0) (hl:os.length≤100) (hf:(arrI os).length < 1000000):Zal_L0 (arrI os,[],(1:Int),())=some (os,()):=by
 unfold Zal_L0
 obtain ⟨t,h1,h2⟩:=Vcb (f:=fun (y:((List (ApiItem))×(List (List ApiItem))×Int×Unit))=>Zal_L0b y.1 y.2.1 y.2.2.1) os (fun i (t:Unit) _=>t)
  (fun i _=>(arrI os,os.take i,((1+(os.take i).flatten.length:Nat):Int),())) (fun _=>(os,())) (fun _ _=>True) (by omega) () trivial
  (by
   rintro i t x _ hx
   refine ⟨?_,trivial⟩
   have hi:=Vak hx
   have hsp:os=os.take i++x::os.drop (i+1):=by
    obtain ⟨hlt,rfl⟩:=List.getElem?_eq_some_iff.1 hx
    rw [← Qaq hlt,Qbf]
   have hfl:os.flatten=(os.take i).flatten++(x++(os.drop (i+1)).flatten):=by
    conv=>lhs; rw [hsp]
    simp
   have hdrop:(arrI os).drop (1+(os.take i).flatten.length)=x++(os.drop (i+1)).flatten:=by
    unfold arrI
    rw [Qbe 1,Qa1,hfl,List.drop_left]
   have hx0:=hv x (Qq hx)
   have hxn:=Vm8 hx0
   have hx1:0 < x.length:=List.length_pos_iff.2 hxn
   have hlen:(arrI os).length=1+(os.take i).flatten.length+x.length+(os.drop (i+1)).flatten.length:=by
    unfold arrI
    rw [Qa,hfl,Qd,Qd]; omega
   have hsk:=Vri (a:=1+(os.take i).flatten.length) hdrop (fun m=>Vrm hx0 _ m) hxn
   have htk:os.take (i+1)=os.take i++[x]:=by rw [Qv,hx]; rfl
   have htl:(os.take (i+1)).flatten.length=(os.take i).flatten.length+x.length:=by rw [htk]; simp
   generalize hp:1+(os.take i).flatten.length=p at *
   simp only
   unfold Zal_L0b
   rw [decide_eq_true (show (p:Int) < ((arrI os).length:Int) by omega),Vm7 _ _ hf,hsk]
   simp only [bindS,cond_true,Qe,cond_false]
   rw [decide_eq_false (show ¬ ((p+x.length:Nat):Int)≤(p:Int) by omega),decide_eq_false (show ¬ ((arrI os).length:Int) < ((p+x.length:Nat):Int) by omega),decide_eq_true (show (0:Int)≤((p+x.length:Nat):Int) by omega),decide_eq_true (show ((p+x.length:Nat):Int)≤((arrI os).length:Int) by omega),Qf,decide_eq_true (show (0:Int)≤(p:Int) by omega),decide_eq_true (show (p:Int)≤((p+x.length:Nat):Int) by omega),Qf,Vj4 hdrop]
   simp only [Q0,cond_true,cond_false]
   rw [Vdw (by rw [Qz,Qj]; omega)]
   rw [htl,htk,show 1+((os.take i).flatten.length+x.length)=p+x.length by omega]
   rfl)
  (by
   rintro t _
   simp only
   unfold Zal_L0b
   rw [Qaf,decide_eq_false (show ¬ ((1+os.flatten.length:Nat):Int) < ((arrI os).length:Int) by unfold arrI; rw [Qa]; omega)]
   rfl)
 exact h2
theorem Viw {n:Nat} (h:n < 1000000):small n 80=true:=by
 unfold small; simp; omega
theorem rdB {us:List Bool} {vs:List (List ApiItem)} (h:Look us vs) (k:Nat) (h1:1≤k) (hk:k≤17):Zau (chosI us vs) (Qc 64 k)=some ((),(itO us vs k).data,()):=by
 unfold Zau; rw [Vgm h k h1 hk]; rfl
theorem rdT {us:List Bool} {vs:List (List ApiItem)} (h:Look us vs) (k:Nat) (h1:1≤k) (hk:k≤17):Zbf (chosI us vs) (Qc 64 k)=some ((),(itO us vs k).data,()):=by
 unfold Zbf; rw [Vgm h k h1 hk]; rfl
theorem rdN {us:List Bool} {vs:List (List ApiItem)} (h:Look us vs) (k:Nat) (h1:1≤k) (hk:k≤17):Zas (chosI us vs) (Qc 64 k)=some ((),Qp .i64 ((itO us vs k).number.toNat:Int),()):=by
 unfold Zas; rw [Vgm h k h1 hk]; rfl
theorem rdW {us:List Bool} {vs:List (List ApiItem)} (h:Look us vs) (k:Nat) (h1:1≤k) (hk:k≤17):Zbg (chosI us vs) (Qc 64 k)=some ((),(itO us vs k).number,()):=by
 unfold Zbg; rw [Vgm h k h1 hk]; rfl
theorem rdF {us:List Bool} {vs:List (List ApiItem)} (h:Look us vs) (k:Nat) (h1:1≤k) (hk:k≤17):Zbc (chosI us vs) (Qc 64 k)=some ((),decide ((itO us vs k).number=1#64),()):=by
 unfold Zbc; rw [Vgm h k h1 hk]; rfl
theorem bsel (l:List UInt8) (k:Int):(bif decide ((0:Int) < (l.length:Int)) then (⟨k,0#64,l⟩:ApiItem) else zI).data=l:=by
 rw [Vgl]
 cases l<;>rfl
theorem tsel (l:List UInt8) (k:Int):(bif !decide (l=([]:List UInt8)) then (⟨k,0#64,l⟩:ApiItem) else zI).data=l:=by
 cases l<;>rfl
theorem Vyo {n:Int} (h:sm n):Qp .i64 (((Qb 64 n).toNat:Nat):Int)=n:=by
 obtain ⟨k,rfl⟩:∃ k:Nat,n=(k:Int):=⟨n.toNat,by have:=h.1; omega⟩
 have h2:=h.2
 rw [Qn,Qt,Q3 (by omega),Vac (by omega) (by omega)]
theorem nsel {n:Int} (h:sm n):Qp .i64 (((bif !decide (n=(0:Int)) then (⟨1,Qb 64 n,[]⟩:ApiItem) else zI).number.toNat:Nat):Int)=n:=by
 by_cases h0:n=0
 ·subst h0; rfl
 ·rw [decide_eq_false h0]
  exact Vyo h
theorem psel (w:BitVec 64):(bif !decide (w=0#64) then (⟨1,w,[]⟩:ApiItem) else zI).number=w:=by
 by_cases h0:w=0#64
 ·subst h0; rfl
 ·rw [decide_eq_false h0]; rfl
theorem fsel (b:Bool):decide ((bif b then (⟨7,bif b then 1#64 else 0#64,[]⟩:ApiItem) else zI).number=1#64)=b:=by cases b<;>rfl
theorem Vjw {r:ApiReply} (h:GoodR r):Look (useR r) (valsR r):=by
 have hF:=(Vgx h).1
 refine ⟨by rw [Vn3]; omega,hF.l,fun o ho=>Vc0 (hF.v o ho) (by omega) (by have:=(hF.d o ho).1; omega),hF.enc.2,by have:=hF.len; omega,hF.data⟩
def allT:List Bool:=[true,true,true,true,true]
theorem Vix (x:ApiEntry):entI x=chosI allT (entV x):=rfl
theorem Veca {x:ApiEntry} (h:GoodE x):Look allT (entV x):=by
 have e:=Vpn h
 refine ⟨by decide,rfl,?_,?_,?_,?_⟩
 ·have:=h.r; have:=h.u; have:=h.n; have:=h.i
  unfold entV
  rw [Qg,Qg,Qg,Qg,Qg]
  exact ⟨Vc0 (Vir (by omega) h.vr) (by omega) (by simp [textI]),Vc0 (Vdx (by omega)) (by omega) (by simp [bytesI]),Vc0 (Vir (by omega) h.vn) (by omega) (by simp [textI]),Vc0 (Vdx (by omega)) (by omega) (by simp [bytesI]),Vc0 (Vn1 _) (by omega) (by simp [uintI]),fun x hx=>absurd hx Qo⟩
 ·rw [← Vix]; exact Vc0 e.2 (by omega) (by rw [Vb5]; omega)
 ·rw [← Vix,Vb5]; omega
 ·rw [← Vix]; exact Vis h
theorem Vala {r:ApiReply} (h:GoodR r):Zal (repI r) 3#64=some ((),r.certificates.map bytesI,()):=by
 unfold Zal repI
 rw [look_ok (Vjw h) 3 (by omega) (by omega)]
 simp only [bindS]
 have eu:(useR r).getD (3 - 1) false=decide ((0:Int) < (r.certificates.length:Int)):=rfl
 have ev:(valsR r).getD (3 - 1) []=certI r.certificates:=rfl
 rw [eu,ev]
 cases hc:decide ((0:Int) < (r.certificates.length:Int))
 ·have:r.certificates=[]:=List.length_eq_zero_iff.1 (by have:=of_decide_eq_false hc; omega)
  rw [this]; rfl
 ·simp only [Qe,cond_false,cond_true]
  unfold certI
  have hl:=Vf1 r.certificates
  have:=h.c
  rw [Vyn _ (fun o ho=>by obtain ⟨c,hc,rfl⟩:=List.mem_map.1 ho; exact Vc0 (Vdx (h.cs c hc)) (by omega) (by simp [bytesI])) (by rw [Qr]; omega) (by unfold certI at hl; omega)]
  rfl
theorem Vama {r:ApiReply} (h:GoodR r):Zal (repI r) 17#64=some ((),r.entries.map entI,()):=by
 unfold Zal repI
 rw [look_ok (Vjw h) 17 (by omega) (by omega)]
 simp only [bindS]
 have eu:(useR r).getD (17 - 1) false=decide ((0:Int) < (r.entries.length:Int)):=rfl
 have ev:(valsR r).getD (17 - 1) []=entsI r.entries:=rfl
 rw [eu,ev]
 cases hc:decide ((0:Int) < (r.entries.length:Int))
 ·have:r.entries=[]:=List.length_eq_zero_iff.1 (by have:=of_decide_eq_false hc; omega)
  rw [this]; rfl
 ·simp only [Qe,cond_false,cond_true]
  unfold entsI
  have hl:=Vem r.entries
  have:=h.es
  rw [Vyn _ (fun o ho=>by obtain ⟨c,hc,rfl⟩:=List.mem_map.1 ho; exact Vc0 (Vpn (h.x c hc)).2 (by omega) (by rw [Vb5]; omega)) (by rw [Qr]; omega) (by unfold entsI at hl; omega)]
  rfl
theorem Vyp {α β:Type} {l:List α} {g:α→β} {i:Nat} {x:α} (h:l[i]? = some x):(l.map g)[i]? = some (g x):=by rw [Qa3,h]; rfl
theorem Veda {r:ApiReply} (h:GoodR r):Zbe (repI r) 3#64=some ((),r.certificates,()):=by
 unfold Zbe
 rw [Vala h]
 simp only [bindS]
 unfold Zbe_L0
 have hc:=h.c
 rw [Qr,show ((0:Int))=((0:Nat):Int) from rfl,Vhd r.certificates id (fun i t=>(t,r.certificates.map bytesI,(r.certificates.length:Int),(i:Int),())) (r.certificates,()) (by omega)]
 ·rfl
 ·intro i x hx
  have h1:=Vak hx
  simp only [Zbe_L0b,Vbv hx,Qr,cond_true,Vam (i:=i) (by omega),Qf,Vyp hx,bindS,decide_eq_true (show (0:Int)≤(i:Int) by omega),Q0]
  have eg:getI (bytesI x) (0:Int)=some ⟨3,0#64,x⟩:=rfl
  rw [eg]
  simp only [bindS]
  rw [Vdw (by simp; omega)]
  rfl
 ·simp [Zbe_L0b]
theorem Vpp {r:ApiReply} (h:GoodR r) (he:r.err=0):Zdl (repI r)=some ((),r,()):=by
 have hL:=Vjw h
 have f1:Zau (repI r) 1#64=some ((),r.authData,()):=(rdB hL 1 (by omega) (by omega)).trans (congrArg (fun d=>some ((),d,())) (bsel r.authData 3))
 have f2:Zau (repI r) 2#64=some ((),r.signature,()):=(rdB hL 2 (by omega) (by omega)).trans (congrArg (fun d=>some ((),d,())) (bsel r.signature 3))
 have f4:Zas (repI r) 4#64=some ((),r.format,()):=(rdN hL 4 (by omega) (by omega)).trans (congrArg (fun d=>some ((),d,())) (nsel h.num.format))
 have f5:Zau (repI r) 5#64=some ((),r.iD,()):=(rdB hL 5 (by omega) (by omega)).trans (congrArg (fun d=>some ((),d,())) (bsel r.iD 3))
 have f6:Zbf (repI r) 6#64=some ((),r.user,()):=(rdT hL 6 (by omega) (by omega)).trans (congrArg (fun d=>some ((),d,())) (tsel r.user 3))
 have f7:Zbf (repI r) 7#64=some ((),r.name,()):=(rdT hL 7 (by omega) (by omega)).trans (congrArg (fun d=>some ((),d,())) (tsel r.name 4))
 have f8:Zas (repI r) 8#64=some ((),r.count,()):=(rdN hL 8 (by omega) (by omega)).trans (congrArg (fun d=>some ((),d,())) (nsel h.num.count))
 have f9:Zbg (repI r) 9#64=some ((),r.peer,()):=(rdW hL 9 (by omega) (by omega)).trans (congrArg (fun d=>some ((),d,())) (psel r.peer))
 have f10:Zau (repI r) 10#64=some ((),r.box,()):=(rdB hL 10 (by omega) (by omega)).trans (congrArg (fun d=>some ((),d,())) (bsel r.box 3))
 have f11:Zbg (repI r) 11#64=some ((),r.model,()):=(rdW hL 11 (by omega) (by omega)).trans (congrArg (fun d=>some ((),d,())) (psel r.model))
 have f12:Zas (repI r) 12#64=some ((),r.retries,()):=(rdN hL 12 (by omega) (by omega)).trans (congrArg (fun d=>some ((),d,())) (nsel h.num.retries))
 have f13:Zas (repI r) 13#64=some ((),r.rooms,()):=(rdN hL 13 (by omega) (by omega)).trans (congrArg (fun d=>some ((),d,())) (nsel h.num.rooms))
 have f14:Zas (repI r) 14#64=some ((),r.leases,()):=(rdN hL 14 (by omega) (by omega)).trans (congrArg (fun d=>some ((),d,())) (nsel h.num.leases))
 have f15:Zbc (repI r) 15#64=some ((),r.pinSet,()):=(rdF hL 15 (by omega) (by omega)).trans (congrArg (fun d=>some ((),d,())) (fsel r.pinSet))
 have f16:Zbc (repI r) 16#64=some ((),r.finger,()):=(rdF hL 16 (by omega) (by omega)).trans (congrArg (fun d=>some ((),d,())) (fsel r.finger))
 unfold Zdl
 rw [f1,f2,f4,f5,f6,f7,f8,f9,f10,f11,f12,f13,f14,f15,f16,Veda h,Vama h]
 simp only [bindS]
 unfold Zdl_L0
 have hes:=h.es
 rw [Qr]
 refine Eq.trans (congrArg (fun o=>Qa0 o _) (Vhd r.entries id (fun i t=>(((⟨(0:Int),[],[],[],(0:Int),[],([]:List UInt8),([]:List UInt8),(0:Int),0#64,[],0#64,(0:Int),(0:Int),(0:Int),false,false,[]⟩:ApiReply),()),((0:Int),r.authData,r.signature,r.certificates,r.format,r.iD,r.user,r.name,r.count,r.peer,r.box,r.model,r.retries,r.rooms,r.leases,r.pinSet,r.finger,t,()),r.entries.map entI,(r.entries.length:Int),(i:Int),())) (((⟨(0:Int),[],[],[],(0:Int),[],([]:List UInt8),([]:List UInt8),(0:Int),0#64,[],0#64,(0:Int),(0:Int),(0:Int),false,false,[]⟩:ApiReply),()),((0:Int),r.authData,r.signature,r.certificates,r.format,r.iD,r.user,r.name,r.count,r.peer,r.box,r.model,r.retries,r.rooms,r.leases,r.pinSet,r.finger,r.entries,()),()) (by omega) ?_ ?_)) ?_
 ·intro i x hx
  have h1:=Vak hx
  have gE:=h.x x (Qq hx)
  have lE:=Veca gE
  have t1:Zbf (entI x) 1#64=some ((),x.rP,()):=rdT lE 1 (by omega) (by omega)
  have t2:Zbf (entI x) 2#64=some ((),x.user,()):=rdT lE 2 (by omega) (by omega)
  have t3:Zbf (entI x) 3#64=some ((),x.name,()):=rdT lE 3 (by omega) (by omega)
  have t4:Zau (entI x) 4#64=some ((),x.iD,()):=rdB lE 4 (by omega) (by omega)
  have t5:Zas (entI x) 5#64=some ((),x.left,()):=(rdN lE 5 (by omega) (by omega)).trans (congrArg (fun d=>some ((),d,())) (Vyo gE.l))
  simp only [Zdl_L0b,Vbv hx,Qr,cond_true,Vam (i:=i) (by omega),Qf,Vyp hx,bindS,decide_eq_true (show (0:Int)≤(i:Int) by omega),Q0]
  rw [t1]
  simp only [bindS]
  rw [t2]
  simp only [bindS]
  rw [t3]
  simp only [bindS]
  rw [t4]
  simp only [bindS]
  rw [t5]
  simp only [bindS]
  rw [Viw (by simp; omega)]
  rfl
 ·simp [Zdl_L0b]
 ·simp only [bindS]
  rw [← he]
def bareR (e:Int):ApiReply:=⟨e,[],[],[],(0:Int),[],([]:List UInt8),([]:List UInt8),(0:Int),0#64,[],0#64,(0:Int),(0:Int),(0:Int),false,false,[]⟩
theorem Vana {r:ApiReply} (h:Sane r) (hz:zeroR r=true):r=bareR r.err:=by
 have e1:=Vuw r h
 unfold Zcb at e1
 rw [Vel _ _ (by have:=h.c; omega) (by have:=h.e; omega),hz] at e1
 simp only [bindS] at e1
 have e2:=Qad e1
 have e3:=congrArg (fun q:Unit×(Bool×Unit)=>q.2.1) e2
 exact of_decide_eq_true e3
theorem Vxc {e:Int} (h:0≤e∧e≤42):((Qap (Qb 8 e)).toBitVec.toNat:Int)=e:=by
 obtain ⟨k,rfl⟩:∃ k:Nat,e=(k:Int):=⟨e.toNat,by omega⟩
 have h2:=h.2
 show ((Qb 8 (k:Int)).toNat:Int)=_
 rw [Qn,Qt,Q3 (by omega)]
theorem Vjx {r:ApiReply} (h0:(repO r).2=0):valR r=0∧((¬ r.err=0∧repO r=([errB r],0))∨(r.err=0∧repO r=(0::encA (repI r),0)∧(0::encA (repI r)).length≤4096)):=by
 unfold repO at h0
 by_cases hv:valR r=0
 ·refine ⟨hv,?_⟩
  rw [decide_eq_true hv] at h0
  by_cases he:r.err=0
  ·right
   refine ⟨he,?_⟩
   rw [decide_eq_true he] at h0
   by_cases hl:(4096:Int) < ((0::encA (repI r)).length:Int)
   ·rw [decide_eq_true hl] at h0; cases h0
   ·refine ⟨?_,by omega⟩
    unfold repO
    rw [decide_eq_true hv,decide_eq_true he,decide_eq_false hl]; rfl
  ·left
   refine ⟨he,?_⟩
   unfold repO
   rw [decide_eq_true hv,decide_eq_false he]; rfl
 ·rw [decide_eq_false hv] at h0
  exact absurd h0 hv
theorem back_ok {r:ApiReply} (h:Sane r) (h0:(repO r).2=0):Zba (repO r).1=some ((),r,0,()):=by
 obtain ⟨hv,hc⟩:=Vjx h0
 obtain ⟨hg,hz⟩:=Vle hv
 have hE:=Vda r h
 rcases hc with ⟨he,e⟩ | ⟨he,e,hl⟩
 ·rw [e] at hE ⊢
  have hb:=Vana h (hz he)
  have hn:=Vxc hg.e
  unfold Zba
  have g0:getI [errB r] (0:Int)=some (errB r):=rfl
  rw [g0]
  simp only [bindS]
  rw [show decide ((([errB r]:List UInt8).length:Int)=0)=false from rfl,show decide ((4096:Int) < (([errB r]:List UInt8).length:Int))=false from rfl]
  have hn2:((errB r).toBitVec.toNat:Int)=r.err:=hn
  rw [hn2,decide_eq_false (show ¬ (42:Int) < r.err by have:=hg.e; omega),decide_eq_false he]
  simp only [cond_false,bindS,Q6]
  have hb2:(⟨r.err,[],[],[],(0:Int),[],([]:List UInt8),([]:List UInt8),(0:Int),0#64,[],0#64,(0:Int),(0:Int),(0:Int),false,false,[]⟩:ApiReply)=r:=hb.symm
  rw [hb2,hE]
  simp only [bindS,decide_true,Qe,cond_false,Zdq]
 ·rw [e] at hE ⊢
  unfold Zba
  have g0:getI (0::encA (repI r)) (0:Int)=some 0:=rfl
  rw [g0]
  simp only [bindS]
  rw [decide_eq_false (show ¬ ((0::encA (repI r)).length:Int)=0 by rw [Qa]; omega),decide_eq_false (show ¬ (4096:Int) < ((0::encA (repI r)).length:Int) by omega),show decide ((42:Int) < ((0:UInt8).toBitVec.toNat:Int))=false from rfl,show decide (((0:UInt8).toBitVec.toNat:Int)=0)=true from rfl,decide_eq_true (show (1:Int)≤((0::encA (repI r)).length:Int) by rw [Qa]; omega)]
  simp only [cond_false,cond_true,Qa1,Qbu]
  rw [Vlk _ (by rw [Qa] at hl; omega)]
  have hd:=Vod (Vgx hg).1.enc.2 []
  rw [Qah] at hd
  unfold repI
  rw [hd]
  simp only [bindS,decide_true,Qe,cond_false]
  have hr:=Vpp hg he
  unfold repI at hr hE
  rw [hr]
  simp only [bindS,Q6]
  rw [hE]
  simp only [bindS,decide_true,Qe,cond_false,Zdq]
theorem Vu8:∀ k:Fin 8,(Zbw ((Qb 64 (k.val:Int))+1#64) (5#64) (176:Int)).isSome=true:=by decide +kernel
theorem Vu9 (n:Int):∃ l,Zde n=some ((),l,()):=by
 obtain ⟨k,hk,e⟩:=mask n 7 (by decide)
 unfold Zde
 rw [show (7:Int)=((7:Nat):Int) from rfl,e]
 have h:=Vu8 ⟨k,by omega⟩
 obtain ⟨l,hl⟩:=Option.isSome_iff_exists.1 h
 dsimp only at hl ⊢
 rw [hl]
 exact ⟨_,rfl⟩
theorem Vva (k:Nat):∃ j:Nat,j < 3∧Int.tmod (k:Int) 3=(j:Int):=⟨k % 3,Nat.mod_lt _ (by omega),by rw [Qba (by omega)]; omega⟩
theorem Vyq {j:Nat} (h:j < 3):j=0∨j=1∨j=2:=by omega
theorem RPr (n:Int):∃ l,Zdf n=some ((),l,())∧l.length < 1000000:=by
 obtain ⟨k,hk,e⟩:=mask n 65535 (by omega)
 obtain ⟨j,hj,ej⟩:=Vva k
 unfold Zdf
 dsimp only
 rw [show ((65535:Nat):Int)=(65535:Int) from rfl] at e
 rw [e,ej]
 rcases Vyq hj with rfl | rfl | rfl<;>exact ⟨_,rfl,by decide⟩
theorem Userr (n:Int):∃ l,Zco n=some ((),l,()):=by
 obtain ⟨k,hk,e⟩:=mask n 65535 (by omega)
 obtain ⟨j,hj,ej⟩:=Vva k
 unfold Zco
 dsimp only
 rw [show ((65535:Nat):Int)=(65535:Int) from rfl] at e
 rw [e,ej]
 rcases Vyq hj with rfl | rfl | rfl<;>exact ⟨_,rfl⟩
theorem Textr (n:Int):∃ l,Zcn n=some ((),l,())∧l.length < 1000000:=by
 obtain ⟨a,b,e⟩:=Vyz n
 refine ⟨_,e,?_⟩
 have:∀ a b:Fin 8,(words.getD a.val []++words.getD b.val []).length < 1000000:=by decide
 exact this a b
abbrev TUP:=Int×(List (UInt8))×(List (UInt8))×(List (List UInt8))×Int×(List (UInt8))×(List UInt8)×(List UInt8)×Int×(BitVec 64)×(List (UInt8))×(BitVec 64)×Int×Int×Int×Bool×Bool×(List (ApiEntry))×Unit
structure St (t:TUP) (k:Nat):Prop where
 c:t.2.2.2.1.length≤k
 e:t.2.2.2.2.2.2.2.2.2.2.2.2.2.2.2.2.2.1.length≤k
 n:t.2.2.2.2.2.2.2.1.length < 1000000
 x:∀ x∈t.2.2.2.2.2.2.2.2.2.2.2.2.2.2.2.2.2.1,x.rP.length < 1000000∧x.name.length < 1000000
theorem St.mono {t:TUP} {k l:Nat} (h:St t k) (hk:k≤l):St t l:=⟨Qay h.c hk,Qay h.e hk,h.n,h.x⟩
theorem mk_ok {k:Nat} {w:Int} (h:(k:Int) * w≤281474976710656) (h2:k≤9223372036854775807):(decide ((0:Int)≤(k:Int))&&(decide ((k:Int)≤(k:Int))&&decide (w * (k:Int)≤281474976710656∧(k:Int)≤9223372036854775807)))=true:=by
 rw [Int.mul_comm] at h
 simp only [Qaa,decide_eq_true_eq]
 exact ⟨by omega,by omega,h,by omega⟩
theorem rpL0 (m:Int) (r0:ApiReply) (t0:TUP) (h0:St t0 0):Ok (Zbq_L0 (m,(r0,()),t0,0,())) fun z=>z.1=m∧St z.2.2.1 3:=by
 unfold Zbq_L0
 obtain ⟨c,hc,ec⟩:=mask (Qav m (2 ^ (min 5 (Qac .i64)))) 3 (by omega)
 rw [show ((3:Nat):Int)=(3:Int) from rfl] at ec
 refine Ok.iter (fun q=>q.1=m∧∃ i:Nat,i≤3∧q.2.2.2.1=(i:Int)∧St q.2.2.1 i) (fun q=>(4 - q.2.2.2.1).toNat) ⟨rfl,0,by omega,rfl,h0⟩ (by rw [Vae]; dsimp only; omega) ?_
 rintro ⟨q0,⟨q1,u1⟩,q2,q3,u⟩ ⟨e1,i,hi,e2,hS⟩
 dsimp only at *
 subst e1; subst e2
 unfold Zbq_L0b
 dsimp only
 rw [ec]
 by_cases hlt:(i:Int) < (c:Int)
 ·rw [decide_eq_true hlt]
  simp only [cond_true]
  obtain ⟨b,hb,eb⟩:=mask (Qav q0 (2 ^ (min (Qb 64 (Qp .i64 ((3:Int)+(i:Int)))).toNat (Qac .i64)))) 31 (by omega)
  rw [show ((31:Nat):Int)=(31:Int) from rfl] at eb
  rw [eb,mk_ok (k:=b) (w:=1) (by omega) (by omega)]
  simp only [cond_true]
  have hc1:=hS.c
  have he1:=hS.e
  rw [Vdw (by rw [Qj]; omega)]
  simp only [cond_true]
  obtain ⟨l1,hl1,hl1b⟩:=RPr (Qav q0 (2 ^ (min 3 (Qac .i64))))
  obtain ⟨l2,hl2⟩:=Userr (i:Int)
  obtain ⟨l3,hl3,hl3b⟩:=Textr (Qav q0 (2 ^ (min (Qb 64 (i:Int)).toNat (Qac .i64))))
  obtain ⟨l4,hl4⟩:=Vu9 (i:Int)
  rw [hl1]
  simp only [bindS]
  rw [hl2]
  simp only [bindS]
  rw [hl3]
  simp only [bindS]
  rw [hl4]
  simp only [bindS]
  rw [Viw (by rw [Qj]; omega)]
  simp only [cond_true]
  rw [Vam (i:=i) (by omega)]
  refine Ok.some ?_
  dsimp only
  refine ⟨⟨rfl,i+1,by omega,rfl,⟨?_,?_,hS.n,?_⟩⟩,by omega⟩
  ·dsimp only; rw [Qd,Qj]; omega
  ·dsimp only; rw [Qd,Qj]; omega
  ·intro x hx
   dsimp only at hx
   rcases List.mem_append.1 hx with hx | hx
   ·exact hS.x x hx
   ·rw [Qaj] at hx
    subst hx
    exact ⟨hl1b,hl3b⟩
 ·rw [decide_eq_false hlt]
  refine Ok.some ?_
  dsimp only
  exact ⟨rfl,hS.mono hi⟩
theorem Vdb {t:TUP} {k:Nat} (h:St t k) (hk:k≤10) {e:Int} {a s c f i u n ct p b md rt rm ls ps fg es} (hc:c.length≤10) (he:es.length≤10) (hn:n.length < 1000000) (hx:∀ x∈es,x.rP.length < 1000000∧x.name.length < 1000000):Sane (⟨e,a,s,c,f,i,u,n,ct,p,b,md,rt,rm,ls,ps,fg,es⟩:ApiReply):=⟨by dsimp only; omega,by dsimp only; omega,hn,hx⟩
theorem Vqo (n m:Int):Ok (Zbq n m) fun x=>Sane x.2.1:=by
 unfold Zbq
 dsimp only
 obtain ⟨lu,hu⟩:=Userr m
 obtain ⟨lt,ht,htb⟩:=Textr (Qav m (2 ^ (min 2 (Qac .i64))))
 rw [hu]
 simp only [bindS]
 rw [ht]
 simp only [bindS]
 refine Ok.bind (Ok.mono (Q:=fun (j:Int×(ApiReply×Unit)×TUP×Unit)=>j.1=m∧St j.2.2.1 0) ?_ ?_)
 ·refine Ok.cond (fun _=>?_) (fun _=>?_)
  ·obtain ⟨li,hli⟩:=Vu9 m
   obtain ⟨a,ha,ea⟩:=mask (Qav m (2 ^ (min 3 (Qac .i64)))) 63 (by omega)
   obtain ⟨b,hb,eb⟩:=mask (Qav m (2 ^ (min 9 (Qac .i64)))) 63 (by omega)
   rw [show ((63:Nat):Int)=(63:Int) from rfl] at ea eb
   rw [hli]
   simp only [bindS]
   rw [ea,eb,mk_ok (k:=a) (w:=1) (by omega) (by omega),mk_ok (k:=b) (w:=1) (by omega) (by omega)]
   exact Ok.some ⟨rfl,⟨Qas _,Qas _,htb,fun x hx=>absurd hx Qo⟩⟩
  ·exact Ok.some ⟨rfl,⟨Qas _,Qas _,htb,fun x hx=>absurd hx Qo⟩⟩
 rintro ⟨j1,⟨j2,u2⟩,j3,u⟩ ⟨e1,hS⟩
 dsimp only at *
 subst e1
 refine Ok.bind (Ok.mono (rpL0 j1 j2 j3 hS) ?_)
 rintro ⟨z1,⟨z2,u2⟩,t,u⟩ ⟨e1,hT⟩
 dsimp only at *
 subst e1
 obtain ⟨v,hv,ev⟩:=mask (Qav z1 (2 ^ (min 4 (Qac .i64)))) 65535 (by omega)
 rw [show ((65535:Nat):Int)=(65535:Int) from rfl] at ev
 rw [ev]
 have tc:t.2.2.2.1.length≤10:=Qay hT.c (by omega)
 have te:t.2.2.2.2.2.2.2.2.2.2.2.2.2.2.2.2.2.1.length≤10:=Qay hT.e (by omega)
 obtain ⟨q,hq,eq⟩:=Vva v
 refine Ok.cond (fun _=>?_) (fun _=>?_)
 ·exact Ok.some ⟨by show (0:Nat) < 1000000; omega,by show (0:Nat) < 1000000; omega,by show (0:Nat) < 1000000; omega,fun x hx=>absurd hx Qo⟩
 refine Ok.cond (fun _=>?_) (fun _=>?_)
 ·exact Ok.some (Vdb hT (by omega) tc te hT.n hT.x)
 refine Ok.cond (fun _=>?_) (fun _=>?_)
 ·exact Ok.some (Vdb hT (by omega) tc te hT.n hT.x)
 refine Ok.cond (fun _=>?_) (fun _=>?_)
 ·obtain ⟨a,ha,ea⟩:=mask (v:Int) 7 (by omega)
  rw [show ((7:Nat):Int)=(7:Int) from rfl] at ea
  rw [ea,Vac (n:=1020+(a:Int)) (by omega) (by omega),show (1020:Int)+(a:Int)=((1020+a:Nat):Int) by omega,mk_ok (k:=1020+a) (w:=1) (by omega) (by omega)]
  exact Ok.some (Vdb hT (by omega) tc te hT.n hT.x)
 refine Ok.cond (fun _=>?_) (fun _=>?_)
 ·obtain ⟨a,ha,ea⟩:=mask (v:Int) 1 (by omega)
  rw [show ((1:Nat):Int)=(1:Int) from rfl] at ea
  rw [ea]
  have:a=0∨a=1:=by omega
  rcases this with rfl | rfl
  ·exact Ok.some (Vdb hT (by omega) tc te (by decide) hT.x)
  ·exact Ok.some (Vdb hT (by omega) tc te (by decide) hT.x)
 refine Ok.cond (fun _=>?_) (fun _=>?_)
 ·rw [eq,Vac (n:=175+(q:Int)) (by omega) (by omega),show (175:Int)+(q:Int)=((175+q:Nat):Int) by omega,mk_ok (k:=175+q) (w:=1) (by omega) (by omega)]
  exact Ok.some (Vdb hT (by omega) tc te hT.n hT.x)
 refine Ok.cond (fun _=>?_) (fun _=>?_)
 ·rw [eq,Vac (n:=175+(q:Int)) (by omega) (by omega),show (175:Int)+(q:Int)=((175+q:Nat):Int) by omega,mk_ok (k:=175+q) (w:=1) (by omega) (by omega)]
  simp only [cond_true]
  have te3:=hT.e
  rw [Viw (by rw [Qj]; omega)]
  refine Ok.some (Vdb hT (by omega) tc (by rw [Qd,Qj]; omega) hT.n ?_)
  intro x hx
  rcases List.mem_append.1 hx with hx | hx
  ·exact hT.x x hx
  ·rw [Qaj] at hx
   subst hx
   exact ⟨by dsimp only; decide,by dsimp only; decide⟩
 refine Ok.cond (fun _=>?_) (fun _=>?_)
 ·obtain ⟨a,ha,ea⟩:=mask (v:Int) 7 (by omega)
  rw [show ((7:Nat):Int)=(7:Int) from rfl] at ea
  rw [ea,mk_ok (k:=a) (w:=24) (by omega) (by omega)]
  exact Ok.some (Vdb hT (by omega) (by rw [Q4]; omega) te hT.n hT.x)
 refine Ok.cond (fun _=>?_) (fun _=>?_)
 ·obtain ⟨a,ha,ea⟩:=mask (v:Int) 255 (by omega)
  rw [show ((255:Nat):Int)=(255:Int) from rfl] at ea
  rw [ea,Vac (n:=900+(a:Int)) (by omega) (by omega),show (900:Int)+(a:Int)=((900+a:Nat):Int) by omega,mk_ok (k:=900+a) (w:=1) (by omega) (by omega)]
  exact Ok.some (Vdb hT (by omega) (by rw [Qj]; omega) te hT.n hT.x)
 exact Ok.some (Vdb hT (by omega) tc te hT.n hT.x)
theorem Veea:Zbp=some ((),true,()):=by kernel_rfl
theorem Vvb (l:List ApiItem) (hl:l.length < 1000000):∀ (r:List ApiItem) (at0 need f:Nat),l.drop at0=r→at0≤l.length→need≤1024 * (at0+1)→r.length < f →
  iter (fun (y:((List (ApiItem))×Int×(BitVec 64)×Unit))=>passkeyref1_Skip_L0b y.1 y.2.1 y.2.2.1) f (l,(at0:Int),Qc 64 need,())=some (skZ at0 (skp r need)):=by
 have ebv:∀ i:Nat,i≤2000000000→(Qc 64 i).toNat=i:=fun i hi=>by
  rw [Qt,Q3 (by omega)]
 intro r
 induction r with
 | nil=>
  intro at0 need f hr ha hn hf
  have hal:at0=l.length:=by
   have:=congrArg List.length hr
   simp at this
   omega
  obtain ⟨f,rfl⟩:∃ g,f=g+1:=⟨f - 1,by omega⟩
  rw [Vad]
  dsimp only
  unfold passkeyref1_Skip_L0b
  rw [ebv need (by omega),show (0#64).toNat=0 from rfl]
  cases need with
  | zero=>rfl
  | succ need=>
   rw [show decide (0 < need+1)=true from decide_eq_true (by omega),show decide ((l.length:Int)≤(at0:Int))=true from decide_eq_true (by omega)]
   rfl
 | cons x r ih =>
  intro at0 need f hr ha hn hf
  have hlt:at0 < l.length:=by
   have:=congrArg List.length hr
   simp at this
   omega
  have hx:l[at0]? = some x:=by
   have:=congrArg (·[0]?) hr
   simpa using this
  have hr2:l.drop (at0+1)=r:=by
   have:=congrArg (Qbd 1) hr
   simpa [Qa8] using this
  have eg:getI l (at0:Int)=some x:=by unfold getI; simp [hx]
  simp only [Qa] at hf
  obtain ⟨f,rfl⟩:∃ g,f=g+1:=⟨f - 1,by omega⟩
  rw [Vad]
  dsimp only
  cases need with
  | zero=>
   unfold passkeyref1_Skip_L0b
   rfl
  | succ need =>
   have e1 : passkeyref1_Skip_L0b l (at0 : Int) (Qc 64 (need+1)) = some (bif isN x.kind&&decide (512 < x.number.toNat) then .inr (.inl (0, false, ())) else .inl (l, ((at0+1 : Nat) : Int), Qc 64 (need+addI x), ())) := by
    have es:Qc 64 (need+1) - 1#64=Qc 64 need:=by
     apply Qax
     rw [BitVec.toNat_sub,ebv (need+1) (by omega),ebv need (by omega),show (1#64).toNat=1 from rfl]
     omega
    unfold passkeyref1_Skip_L0b
    rw [ebv (need+1) (by omega),show (0#64).toNat=0 from rfl,show decide (0 < need+1)=true from decide_eq_true (by omega),show decide ((l.length:Int)≤(at0:Int))=false from decide_eq_false (by omega),eg,es,show (512#64).toNat=512 from rfl]
    have ew:Qp .i64 ((at0:Int)+1)=((at0+1:Nat):Int):=by
     rw [Vac (n:=(at0:Int)+1) (by omega) (by omega)]; rfl
    simp only [cond_true,cond_false,bindS,bindC,ew]
    unfold isN addI
    by_cases h5:x.kind=5
    ·by_cases hm:512 < x.number.toNat
     ·simp [h5,hm]
     ·have ea:Qc 64 need+x.number=Qc 64 (need+x.number.toNat):=by
       apply Qax
       rw [Qbl,ebv need (by omega),ebv _ (by omega)]
       omega
      simp [h5,hm,ea]
    ·by_cases h6:x.kind=6
     ·by_cases hm:512 < x.number.toNat
      ·simp [h6,hm]
      ·have ea:Qc 64 need+2#64 * x.number=Qc 64 (need+2 * x.number.toNat):=by
        apply Qax
        rw [Qbl,BitVec.toNat_mul,ebv need (by omega),ebv (need+2 * x.number.toNat) (by omega),show (2#64).toNat=2 from rfl]
        omega
       simp [h6,hm,ea]
     ·simp [h5,h6]
   rw [e1,bindS]
   simp only [skp]
   cases hb:(isN x.kind&&decide (512 < x.number.toNat))
   ·simp only [cond_false,Q6]
    have:=Vrg hb
    rw [ih (at0+1) (need+addI x) f hr2 (by omega) (by omega) (by omega)]
    cases skp r (need+addI x) with
    | none=>rfl
    | some k=>
     simp only [Qa4,skZ]
     rw [show at0+1+k=at0+(k+1) by omega]
   ·rfl
theorem Vpq (l:List ApiItem) (a:Int) (hl:l.length < 1000000):passkeyref1_Skip l a=some ((),(skO l a).1,(skO l a).2,()):=by
 unfold passkeyref1_Skip skO
 by_cases h1:a < 0
 ·simp [h1]
 ·rw [show decide (a < 0)=false from decide_eq_false h1]
  by_cases h2:(l.length:Int)≤a
  ·simp [h2]
  ·rw [show decide ((l.length:Int)≤a)=false from decide_eq_false h2]
   obtain ⟨n,rfl⟩:∃ n:Nat,a=(n:Int):=⟨a.toNat,by omega⟩
   have:=Vvb l hl (l.drop n) n 1 rounds rfl (by omega) (by omega) (by rw [Vae]; simp; omega)
   unfold passkeyref1_Skip_L0
   simp only [cond_false]
   rw [show (1#64)=Qc 64 1 from rfl,this,bindS,Qf,Vof]
theorem Vaoa {l:List ApiItem} {a:Nat} {x:ApiItem} {s:List ApiItem} (h:l.drop a=x::s) (hx:isN x.kind=false):skO l (a:Int)=(((a+1:Nat):Int),true):=by
 have hl:=congrArg List.length h
 rw [Qag,Qa] at hl
 unfold skO
 rw [show decide ((a:Int) < 0)=false from decide_eq_false (by omega),show decide ((l.length:Int)≤(a:Int))=false from decide_eq_false (by omega),Qf,h]
 have ha:addI x=0:=by
  unfold isN at hx
  simp only [Qbi,decide_eq_false_iff_not] at hx
  unfold addI
  simp [hx.1,hx.2]
 simp only [skp,hx,Qm,cond_false,ha,Nat.add_zero,Vg1]
 simp
theorem Vvc (l:List ApiItem) (hl:l.length < 1000000) (key:BitVec 64) (x0:ApiItem) (h00:l[0]? = some x0) (hN:x0.number.toNat≤512):∀ (k i a f:Nat) (s:List ApiItem) (ps:List (ApiItem×List ApiItem)),PairsAt k s [] ps→i+k=x0.number.toNat→l.drop a=s→a≤l.length→k < f →
  ∃ z,iter (fun (y:((List (ApiItem))×(BitVec 64)×Int×(BitVec 64)×Unit))=>Zbu_L0b y.1 y.2.1 y.2.2.1 y.2.2.2.1) f (l,key,(a:Int),Qc 64 i,())=some z∧LkR key ps z:=by
 have eg0:getI l (0:Int)=some x0:=Vbj (i:=0) h00
 intro k
 induction k with
 | zero=>
  intro i a f s ps hp hi hs ha hf
  obtain ⟨f,rfl⟩:∃ g,f=g+1:=⟨f - 1,by omega⟩
  rw [Vad]
  have hps:ps=[]:=List.length_eq_zero_iff.1 hp.len
  subst hps
  refine ⟨.inr (),?_,rfl⟩
  dsimp only
  unfold Zbu_L0b
  rw [eg0,bindS,bvn i (by omega),show decide (i < x0.number.toNat)=false from decide_eq_false (by omega)]
  rfl
 | succ k ih=>
  intro i a f s ps hp hi hs ha hf
  obtain ⟨f,rfl⟩:∃ g,f=g+1:=⟨f - 1,by omega⟩
  cases hp with
  | @cons _ x v r _ ps hx hv h0 hp=>
  have hd1:l[a]? = some x:=by
   have:=congrArg (·[0]?) hs
   simpa using this
  have hd2:l.drop (a+1)=v++r:=by
   have:=congrArg (Qbd 1) hs
   simpa [Qa8] using this
  have hlen:=congrArg List.length hd2
  rw [Qag,Qd] at hlen
  have hv1:0 < v.length:=List.length_pos_iff.2 h0
  have hd3:l.drop (a+1+v.length)=r:=by
   rw [← Qa8,hd2]; simp
  have e1:Zbu_L0b l key (a:Int) (Qc 64 i)=bif decide (x.kind=1)&&decide (x.number=key) then some (Q7 (Qx (v,true,()))) else some (Qx (l,key,((a+1+v.length:Nat):Int),Qc 64 (i+1),())):=by
   unfold Zbu_L0b
   rw [eg0,bindS,bvn i (by omega),show decide (i < x0.number.toNat)=true from decide_eq_true (by omega),Vpq l _ hl,Vaoa hs hx,bvs i (by omega),Vbj hd1]
   simp only [cond_true,bindS]
   rw [Vpq l _ hl,Vri hd2 hv h0]
   simp only [cond_true,bindS]
   cases h1:decide (x.kind=1)
   ·simp only [Qm,cond_false]
   ·simp only [Qk,cond_true]
    cases h2:decide (x.number=key)
    ·simp only [cond_false]
    ·simp only [cond_true,Qf]
     rw [show (decide ((0:Int)≤((a+1+v.length:Nat):Int))&&decide (((a+1+v.length:Nat):Int)≤(l.length:Int)))=true by (rw [Qaa,decide_eq_true_eq,decide_eq_true_eq]; exact ⟨by omega,by omega⟩),show (decide ((0:Int)≤((a+1:Nat):Int))&&decide (((a+1:Nat):Int)≤((a+1+v.length:Nat):Int)))=true by (rw [Qaa,decide_eq_true_eq,decide_eq_true_eq]; exact ⟨by omega,by omega⟩),Vj4 hd2]
     simp only [cond_true]
     rw [Vc2 (by omega)]
     rfl
  rw [Vad]
  dsimp only
  rw [e1]
  cases hm:(decide (x.kind=1)&&decide (x.number=key))
  ·simp only [cond_false,bindS,Q6]
   obtain ⟨z,z1,z2⟩:=ih (i+1) (a+1+v.length) f r ps hp (by omega) hd3 (by omega) (by omega)
   refine ⟨z,z1,?_⟩
   unfold LkR lkP
   rw [hm]
   exact z2
  ·refine ⟨_,rfl,?_⟩
   unfold LkR lkP
   rw [hm]
   rfl
theorem Vvd (key:BitVec 64):∀ (k:Nat) (s t:List ApiItem) (ps:List (ApiItem×List ApiItem)),PairsAt k s t ps→(lkP key ps).1.length≤s.length∧(∀ x∈(lkP key ps).1,x∈s)∧((lkP key ps).2=true→(lkP key ps).1≠[])∧((lkP key ps).2=false→(lkP key ps).1=[]):=by
 intro k s t ps h
 induction h with
 | nil=>simp [lkP]
 | @cons k x v r t ps hx hv h0 h ih=>
  unfold lkP
  cases (decide ((x,v).1.kind=1)&&decide ((x,v).1.number=key))
  ·simp only [cond_false,Qa,Qd]
   refine ⟨by have:=ih.1; omega,fun y hy=>?_,ih.2.2.1,ih.2.2.2⟩
   exact Qae _ (List.mem_append_right _ (ih.2.1 y hy))
  ·simp only [cond_true,Qa,Qd]
   refine ⟨by omega,fun y hy=>Qae _ (List.mem_append_left _ hy),fun _=>h0,fun hh=>by cases hh⟩
theorem Look2 (l:List ApiItem) (key:BitVec 64) (hl:l.length < 1000000) (hd:∀ x∈l,x.data.length < 100000):∃ v b,Zdt l key=some ((),v,b,())∧Zbu l key=some ((),v,b,())∧v.length≤l.length∧(∀ x∈v,x∈l)∧(b=true→v≠[])∧(b=false→v=[]):=by
 unfold Zdt Zbu
 rw [Vcn l hl hd,Vgo l hl hd]
 simp only [bindS]
 by_cases hv:valO l=0
 ·rw [show decide (valO l=0)=true from decide_eq_true hv]
  simp only [Qe,cond_false]
  cases hl0:l with
  | nil=>exact absurd hl0 (Vm8 hv)
  | cons x r=>
   have eg0:getI (x::r) (0:Int)=some x:=rfl
   rw [eg0]
   simp only [bindS]
   by_cases h6:x.kind=6
   ·rw [show decide (x.kind=6)=true from decide_eq_true h6]
    simp only [Qe,cond_false]
    rw [hl0] at hv hl
    obtain ⟨hn,ps,hp⟩:=Vvw hv h6
    have hle:1≤(x::r).length:=by simp
    obtain ⟨z,z1,z2⟩:=Voi (x::r) hl key x.number hn x.number.toNat 0 1 rounds r ps hp (by omega) rfl hle (by rw [Vae]; omega)
    obtain ⟨y,y1,y2⟩:=Vvc (x::r) hl key x rfl hn x.number.toNat 0 1 rounds r ps hp (by omega) rfl hle (by rw [Vae]; omega)
    have z1':Zdt_L0 (x::r,key,1,x.number,0#64,())=some z:=z1
    have y1':Zbu_L0 (x::r,key,1,0#64,())=some y:=y1
    rw [z1',y1']
    simp only [bindS]
    have q:=Vvd key _ _ _ _ hp
    refine ⟨(lkP key ps).1,(lkP key ps).2,z2,y2,?_,fun y hy=>Qae _ (q.2.1 y hy),q.2.2.1,q.2.2.2⟩
    have:=q.1
    rw [Qa]; omega
   ·rw [show decide (x.kind=6)=false from decide_eq_false h6]
    exact ⟨[],false,rfl,rfl,by simp,(fun y hy=>absurd hy Qo),(fun h=>absurd h (by decide)),(fun _=>rfl)⟩
 ·rw [show decide (valO l=0)=false from decide_eq_false hv]
  exact ⟨[],false,rfl,rfl,by simp,(fun y hy=>absurd hy Qo),(fun h=>absurd h (by decide)),(fun _=>rfl)⟩
structure Lt (l:List ApiItem):Prop where
 n:l.length < 5000
 d:∀ x∈l,x.data.length < 100000
def itm (l:List ApiItem) (k:Nat):ApiItem:=match Zbd l (Qc 64 k) with
 | some (_,x,_)=>x
 | none=>zI
theorem Vcy {l:List ApiItem} (h:Lt l) (k:Nat):Zbd l (Qc 64 k)=some ((),itm l k,())∧(∃ b,Zcp l (k:Int)=some ((),(itm l k).number,(itm l k).data,b,()))∧(itm l k).data.length < 100000:=by
 obtain ⟨v,b,e1,e2,e3,e4,e5,e6⟩:=Look2 l (Qc 64 k) (by have:=h.n; omega) h.d
 unfold itm Zbd Zcp
 rw [Qn,e1,e2]
 simp only [bindS]
 cases b
 ·exact ⟨rfl,⟨false,rfl⟩,by show 0 < 100000; omega⟩
 ·have:=e5 rfl
  cases v with
  | nil=>exact absurd rfl this
  | cons x r=>
   simp only [Qe,cond_false]
   rw [decide_eq_false (show ¬ ((x::r).length:Int)=0 by rw [Qa]; omega),decide_eq_true (show (0:Int) < ((x::r).length:Int) by rw [Qa]; omega)]
   exact ⟨rfl,⟨true,rfl⟩,h.d x (e4 x (by simp))⟩
theorem pB {l:List ApiItem} (h:Lt l) (k:Nat):Zau l (Qc 64 k)=some ((),(itm l k).data,()):=by
 unfold Zau; rw [(Vcy h k).1]; rfl
theorem pT {l:List ApiItem} (h:Lt l) (k:Nat):Zbf l (Qc 64 k)=some ((),(itm l k).data,()):=by
 unfold Zbf; rw [(Vcy h k).1]; rfl
theorem pN {l:List ApiItem} (h:Lt l) (k:Nat):Zas l (Qc 64 k)=some ((),Qp .i64 ((itm l k).number.toNat:Int),()):=by
 unfold Zas; rw [(Vcy h k).1]; rfl
theorem pW {l:List ApiItem} (h:Lt l) (k:Nat):Zbg l (Qc 64 k)=some ((),(itm l k).number,()):=by
 unfold Zbg; rw [(Vcy h k).1]; rfl
theorem pF {l:List ApiItem} (h:Lt l) (k:Nat):Zbc l (Qc 64 k)=some ((),decide ((itm l k).number=1#64),()):=by
 unfold Zbc; rw [(Vcy h k).1]; rfl
theorem Vmw {l:List ApiItem} (h:Lt l) (k:Nat):∃ os,Zal l (Qc 64 k)=some ((),os,())∧os.length≤l.length∧∀ o∈os,o≠[]∧Lt o:=by
 obtain ⟨v,b,e1,e2,e3,e4,e5,e6⟩:=Look2 l (Qc 64 k) (by have:=h.n; omega) h.d
 have hn:=h.n
 unfold Zal
 rw [e1]
 simp only [bindS]
 cases b
 ·exact ⟨[],rfl,by simp,fun o ho=>absurd ho Qo⟩
 simp only [Qe,cond_false]
 have hv:=List.length_pos_iff.2 (e5 rfl)
 have q:Ok (Zal_L0 (v,[],(1:Int),())) fun z=>z.1.length≤l.length∧∀ o∈z.1,o≠[]∧Lt o:=by
  unfold Zal_L0
  refine Ok.iter (fun y=>y.1=v∧(∃ n:Nat,y.2.2.1=(n:Int)∧1≤n∧n≤v.length∧y.2.1.length+1≤n)∧∀ o∈y.2.1,o≠[]∧Lt o) (fun y=>v.length - y.2.2.1.toNat) ⟨rfl,⟨1,rfl,by omega,by omega,by simp⟩,fun o ho=>absurd ho Qo⟩ (by rw [Vae]; omega) ?_
  rintro ⟨v1,os,at0,u⟩ ⟨rfl,⟨n,h1,h2,h3,h4⟩,h5⟩
  dsimp only at *
  subst h1
  unfold Zal_L0b
  refine Ok.cond (fun hc=>?_) (fun hc=>Ok.some ⟨by dsimp only; omega,h5⟩)
  rw [Vm7 v1 _ (by omega)]
  simp only [bindS]
  refine Ok.cond (fun _=>Ok.some ⟨by dsimp only; omega,h5⟩) (fun _=>?_)
  refine Ok.cond (fun _=>Ok.some ⟨by dsimp only; omega,h5⟩) (fun c2=>?_)
  refine Ok.cond (fun _=>Ok.some ⟨by dsimp only; omega,h5⟩) (fun c3=>?_)
  have c2:=of_decide_eq_false c2
  have c3:=of_decide_eq_false c3
  obtain ⟨m,hm⟩:∃ m:Nat,(skO v1 (n:Int)).1=(m:Int):=⟨(skO v1 (n:Int)).1.toNat,by omega⟩
  rw [hm] at c2 c3 ⊢
  rw [decide_eq_true (show (0:Int)≤(m:Int) by omega),decide_eq_true (show (m:Int)≤(v1.length:Int) by omega),Qf,decide_eq_true (show (0:Int)≤(n:Int) by omega),decide_eq_true (show (n:Int)≤(m:Int) by omega),Qf]
  simp only [Q0,cond_true]
  rw [Vdw (by rw [Qj]; omega)]
  simp only [cond_true]
  have hl2:(Qbd n (List.take m v1)).length=m - n:=by rw [Qag,Qz]; omega
  refine Ok.some ⟨⟨rfl,⟨m,rfl,by omega,by omega,by rw [Qd,Qj]; omega⟩,?_⟩,by simp only [Qf]; omega⟩
  intro o ho
  rcases List.mem_append.1 ho with ho | ho
  ·exact h5 o ho
  ·rw [Qaj] at ho
   subst ho
   refine ⟨by apply List.length_pos_iff.1; omega,by omega,fun x hx=>h.d x (e4 x ?_)⟩
   exact List.mem_of_mem_take (List.mem_of_mem_drop hx)
 obtain ⟨⟨os,u⟩,q1,q2,q3⟩:=q
 exact ⟨os,by rw [q1]; rfl,q2,q3⟩
theorem Viy {σ β τ:Type} {f:σ→Option (σ⊕β)} (n0:Nat) (mk:Nat→τ→σ) (out:τ→β) (P:Nat→τ→Prop) (hn:n0 < 9000000000000000000) (t0:τ) (h0:P 0 t0)
  (h:∀ i t,i < n0→P i t→∃ t',f (mk i t)=some (.inl (mk (i+1) t'))∧P (i+1) t')
  (he:∀ t,P n0 t→f (mk n0 t)=some (.inr (out t))):∃ t',P n0 t'∧iter f rounds (mk 0 t0)=some (out t'):=by
 have go:∀ (k n j:Nat) (t:τ),P j t→j+k=n0→k < n→∃ t',P n0 t'∧iter f n (mk j t)=some (out t'):=by
  intro k
  induction k with
  | zero=>
   intro n j t hp hj hn
   obtain ⟨n,rfl⟩:∃ g,n=g+1:=⟨n - 1,by omega⟩
   have:j=n0:=by omega
   subst this
   exact ⟨t,hp,by rw [Vad,he t hp]; rfl⟩
  | succ k ih=>
   intro n j t hp hj hn
   obtain ⟨n,rfl⟩:∃ g,n=g+1:=⟨n - 1,by omega⟩
   obtain ⟨t1,e,hp2⟩:=h j t (by omega) hp
   obtain ⟨t',h1,h2⟩:=ih n (j+1) t1 hp2 (by omega) (by omega)
   exact ⟨t',h1,by rw [Vad,e]; exact h2⟩
 exact go n0 rounds 0 t0 h0 (by omega) (by rw [Vae]; omega)
theorem Vmx {n:Nat} {m:Nat} (h:n < m):decide ((n:Int) < (m:Int))=true:=decide_eq_true (by omega)
theorem Vf2 {n:Nat} {m:Nat} (h:n < m):(decide ((0:Int)≤(n:Int))&&decide ((n:Int) < (m:Int)))=true:=by
 rw [decide_eq_true (show (0:Int)≤(n:Int) by omega),Vmx h]; rfl
theorem Vyr (n:Nat):decide ((n:Int) < (n:Int))=false:=decide_eq_false (by omega)
theorem Vxd {l:List ApiItem} (h:Lt l) (k:Nat):∃ cs,Zbe l (Qc 64 k)=some ((),cs,())∧cs.length≤l.length:=by
 obtain ⟨os,e1,e2,e3⟩:=Vmw h k
 have hn:=h.n
 unfold Zbe
 rw [e1]
 simp only [bindS]
 unfold Zbe_L0
 obtain ⟨t,h1,h2⟩:=Viy (f:=fun (y:((List (List UInt8))×(List (List ApiItem))×Int×Int×Unit))=>Zbe_L0b y.1 y.2.1 y.2.2.1 y.2.2.2.1) os.length (fun i t=>(t,os,(os.length:Int),(i:Int),())) (fun t=>(t,())) (fun i t=>t.length=i) (by omega) [] rfl
  (by
   intro i t hi ht
   have hx:=Qh hi
   obtain ⟨f1,f2⟩:=e3 _ (Qal hi)
   generalize os[i]=o at hx f1 f2
   cases o with
   | nil=>exact absurd rfl f1
   | cons x r=>
    refine ⟨t++[x.data],?_,by rw [Qd,ht]; rfl⟩
    simp only [Zbe_L0b,Vmx hi,Vf2 hi,cond_true,Qf,hx,bindS,Vam (i:=i) (by omega)]
    rw [show getI (x::r) (0:Int)=some x from rfl]
    simp only [bindS]
    rw [Vdw (by rw [Qj]; omega)]
    rfl)
  (by intro t ht; simp only [Zbe_L0b,Vyr,cond_false])
 exact ⟨t,by rw [show ((0:Int))=((0:Nat):Int) from rfl,h2]; rfl,by omega⟩
abbrev RT:=Int×(List (UInt8))×(List (UInt8))×(List (List UInt8))×Int×(List (UInt8))×(List UInt8)×(List UInt8)×Int×(BitVec 64)×(List (UInt8))×(BitVec 64)×Int×Int×Int×Bool×Bool×(List (ApiEntry))×Unit
theorem Vve {l:List ApiItem} (h:Lt l):∃ r,Zdl l=some ((),r,())∧Sane r∧r.err=0:=by
 obtain ⟨cs,c1,c2⟩:=Vxd h 3
 obtain ⟨os,o1,o2,o3⟩:=Vmw h 17
 have hn:=h.n
 have hd:=(Vcy h 7).2.2
 unfold Zdl
 rw [pB h 1,pB h 2,c1,pN h 4,pB h 5,pT h 6,pT h 7,pN h 8,pW h 9,pB h 10,pW h 11,pN h 12,pN h 13,pN h 14,pF h 15,pF h 16,o1]
 simp only [bindS]
 generalize Qp .i64 ((itm l 4).number.toNat:Int)=n4
 generalize Qp .i64 ((itm l 8).number.toNat:Int)=n8
 generalize Qp .i64 ((itm l 12).number.toNat:Int)=n12
 generalize Qp .i64 ((itm l 13).number.toNat:Int)=n13
 generalize Qp .i64 ((itm l 14).number.toNat:Int)=n14
 unfold Zdl_L0
 let bare:ApiReply:=⟨(0:Int),[],[],[],(0:Int),[],([]:List UInt8),([]:List UInt8),(0:Int),0#64,[],0#64,(0:Int),(0:Int),(0:Int),false,false,[]⟩
 let mk:List ApiEntry→RT:=fun t=>((0:Int),(itm l 1).data,(itm l 2).data,cs,n4,(itm l 5).data,(itm l 6).data,(itm l 7).data,n8,(itm l 9).number,(itm l 10).data,(itm l 11).number,n12,n13,n14,decide ((itm l 15).number=1#64),decide ((itm l 16).number=1#64),t,())
 obtain ⟨t,h1,h2⟩:=Viy (f:=fun (y:((ApiReply×Unit)×RT×(List (List ApiItem))×Int×Int×Unit))=>Zdl_L0b y.1 y.2.1 y.2.2.1 y.2.2.2.1 y.2.2.2.2.1) os.length (fun i t=>((bare,()),mk t,os,(os.length:Int),(i:Int),())) (fun t=>((bare,()),mk t,())) (fun i t=>t.length=i∧∀ x∈t,x.rP.length < 1000000∧x.name.length < 1000000) (by omega) [] ⟨rfl,fun x hx=>absurd hx Qo⟩
  (by
   intro i t hi ht
   have hx:=Qh hi
   obtain ⟨f1,f2⟩:=o3 _ (Qal hi)
   generalize os[i]=o at hx f1 f2
   have l1:=(Vcy f2 1).2.2
   have l3:=(Vcy f2 3).2.2
   refine ⟨t++[⟨(itm o 1).data,(itm o 2).data,(itm o 3).data,(itm o 4).data,Qp .i64 ((itm o 5).number.toNat:Int)⟩],?_,by rw [Qd,ht.1]; rfl,?_⟩
   ·simp only [Zdl_L0b,Vmx hi,Vf2 hi,cond_true,Qf,hx,bindS,Vam (i:=i) (by omega)]
    rw [pT f2 1,pT f2 2,pT f2 3,pB f2 4,pN f2 5]
    simp only [bindS]
    rw [Viw (by rw [Qj,ht.1]; omega)]
    rfl
   ·intro x hx
    rcases List.mem_append.1 hx with hx | hx
    ·exact ht.2 x hx
    ·rw [Qaj] at hx
     subst hx
     exact ⟨by dsimp only; omega,by dsimp only; omega⟩)
  (by intro t ht; simp only [Zdl_L0b,Vyr,cond_false])
 refine ⟨_,(congrArg (fun o=>Qa0 o _) h2).trans rfl,⟨by show cs.length < 1000000; omega,by show t.length < 1000000; have:=h1.1; omega,by show (itm l 7).data.length < 1000000; omega,h1.2⟩,rfl⟩
theorem Vvf {l v:List ApiItem} {b:Bool} {k:Int} (h:Zbu l (Qb 64 k)=some ((),v,b,())) (hv:v.length < 5000):Zbh l k=some ((),(v.drop 1).map (·.data),()):=by
 unfold Zbh
 rw [h]
 simp only [bindS]
 unfold Zbh_L0
 have hd:(v.drop 1).length=v.length - 1:=Qag
 obtain ⟨t,h1,h2⟩:=Viy (f:=fun (y:((List (ApiItem))×(List (List UInt8))×Int×Unit))=>Zbh_L0b y.1 y.2.1 y.2.2.1) (v.drop 1).length (fun i t=>(v,t,((1+i:Nat):Int),())) (fun t=>(t,())) (fun i t=>t=((v.drop 1).take i).map (·.data)) (by omega) [] rfl
  (by
   intro i t hi ht
   have hi2:1+i < v.length:=by omega
   have hx:=Qh hi
   have hx2:v[1+i]? = some (v.drop 1)[i]:=by rw [← List.getElem?_drop]; exact hx
   generalize (v.drop 1)[i]=x at hx hx2
   refine ⟨t++[x.data],?_,by rw [ht,Qv,hx,Qaz]; rfl⟩
   simp only [Zbh_L0b,Vmx hi2,Vf2 hi2,cond_true,Qf,hx2,bindS,Vam (i:=1+i) (by omega)]
   rw [Vdw (by rw [Qj,ht,Qr,Qz]; omega)]
   rw [show 1+i+1=1+(i+1) by omega]
   rfl)
  (by
   intro t ht
   simp only [Zbh_L0b]
   rw [decide_eq_false (show ¬ ((1+(v.drop 1).length:Nat):Int) < (v.length:Int) by omega)]
   rfl)
 have h3:iter (fun (y:((List (ApiItem))×(List (List UInt8))×Int×Unit))=>Zbh_L0b y.1 y.2.1 y.2.2.1) rounds (v,[],1,())=some (t,()):=h2
 rw [h3,h1,Qaf]
 rfl
def smO (n:BitVec 64):Int:=Qp .i64 ((bif decide ((1048576#64).toNat < n.toNat) then 1048576#64 else n).toNat:Int)
theorem Vys (n:BitVec 64):Zbr n=some ((),smO n,()):=rfl
theorem Vyt {n:Int} (h:sm n):smO (Qb 64 n)=n:=by
 obtain ⟨k,rfl⟩:∃ k:Nat,n=(k:Int):=⟨n.toNat,by have:=h.1; omega⟩
 have h2:=h.2
 unfold smO
 have e:(Qb 64 (k:Int)).toNat=k:=by rw [Qn,Qt,Q3 (by omega)]
 rw [e,show (1048576#64).toNat=1048576 from rfl,decide_eq_false (show ¬ 1048576 < k by omega)]
 simp only [cond_false]
 rw [e,Vac (by omega) (by omega)]
def enE (v:List ApiItem) (j:Nat):ApiEntry:=⟨(v.getD (1+11 * j+2) zI).data,(v.getD (1+11 * j+4) zI).data,(v.getD (1+11 * j+6) zI).data,(v.getD (1+11 * j+8) zI).data,smO (v.getD (1+11 * j+10) zI).number⟩
theorem Vgn {v:List ApiItem} {i:Nat} (h:i < v.length):v[i]? = some (v.getD i zI):=by
 rw [Qh h,Ql,Qh h]; rfl
theorem Vdy {i k:Nat} (h:i+k < 9000000000000000000):Qp .i64 ((i:Int)+(k:Int))=((i+k:Nat):Int):=by
 rw [Vac (by omega) (by omega)]; omega
theorem Vqp {l v:List ApiItem} {b:Bool} (h:Zbu l 17#64=some ((),v,b,())) (hv:v.length < 5000):Zay l=some ((),(Qu ((v.length - 1) / 11)).map (enE v),()):=by
 unfold Zay
 rw [h]
 simp only [bindS]
 unfold Zay_L0
 obtain ⟨t,h1,h2⟩:=Viy (f:=fun (y:((List (ApiItem))×(List (ApiEntry))×Int×Unit))=>Zay_L0b y.1 y.2.1 y.2.2.1) ((v.length - 1) / 11) (fun i t=>(v,t,((1+11 * i:Nat):Int),())) (fun t=>(t,())) (fun i t=>t=(Qu i).map (enE v)) (by omega) [] rfl
  (by
   intro i t hi ht
   have hi2:1+11 * i+11≤v.length:=by omega
   refine ⟨t++[enE v i],?_,by rw [ht,Qbr,Qaz]; rfl⟩
   simp only [Zay_L0b]
   rw [show (11:Int)=((11:Nat):Int) from rfl,show (2:Int)=((2:Nat):Int) from rfl,show (4:Int)=((4:Nat):Int) from rfl,show (6:Int)=((6:Nat):Int) from rfl,show (8:Int)=((8:Nat):Int) from rfl,show (10:Int)=((10:Nat):Int) from rfl,
    Vdy (by omega),Vdy (by omega),Vdy (by omega),Vdy (by omega),Vdy (by omega),Vdy (by omega),
    decide_eq_true (show ((1+11 * i+11:Nat):Int)≤(v.length:Int) by omega),
    Vf2 (n:=1+11 * i+2) (m:=v.length) (by omega),Vf2 (n:=1+11 * i+4) (m:=v.length) (by omega),Vf2 (n:=1+11 * i+6) (m:=v.length) (by omega),Vf2 (n:=1+11 * i+8) (m:=v.length) (by omega),Vf2 (n:=1+11 * i+10) (m:=v.length) (by omega)]
   simp only [cond_true,Qf]
   rw [Vgn (i:=1+11 * i+2) (by omega),Vgn (i:=1+11 * i+4) (by omega),Vgn (i:=1+11 * i+6) (by omega),Vgn (i:=1+11 * i+8) (by omega),Vgn (i:=1+11 * i+10) (by omega)]
   simp only [bindS,Vys]
   rw [Viw (by rw [Qj,ht,Qr,Qar]; omega)]
   rw [show 1+11 * i+11=1+11 * (i+1) by omega]
   rfl)
  (by
   intro t ht
   simp only [Zay_L0b]
   rw [show (11:Int)=((11:Nat):Int) from rfl,Vdy (by omega),decide_eq_false (show ¬ ((1+11 * ((v.length - 1) / 11)+11:Nat):Int)≤(v.length:Int) by omega)]
   rfl)
 have h3:iter (fun (y:((List (ApiItem))×(List (ApiEntry))×Int×Unit))=>Zay_L0b y.1 y.2.1 y.2.2.1) rounds (v,[],1,())=some (t,()):=h2
 rw [h3,h1]
 rfl
def rdO (l:List ApiItem) (v w:List ApiItem):ApiReply:=⟨(0:Int),(itm l 1).data,(itm l 2).data,(v.drop 1).map (·.data),smO (itm l 4).number,(itm l 5).data,(itm l 6).data,(itm l 7).data,smO (itm l 8).number,(itm l 9).number,(itm l 10).data,(itm l 11).number,smO (itm l 12).number,smO (itm l 13).number,smO (itm l 14).number,decide ((itm l 15).number=1#64),decide ((itm l 16).number=1#64),(Qu ((w.length - 1) / 11)).map (enE w)⟩
theorem Vvg {w:List ApiItem} (h:∀ x∈w,x.data.length < 100000) (j:Nat):(enE w j).rP.length < 1000000∧(enE w j).name.length < 1000000:=by
 have g:∀ i,(w.getD i zI).data.length < 1000000:=fun i=>by
  by_cases hi:i < w.length
  ·have:=h _ (Qq (Vgn hi))
   omega
  ·rw [Ql,Qab (by omega)]
   show ([]:List UInt8).length < 1000000
   decide
 exact ⟨g _,g _⟩
theorem Vxe {l v w:List ApiItem} (h:Lt l) (hv:v.length≤l.length) (hw:w.length≤l.length) (hw2:∀ x∈w,x∈l):Sane (rdO l v w):=by
 have hn:=h.n
 refine ⟨?_,?_,?_,?_⟩
 ·show ((v.drop 1).map (·.data)).length < 1000000
  rw [Qr,Qag]; omega
 ·show ((Qu ((w.length - 1) / 11)).map (enE w)).length < 1000000
  rw [Qr,Qar]; omega
 ·have:=(Vcy h 7).2.2
  show (itm l 7).data.length < 1000000
  omega
 ·intro x hx
  obtain ⟨j,_,rfl⟩:=List.mem_map.1 hx
  exact Vvg (fun x hx=>h.d x (hw2 x hx)) j
theorem Vefa (a0:List UInt8) {l:List ApiItem} (h:Lt l) (z:ApiReply) {n0:List (BitVec 64)} {s0:List (List UInt8)} (hn0:n0.length=18) (hs0:s0.length=18):∃ n s,Zah_L1 (a0,(z,()),l,n0,s0,(1:Int),())=some (a0,(z,()),l,n,s,())∧∀ k,1≤k→k≤17→n[k]? = some (itm l k).number∧s[k]? = some (itm l k).data:=by
 unfold Zah_L1
 obtain ⟨t,h1,h2⟩:=Viy (f:=fun (y:((List (UInt8))×(ApiReply×Unit)×(List (ApiItem))×(List (BitVec 64))×(List (List UInt8))×Int×Unit))=>Zah_L1b y.1 y.2.1 y.2.2.1 y.2.2.2.1 y.2.2.2.2.1 y.2.2.2.2.2.1) 17
  (fun i (t:List (BitVec 64)×List (List UInt8))=>(a0,(z,()),l,t.1,t.2,((1+i:Nat):Int),())) (fun t=>(a0,(z,()),l,t.1,t.2,()))
  (fun i t=>t.1.length=18∧t.2.length=18∧∀ k,1≤k→k≤i→t.1[k]? = some (itm l k).number∧t.2[k]? = some (itm l k).data) (by omega) (n0,s0) ⟨hn0,hs0,fun k h1 h2=>by omega⟩
  (by
   rintro i ⟨n,s⟩ hi ⟨h1,h2,h3⟩
   dsimp only at *
   obtain ⟨b,hb⟩:=(Vcy h (1+i)).2.1
   refine ⟨(n.set (1+i) (itm l (1+i)).number,s.set (1+i) (itm l (1+i)).data),?_,by simp only [Qa6]; exact h1,by simp only [Qa6]; exact h2,?_⟩
   ·simp only [Zah_L1b]
    rw [show (18:Int)=((18:Nat):Int) from rfl,Vmx (n:=1+i) (m:=18) (by omega),decide_eq_true (show (0:Int)≤((1+i:Nat):Int) by omega),hb]
    simp only [cond_true,bindS,Qf,Q0]
    rw [Qh (show 1+i < n.length by omega),Qh (show 1+i < s.length by omega)]
    simp only [bindS]
    rw [Vam (i:=1+i) (by omega),show 1+i+1=1+(i+1) by omega]
   ·intro k k1 k2
    dsimp only
    rw [Qbm,Qbm]
    by_cases hk:1+i=k
    ·subst hk
     rw [if_pos rfl,if_pos rfl,if_pos (by omega),if_pos (by omega)]
     exact ⟨rfl,rfl⟩
    ·rw [if_neg hk,if_neg hk]
     exact h3 k k1 (by omega))
  (by rintro ⟨n,s⟩ _; rfl)
 exact ⟨t.1,t.2,h2,h1.2.2⟩
abbrev bareX:ApiReply:=bareR 0
def rTail (a0:List UInt8):Option ((Unit) × (ApiReply × Int × Unit)):=((Zbs (Qbd 1 a0)).bind fun r5=>(bif (!decide (r5.2.2.2.1=(0:Int))) then (some ((),(bareX,r5.2.2.2.1,())))
 else ((Zah_L1 (a0,(bareX,()),r5.2.1,([0#64,0#64,0#64,0#64,0#64,0#64,0#64,0#64,0#64,0#64,0#64,0#64,0#64,0#64,0#64,0#64,0#64,0#64]:List (BitVec 64)),([([]:List UInt8),([]:List UInt8),([]:List UInt8),([]:List UInt8),([]:List UInt8),([]:List UInt8),([]:List UInt8),([]:List UInt8),([]:List UInt8),([]:List UInt8),([]:List UInt8),([]:List UInt8),([]:List UInt8),([]:List UInt8),([]:List UInt8),([]:List UInt8),([]:List UInt8),([]:List UInt8)]:List (List UInt8)),(1:Int),())).bind (fun (z9:((List (UInt8)) × (ApiReply × Unit) × (List (ApiItem)) × (List (BitVec 64)) × (List (List UInt8)) × Unit))=>(((z9.2.2.2.2.1)[1]?).bind fun x10=>(((z9.2.2.2.2.1)[2]?).bind fun x11=>((Zbh z9.2.2.1 (3:Int)).bind fun r12=>(((z9.2.2.2.1)[4]?).bind fun x13=>((Zbr x13).bind fun r14=>(((z9.2.2.2.2.1)[5]?).bind fun x15=>(((z9.2.2.2.2.1)[6]?).bind fun x16=>(((z9.2.2.2.2.1)[7]?).bind fun x17=>(((z9.2.2.2.1)[8]?).bind fun x18=>((Zbr x18).bind fun r19=>(((z9.2.2.2.1)[9]?).bind fun x20=>(((z9.2.2.2.2.1)[10]?).bind fun x21=>(((z9.2.2.2.1)[11]?).bind fun x22=>(((z9.2.2.2.1)[12]?).bind fun x23=>((Zbr x23).bind fun r24=>(((z9.2.2.2.1)[13]?).bind fun x25=>((Zbr x25).bind fun r26=>(((z9.2.2.2.1)[14]?).bind fun x27=>((Zbr x27).bind fun r28=>(((z9.2.2.2.1)[15]?).bind fun x29=>(((z9.2.2.2.1)[16]?).bind fun x30=>((Zay z9.2.2.1).bind fun r31=>((Zai (⟨(0:Int),x10,x11,r12.2.1,r14.2.1,x15,x16,x17,r19.2.1,x20,x21,x22,r24.2.1,r26.2.1,r28.2.1,(decide (x29=1#64)),(decide (x30=1#64)),r31.2.1⟩:ApiReply)).bind fun r32=>(bif (!decide (r32.2.2.1=(0:Int))) then (some ((),(bareX,(2:Int),())))
 else (bif (!decide (r32.2.1=z9.1)) then (some ((),(bareX,(2:Int),())))
 else (some ((),((⟨(0:Int),x10,x11,r12.2.1,r14.2.1,x15,x16,x17,r19.2.1,x20,x21,x22,r24.2.1,r26.2.1,r28.2.1,(decide (x29=1#64)),(decide (x30=1#64)),r31.2.1⟩:ApiReply),(0:Int),()))))))))))))))))))))))))))))))))
def finO (b:List UInt8) (r:ApiReply):ApiReply×Int:=bif !decide ((repO r).2=0) then (bareR 0,2) else bif !decide ((repO r).1=b) then (bareR 0,2) else (r,0)
theorem Vyu {b:List UInt8} (h:(decO b).2.2=0):Lt (decO b).1:=by
 have hv:=(Vrb h).1
 refine ⟨?_,fun x hx=>?_⟩
 ·by_cases hl:512 < (decO b).1.length
  ·exact absurd hv (Voj hl)
  ·omega
 ·have:=((Vdc hv).2 x hx).2; omega
theorem Vbi {q:ApiReply} (h:GoodR q) (hL:Lt (repI q)) (k:Nat) (h1:1≤k) (hk:k≤17):itm (repI q) k=itO (useR q) (valsR q) k:=by
 have e:=(Vcy hL k).1
 have e2:Zbd (repI q) (Qc 64 k)=some ((),itO (useR q) (valsR q) k,()):=Vgm (Vjw h) k h1 hk
 rw [e2] at e
 exact (congrArg (fun z:Unit×(ApiItem×Unit)=>z.2.1) (Qad e)).symm
theorem rsel {n:Int} (h:sm n):smO (bif !decide (n=(0:Int)) then (⟨1,Qb 64 n,[]⟩:ApiItem) else zI).number=n:=by
 by_cases h0:n=0
 ·subst h0; rfl
 ·rw [decide_eq_false h0]
  exact Vyt h
theorem Vjy:∀ l:List (List UInt8),((l.map bytesI).flatten).map (·.data)=l
 | []=>rfl
 | b::l=>by
  have e:(b::l).map bytesI=bytesI b::l.map bytesI:=rfl
  rw [e,Qs,Qaz,Vjy l]; rfl
theorem Vyv:∀ (es:List ApiEntry) (j m:Nat) (x:ApiEntry),es[j]? = some x→m < 11→((es.map entI).flatten)[11 * j+m]? = (entI x)[m]?
 | [],j,m,x,h,_=>by simp at h
 | e::es,j,m,x,h,hm=>by
  have e1:(e::es).map entI=entI e::es.map entI:=rfl
  rw [e1,Qs]
  cases j with
  | zero=>
   have hx:e=x:=by simpa using h
   subst hx
   rw [List.getElem?_append_left (by rw [Vb5]; omega)]
   congr 1; omega
  | succ j=>
   rw [List.getElem?_append_right (by rw [Vb5]; omega),Vb5,show 11 * (j+1)+m - 11=11 * j+m by omega]
   exact Vyv es j m x (by simpa using h) hm
theorem Viz {es:List ApiEntry} {j m:Nat} {x:ApiEntry} (h:es[j]? = some x) (hm:m < 11):(entsI es).getD (1+11 * j+m) zI=(entI x).getD m zI:=by
 have e:(entsI es)[1+11 * j+m]? = (entI x)[m]?:=by
  rw [← Vyv es j m x h hm]
  unfold entsI arrI
  rw [show 1+11 * j+m=(11 * j+m)+1 by omega,Qbc]
 rw [Ql,Ql,e]
theorem Vvh {es:List ApiEntry} (h:∀ x∈es,sm x.left):(Qu (((entsI es).length - 1) / 11)).map (enE (entsI es))=es:=by
 rw [Vem,show (1+11 * es.length - 1) / 11=es.length by omega]
 apply List.ext_getElem?
 intro j
 by_cases hj:j < es.length
 ·have hx:=Qh hj
  have hs:=h _ (Qal hj)
  generalize es[j]=x at hx hs
  rw [hx,Qa3,Qbk hj]
  simp only [Qa4]
  congr 1
  unfold enE
  rw [Viz hx (by omega),Viz hx (by omega),Viz hx (by omega),Viz hx (by omega),Viz hx (by omega)]
  have e5:smO ((entI x).getD 10 zI).number=x.left:=Vyt hs
  rw [e5]
  rfl
 ·rw [Qab (by rw [Qr,Qar]; omega),Qab (by omega)]
theorem Vmy {l v:List ApiItem} (h:Lt l) {key:BitVec 64} {b:Bool} {w:List ApiItem} {c:Bool} (h1:Zdt l key=some ((),v,b,())) (h2:Zbu l key=some ((),w,c,())):w=v:=by
 obtain ⟨x,y,e1,e2,_⟩:=Look2 l key (by have:=h.n; omega) h.d
 rw [h1] at e1
 rw [h2] at e2
 have a1:=congrArg (fun z:Unit×(List ApiItem×Bool×Unit)=>z.2.1) (Qad e1)
 have a2:=congrArg (fun z:Unit×(List ApiItem×Bool×Unit)=>z.2.1) (Qad e2)
 exact a2.trans a1.symm
theorem Vxf {q:ApiReply} (h:GoodR q) (he:q.err=0) (hL:Lt (repI q)) {v w:List ApiItem} {b c:Bool} (h3:Zbu (repI q) 3#64=some ((),v,b,())) (h17:Zbu (repI q) 17#64=some ((),w,c,())):rdO (repI q) v w=q:=by
 have ev:=Vmy hL (look_ok (Vjw h) 3 (by omega) (by omega)) h3
 have ew:=Vmy hL (look_ok (Vjw h) 17 (by omega) (by omega)) h17
 have ev2:v=bif decide ((0:Int) < (q.certificates.length:Int)) then certI q.certificates else []:=ev
 have ew2:w=bif decide ((0:Int) < (q.entries.length:Int)) then entsI q.entries else []:=ew
 have f1:(itm (repI q) 1).data=q.authData:=(congrArg (·.data) (Vbi h hL 1 (by omega) (by omega))).trans (bsel q.authData 3)
 have f2:(itm (repI q) 2).data=q.signature:=(congrArg (·.data) (Vbi h hL 2 (by omega) (by omega))).trans (bsel q.signature 3)
 have f4:smO (itm (repI q) 4).number=q.format:=(congrArg (fun x:ApiItem=>smO x.number) (Vbi h hL 4 (by omega) (by omega))).trans (rsel h.num.format)
 have f5:(itm (repI q) 5).data=q.iD:=(congrArg (·.data) (Vbi h hL 5 (by omega) (by omega))).trans (bsel q.iD 3)
 have f6:(itm (repI q) 6).data=q.user:=(congrArg (·.data) (Vbi h hL 6 (by omega) (by omega))).trans (tsel q.user 3)
 have f7:(itm (repI q) 7).data=q.name:=(congrArg (·.data) (Vbi h hL 7 (by omega) (by omega))).trans (tsel q.name 4)
 have f8:smO (itm (repI q) 8).number=q.count:=(congrArg (fun x:ApiItem=>smO x.number) (Vbi h hL 8 (by omega) (by omega))).trans (rsel h.num.count)
 have f9:(itm (repI q) 9).number=q.peer:=(congrArg (·.number) (Vbi h hL 9 (by omega) (by omega))).trans (psel q.peer)
 have f10:(itm (repI q) 10).data=q.box:=(congrArg (·.data) (Vbi h hL 10 (by omega) (by omega))).trans (bsel q.box 3)
 have f11:(itm (repI q) 11).number=q.model:=(congrArg (·.number) (Vbi h hL 11 (by omega) (by omega))).trans (psel q.model)
 have f12:smO (itm (repI q) 12).number=q.retries:=(congrArg (fun x:ApiItem=>smO x.number) (Vbi h hL 12 (by omega) (by omega))).trans (rsel h.num.retries)
 have f13:smO (itm (repI q) 13).number=q.rooms:=(congrArg (fun x:ApiItem=>smO x.number) (Vbi h hL 13 (by omega) (by omega))).trans (rsel h.num.rooms)
 have f14:smO (itm (repI q) 14).number=q.leases:=(congrArg (fun x:ApiItem=>smO x.number) (Vbi h hL 14 (by omega) (by omega))).trans (rsel h.num.leases)
 have f15:decide ((itm (repI q) 15).number=1#64)=q.pinSet:=(congrArg (fun x:ApiItem=>decide (x.number=1#64)) (Vbi h hL 15 (by omega) (by omega))).trans (fsel q.pinSet)
 have f16:decide ((itm (repI q) 16).number=1#64)=q.finger:=(congrArg (fun x:ApiItem=>decide (x.number=1#64)) (Vbi h hL 16 (by omega) (by omega))).trans (fsel q.finger)
 have fc:(v.drop 1).map (·.data)=q.certificates:=by
  rw [ev2]
  cases hc:decide ((0:Int) < (q.certificates.length:Int))
  ·have:q.certificates=[]:=List.length_eq_zero_iff.1 (by have:=of_decide_eq_false hc; omega)
   rw [this]; rfl
  ·exact Vjy q.certificates
 have fe:(Qu ((w.length - 1) / 11)).map (enE w)=q.entries:=by
  rw [ew2]
  cases hc:decide ((0:Int) < (q.entries.length:Int))
  ·have:q.entries=[]:=List.length_eq_zero_iff.1 (by have:=of_decide_eq_false hc; omega)
   rw [this]; rfl
  ·exact Vvh fun x hx=>(h.x x hx).l
 unfold rdO
 rw [f1,f2,f4,f5,f6,f7,f8,f9,f10,f11,f12,f13,f14,f15,f16,fc,fe,← he]
theorem Vxg {b:List UInt8} (hb:b.length≤4096):((decO (b.drop 1)).2.2≠0→rTail b=some ((),bareR 0,(decO (b.drop 1)).2.2,()))∧((decO (b.drop 1)).2.2=0→∃ r,Sane r∧r.err=0∧rTail b=some ((),(finO b r).1,(finO b r).2,())∧∀ q,GoodR q→q.err=0→(decO (b.drop 1)).1=repI q→r=q):=by
 unfold rTail
 rw [Vpv _ (by rw [Qag]; omega)]
 simp only [bindS]
 refine ⟨fun h=>by rw [decide_eq_false h]; rfl,fun h=>?_⟩
 have hL:=Vyu h
 rw [decide_eq_true h]
 simp only [Qe,cond_false]
 generalize (decO (b.drop 1)).1=l at hL
 obtain ⟨v,bv,v1,v2,v3,v4,_⟩:=Look2 l 3#64 (by have:=hL.n; omega) hL.d
 obtain ⟨w,bw,w1,w2,w3,w4,_⟩:=Look2 l 17#64 (by have:=hL.n; omega) hL.d
 have hS:=Vxe hL v3 w3 w4
 have hn:=hL.n
 obtain ⟨n,s,e1,e2⟩:=Vefa b hL bareX (n0:=([0#64,0#64,0#64,0#64,0#64,0#64,0#64,0#64,0#64,0#64,0#64,0#64,0#64,0#64,0#64,0#64,0#64,0#64]:List (BitVec 64))) (s0:=([([]:List UInt8),([]:List UInt8),([]:List UInt8),([]:List UInt8),([]:List UInt8),([]:List UInt8),([]:List UInt8),([]:List UInt8),([]:List UInt8),([]:List UInt8),([]:List UInt8),([]:List UInt8),([]:List UInt8),([]:List UInt8),([]:List UInt8),([]:List UInt8),([]:List UInt8),([]:List UInt8)]:List (List UInt8))) rfl rfl
 refine ⟨rdO l v w,hS,rfl,?_,?_⟩
 ·have hE:=Ven _ hS
  unfold rdO at hE ⊢
  rw [e1]
  simp only [bindS]
  rw [(e2 1 (by omega) (by omega)).2,(e2 2 (by omega) (by omega)).2,(e2 4 (by omega) (by omega)).1,(e2 5 (by omega) (by omega)).2,(e2 6 (by omega) (by omega)).2,(e2 7 (by omega) (by omega)).2,(e2 8 (by omega) (by omega)).1,(e2 9 (by omega) (by omega)).1,(e2 10 (by omega) (by omega)).2,(e2 11 (by omega) (by omega)).1,(e2 12 (by omega) (by omega)).1,(e2 13 (by omega) (by omega)).1,(e2 14 (by omega) (by omega)).1,(e2 15 (by omega) (by omega)).1,(e2 16 (by omega) (by omega)).1]
  simp only [bindS,Vys]
  rw [Vvf (k:=3) (show Zbu l (Qb 64 3)=some ((),v,bv,()) from v2) (by omega)]
  simp only [bindS]
  rw [Vqp w2 (by omega)]
  simp only [bindS]
  rw [hE]
  simp only [bindS]
  unfold finO
  generalize (repO _).2=e0
  generalize (repO _).1=b0
  cases decide (e0=0)
  ·rfl
  ·simp only [Qe,cond_false]
   cases decide (b0=b)<;>rfl
 ·intro q hg he hq
  subst hq
  exact Vxf hg he hL v2 w2
theorem Vxh {b t:List UInt8} (hb:b=0::t) {r1 r2:ApiReply} (hr1:r1.err=0) (hr2:r2.err=0) (h1:∀ q,GoodR q→q.err=0→(decO t).1=repI q→r1=q) (h2:∀ q,GoodR q→q.err=0→(decO t).1=repI q→r2=q):finO b r1=finO b r2:=by
 have key:∀ r s:ApiReply,r.err=0→(∀ q,GoodR q→q.err=0→(decO t).1=repI q→s=q)→(repO r).2=0→(repO r).1=b→s=r:=by
  intro r s hr hs h0 hbb
  obtain ⟨hv,hc⟩:=Vjx h0
  have hg:=(Vle hv).1
  rcases hc with ⟨he,_⟩ | ⟨he,e,hl⟩
  ·exact absurd hr he
  ·rw [e,hb] at hbb
   have ht:t=encA (repI r):=(List.cons.inj hbb).2.symm
   refine hs r hg he ?_
   have hd:=Vod (Vgx hg).1.enc.2 []
   rw [Qah] at hd
   rw [ht]
   unfold repI
   rw [hd]
 by_cases a1:(repO r1).2=0∧(repO r1).1=b
 ·rw [key r1 r2 hr1 h2 a1.1 a1.2]
 ·by_cases a2:(repO r2).2=0∧(repO r2).1=b
  ·rw [key r2 r1 hr2 h1 a2.1 a2.2]
  ·have no:∀ r:ApiReply,¬ ((repO r).2=0∧(repO r).1=b)→finO b r=(bareR 0,2):=by
    intro r h
    unfold finO
    by_cases h0:(repO r).2=0
    ·rw [decide_eq_true h0,decide_eq_false (fun h1=>h ⟨h0,h1⟩)]; rfl
    ·rw [decide_eq_false h0]; rfl
   rw [no r1 a1,no r2 a2]
theorem Vvi {n:Nat} (h0:n≠0) (h:n≤42):repO (bareR (n:Int))=([Qap (Qb 8 (n:Int))],0):=by
 have hv:valR (bareR (n:Int))=0:=by
  unfold valR
  have e1:errR (bareR (n:Int))=true:=by
   show (decide (0≤(n:Int))&&decide ((n:Int)≤42))=true
   rw [decide_eq_true (show 0≤(n:Int) by omega),decide_eq_true (show (n:Int)≤42 by omega)]; rfl
  have e2:numR (bareR (n:Int))=true:=rfl
  have e3:zeroR (bareR (n:Int))=true:=rfl
  rw [e1,e2,e3]
  simp only [Bool.and_self,Qe,cond_false,Bool.and_false]
  rfl
 unfold repO
 rw [decide_eq_true hv,decide_eq_false (show ¬ (bareR (n:Int)).err=0 by show ¬ (n:Int)=0; omega)]
 rfl
theorem Vvj (n:Int):Sane (bareR n):=⟨by show 0 < 1000000; omega,by show 0 < 1000000; omega,by show 0 < 1000000; omega,fun x hx=>absurd hx Qo⟩
theorem Vvk (x:UInt8):Qap (Qb 8 (x.toBitVec.toNat:Int))=x:=by
 rw [Qn,BitVec.ofNat_toNat,BitVec.setWidth_eq]
theorem Vvl (b:List UInt8) {r:ApiReply} (h:Sane r):(finO b r).1.certificates.length < 1000000∧(finO b r).1.entries.length < 1000000:=by
 unfold finO
 cases decide ((repO r).2=0)
 ·exact ⟨by show 0 < 1000000; omega,by show 0 < 1000000; omega⟩
 ·simp only [Qe,cond_false]
  cases decide ((repO r).1=b)
  ·exact ⟨by show 0 < 1000000; omega,by show 0 < 1000000; omega⟩
  ·exact ⟨h.c,h.e⟩
theorem Vn4 (b:List UInt8):∃ r e,Zba b=some ((),r,e,())∧Zah b=some ((),r,e,())∧r.certificates.length < 1000000∧r.entries.length < 1000000:=by
 have sb:∀ n,(bareR n).certificates.length < 1000000∧(bareR n).entries.length < 1000000:=fun n=>⟨by show 0 < 1000000; omega,by show 0 < 1000000; omega⟩
 unfold Zba Zah
 cases b with
 | nil=>exact ⟨_,_,rfl,rfl,sb 0⟩
 | cons x t=>
  rw [decide_eq_false (show ¬ ((x::t).length:Int)=0 by rw [Qa]; omega)]
  simp only [cond_false]
  by_cases hl:(4096:Int) < ((x::t).length:Int)
  ·rw [decide_eq_true hl]
   exact ⟨_,_,rfl,rfl,sb 0⟩
  rw [decide_eq_false hl]
  have g0:getI (x::t) (0:Int)=some x:=rfl
  simp only [cond_false,g0,bindS]
  have hx:=x.toBitVec.isLt
  have hxb:=Vvk x
  by_cases h42:(42:Int) < (x.toBitVec.toNat:Int)
  ·rw [decide_eq_true h42]
   exact ⟨_,_,rfl,rfl,sb 0⟩
  rw [decide_eq_false h42]
  simp only [cond_false]
  rw [show (0:UInt8).toBitVec.toNat=0 from rfl]
  by_cases h0:x.toBitVec.toNat=0
  ·have hx0:x=0:=by
    rw [← hxb,h0]; rfl
   rw [decide_eq_true (show ((x.toBitVec.toNat:Int))=0 by omega),decide_eq_false (show ¬ 0 < x.toBitVec.toNat by omega),decide_eq_true (show (1:Int)≤((x::t).length:Int) by rw [Qa]; omega)]
   simp only [cond_true,cond_false,Qa1,Qbu]
   have hR:=Vxg (b:=x::t) (by omega)
   rw [show (x::t).drop 1=t from rfl] at hR
   rw [Vlk t (by rw [Qa] at hl; omega)]
   simp only [bindS]
   by_cases hd:(decO t).2.2=0
   ·obtain ⟨r2,s1,s2,s3,s4⟩:=hR.2 hd
    have hL:=Vyu hd
    obtain ⟨r1,p1,p2,p3⟩:=Vve hL
    have p4:∀ q,GoodR q→q.err=0→(decO t).1=repI q→r1=q:=by
     intro q hg he hq
     have:=Vpp hg he
     rw [← hq,p1] at this
     exact congrArg (fun z:Unit×(ApiReply×Unit)=>z.2.1) (Qad this)
    have hf:=Vxh (b:=x::t) (t:=t) (by rw [hx0]) p3 s2 p4 s4
    refine ⟨(finO (x::t) r1).1,(finO (x::t) r1).2,?_,?_,Vvl _ p2⟩
    ·rw [decide_eq_true hd]
     simp only [Qe,cond_false]
     rw [p1]
     simp only [bindS,Q6]
     rw [Vda r1 p2]
     simp only [bindS]
     unfold finO
     generalize (repO r1).2=e0
     generalize (repO r1).1=b0
     cases decide (e0=0)
     ·rfl
     ·simp only [Qe,cond_false,Zdq,bindS]
      cases decide (b0=x::t)<;>rfl
    ·rw [hf,← s3]
     unfold rTail
     cases decide ((1:Int) < ((x::t).length:Int))<;>rfl
   ·refine ⟨bareR 0,(decO t).2.2,?_,?_,sb 0⟩
    ·rw [decide_eq_false hd]; rfl
    ·rw [← hR.1 hd]
     unfold rTail
     cases decide ((1:Int) < ((x::t).length:Int))<;>rfl
  ·rw [decide_eq_false (show ¬ ((x.toBitVec.toNat:Int))=0 by omega),decide_eq_true (show 0 < x.toBitVec.toNat by omega)]
   simp only [cond_true,cond_false,bindS,Q6]
   have hE:=Vda (bareR (x.toBitVec.toNat:Int)) (Vvj _)
   rw [Vvi h0 (by omega),hxb] at hE
   unfold bareR at hE
   rw [hE]
   simp only [bindS,decide_true,Qe,cond_false,Zdq]
   cases t with
   | nil=>
    rw [decide_eq_true (show ([x]:List UInt8)=[x] from rfl),decide_eq_false (show ¬ (1:Int) < (([x]:List UInt8).length:Int) by rw [Qj]; omega)]
    exact ⟨_,_,rfl,rfl,sb _⟩
   | cons y t=>
    rw [decide_eq_false (show ¬ ([x]:List UInt8)=x::y::t by intro h; cases h),decide_eq_true (show (1:Int) < ((x::y::t).length:Int) by rw [Qa,Qa]; omega)]
    exact ⟨_,_,rfl,rfl,sb 0⟩
theorem Vez (b:List UInt8):Zaw b=some ((),true,()):=by
 obtain ⟨r,e,h1,h2,h3,h4⟩:=Vn4 b
 unfold Zaw
 rw [h1,h2]
 simp only [bindS,decide_true,cond_true]
 rw [Vel _ _ h3 h4]
 simp only [bindS,decide_true]
theorem Vxi (r:ApiReply):(repO r).1.length≤4096:=by
 unfold repO
 cases decide (valR r=0)
 ·show 0≤4096; omega
 cases decide (r.err=0)
 ·show 1≤4096; omega
 simp only [Qe,cond_false]
 by_cases h:(4096:Int) < ((0::encA (repI r)).length:Int)
 ·rw [decide_eq_true h]; show 0≤4096; omega
 ·rw [decide_eq_false h]; simp only [cond_false]; omega
theorem Ve3 (a0:List UInt8) (a1 a2 a3:Int) (a4:UInt8) (hd:MessageAnswers_dom a0 a1 a2 a3 a4):Ok (Zae a0 a1 a2 a3 a4) fun r=>r.2.1=true:=by
 unfold Zae
 have aw:Ok ((Zbp).bind fun r1=>(some ((),(r1.2.1,())):Option (Unit×(Bool×Unit)))) fun r=>r.2.1=true:=by rw [Veea]; exact ⟨_,rfl,rfl⟩
 refine Ok.cond (fun _=>aw) (fun _=>?_)
 dsimp only
 refine Ok.bind (Ok.mono (Vqo _ _) ?_)
 rintro ⟨u,x,u2⟩ hx
 dsimp only at hx ⊢
 rw [Ven x hx]
 simp only [bindS]
 have hl:=Vxi x
 generalize (repO x).1=c at hl
 refine Ok.bind (Ok.mono (Q:=fun (j:(List (UInt8))×UInt8×(List (UInt8))×Unit)=>j.2.2.1.length≤4096) ?_ ?_)
 ·refine Ok.cond (fun hc=>?_) (fun _=>Ok.some hl)
  have hc:=of_decide_eq_true hc
  obtain ⟨v,hv,ev⟩:=mask a3 65535 (by omega)
  rw [show ((65535:Nat):Int)=(65535:Int) from rfl] at ev
  rw [ev,decide_eq_false (show ¬ (c.length:Int)=0 by omega)]
  have em:Int.tmod (v:Int) (c.length:Int)=((v % c.length:Nat):Int):=by
   rw [Qba (by omega)]; rfl
  have hm:=Nat.mod_lt v (show 0 < c.length by omega)
  rw [em,Vf2 hm,Qf,Qh hm]
  simp only [cond_false,cond_true,bindS]
  exact Ok.some (by dsimp only; rw [Qa6]; exact hl)
 ·rintro ⟨j1,j2,j3,u⟩ hj
  dsimp only at hj ⊢
  rw [Vez,Vez,Vez,Vez,Vcg (by rw [Qj]; omega)]
  simp only [bindS,cond_true]
  exact aw
end Go.Proofs.YthoblablopmhfaaGreatDoor

/- Out of the texts about items of the chapter on items (cbor): what this chapter needs. Written by a program. -/
import Derived.Test.YthoblablopmhfaaGreatDoorCrA
import Derived.Test.YthoblablopmhfaaGreatDoorLib8
namespace Go.Proofs.YthoblablopmhfaaGreatDoor
set_option linter.unusedVariables false
set_option linter.unusedSimpArgs false
set_option maxRecDepth 100000
open Go Go.Abs
abbrev Res (σ:Type):=Int×List ApiItem×σ
def LA {σ:Type} (rec:σ→Nat→Res σ):Nat→σ→Nat→Res σ
 | 0,s,_=>(0,[],s)
 | k+1,s,n=>bif decide ((rec s n).1=0) then ((LA rec k (rec s n).2.2 (n+(rec s n).2.1.length)).1,(rec s n).2.1++(LA rec k (rec s n).2.2 (n+(rec s n).2.1.length)).2.1,(LA rec k (rec s n).2.2 (n+(rec s n).2.1.length)).2.2) else ((rec s n).1,[],s)
def LM {σ:Type} (recK:σ→Nat→List UInt8→Res σ) (recV:σ→Nat→Res σ):Nat→σ→Nat→List UInt8→Res σ
 | 0,s,_,_=>(0,[],s)
 | k+1,s,n,last=>
  let a:=recK s n last
  bif decide (a.1=0) then
   let b:=recV a.2.2 (n+a.2.1.length)
   bif decide (b.1=0) then
    let q:=LM recK recV k b.2.2 (n+a.2.1.length+b.2.1.length) (enc (a.2.1.headD default))
    (q.1,a.2.1++(b.2.1++q.2.1),q.2.2)
   else (b.1,[],s)
  else (a.1,[],s)
def W {σ:Type} (get:Nat→Nat→Bool→List UInt8→σ→Int×ApiItem×σ):Nat→σ→Nat→Nat→Bool→List UInt8→Res σ
 | 0,s,_,_,_,_=>(99,[],s)
 | f+1,s,n,d,key,before=>
  let g:=get n d key before s
  bif decide (g.1=0) then
   let q:=bif decide (g.2.1.kind=5) then LA (fun s n=>W get f s n (d+1) false []) g.2.1.number.toNat g.2.2 (n+1)
    else bif decide (g.2.1.kind=6) then LM (fun s n last=>W get f s n (d+1) true last) (fun s n=>W get f s n (d+1) false []) g.2.1.number.toNat g.2.2 (n+1) []
    else (0,[],g.2.2)
   (q.1,g.2.1::q.2.1,q.2.2)
  else (g.1,[],s)
structure GetOk {σ:Type} (get:Nat→Nat→Bool→List UInt8→σ→Int×ApiItem×σ):Prop where
 small:∀ {n d:Nat} {k:Bool} {b:List UInt8} {s:σ} {x:ApiItem} {t:σ},get n d k b s=(0,x,t)→n < 512∧d≤8∧(isN x.kind=true→x.number.toNat≤512)
 free:∀ (n d:Nat) (b b':List UInt8) (s:σ),get n d false b s=get n d false b' s
def Goes {σ:Type} (get:Nat→Nat→Bool→List UInt8→σ→Int×ApiItem×σ) (m:Nat) (S:List CborFrame) (n:Nat) (s:σ) (w:Res σ) (T:List CborFrame):Prop:=
 (w.1≠0→(mach get m S n s).1=w.1) ∧
 (w.1=0→n+w.2.1.length≤512∧mach get m S n s=((mach get (m - w.2.1.length) T (n+w.2.1.length) w.2.2).1,w.2.1++(mach get (m - w.2.1.length) T (n+w.2.1.length) w.2.2).2.1,(mach get (m - w.2.1.length) T (n+w.2.1.length) w.2.2).2.2))
theorem Goes.trans {σ:Type} {get:Nat→Nat→Bool→List UInt8→σ→Int×ApiItem×σ} {m n:Nat} {S T U:List CborFrame} {s:σ} {a b:Res σ} (h1:Goes get m S n s a T) (ha:a.1=0) (h2:Goes get (m - a.2.1.length) T (n+a.2.1.length) a.2.2 b U):Goes get m S n s (b.1,a.2.1++b.2.1,b.2.2) U:=by
 obtain ⟨_,h1⟩:=h1
 obtain ⟨i1,i2⟩:=h1 ha
 refine ⟨fun hb=>?_,fun hb=>?_⟩
 ·rw [i2]; exact h2.1 hb
 ·obtain ⟨j1,j2⟩:=h2.2 hb
  dsimp only at *
  refine ⟨by rw [List.length_append]; omega,?_⟩
  rw [i2,j2,List.length_append,Nat.sub_sub,Nat.add_assoc,List.append_assoc]
theorem Goes.fail {σ:Type} {get:Nat→Nat→Bool→List UInt8→σ→Int×ApiItem×σ} {m n:Nat} {S T U:List CborFrame} {s:σ} {a:Res σ} {e:Int} {o:List ApiItem} {t:σ} (h1:Goes get m S n s a T) (ha:a.1≠0) (he:e=a.1):Goes get m S n s (e,o,t) U:=by
 subst he
 exact ⟨fun _=>h1.1 ha,fun h=>absurd h ha⟩
theorem Goes.fail2 {σ:Type} {get:Nat→Nat→Bool→List UInt8→σ→Int×ApiItem×σ} {m n:Nat} {S T U V:List CborFrame} {s:σ} {a b:Res σ} {o:List ApiItem} {t:σ} (h1:Goes get m S n s a T) (ha:a.1=0) (h2:Goes get (m - a.2.1.length) T (n+a.2.1.length) a.2.2 b U) (hb:b.1≠0):Goes get m S n s (b.1,o,t) V:=by
 obtain ⟨i1,i2⟩:=h1.2 ha
 refine ⟨fun _=>?_,fun h=>absurd h hb⟩
 rw [i2]; exact h2.1 hb
theorem Goes.nil {σ:Type} {get:Nat→Nat→Bool→List UInt8→σ→Int×ApiItem×σ} {m n:Nat} {S:List CborFrame} {s:σ} (hn:n≤512):Goes get m S n s (0,[],s) S:=
 ⟨fun h=>absurd rfl h,fun _=>⟨by simpa using hn,by simp⟩⟩
theorem W_ne {σ:Type} {get:Nat→Nat→Bool→List UInt8→σ→Int×ApiItem×σ} {f:Nat} {s:σ} {n d:Nat} {key:Bool} {b:List UInt8} (h:(W get f s n d key b).1=0):∃ x r,(W get f s n d key b).2.1=x::r:=by
 cases f with
 | zero=>simp [W] at h
 | succ f=>
  unfold W at h ⊢
  dsimp only at h ⊢
  by_cases hg:(get n d key b s).1=0
  ·rw [show decide ((get n d key b s).1=0)=true by simpa using hg]
   exact ⟨_,_,rfl⟩
  ·rw [show decide ((get n d key b s).1=0)=false by simpa using hg] at h
   exact absurd h hg
theorem tmod2 (j:Nat):Int.tmod (2 * ((j+1:Nat):Int)) 2=0∧Int.tmod (2 * ((j+1:Nat):Int) - 1) 2=1:=by
 constructor
 ·rw [show (2 * ((j+1:Nat):Int))=((2 * (j+1):Nat):Int) by omega]
  show (((2 * (j+1)) % 2:Nat):Int)=0
  omega
 ·rw [show (2 * ((j+1:Nat):Int) - 1)=((2 * j+1:Nat):Int) by omega]
  show (((2 * j+1) % 2:Nat):Int)=1
  omega
theorem Vzk {σ : Type} {get : Nat→Nat→Bool→List UInt8→σ→Int×ApiItem×σ} (G : GetOk get) : ∀ (f : Nat) (S : List CborFrame) (n m : Nat) (s : σ), WS S→(S = []→n = 0)→10≤f+S.length→600≤m+n→n≤512 →
  Goes get m S n s (W get f s n S.length (atK S) (lst S)) (pop (dcr (mrk ((W get f s n S.length (atK S) (lst S)).2.1.headD default) S)))
 | 0,S,n,m,s,hS,_,hf,_,_=>by have:=hS.2.2; omega
 | f+1, S, n, m, s, hS, hS0, hf, hm, hn => by
  have ih:=Vzk G f
  have hSe:(decide (0 < n)&&S.isEmpty)=false:=by
   cases S with
   | nil=>rw [hS0 rfl]; rfl
   | cons _ _=>simp
  obtain ⟨m,rfl⟩:∃ q,m=q+1:=⟨m - 1,by omega⟩
  unfold W
  dsimp only
  rcases hg:get n S.length (atK S) (lst S) s with ⟨e,x,t⟩
  dsimp only
  by_cases he:e=0
  ·subst he
   simp only [decide_true,cond_true,List.headD_cons]
   obtain ⟨g1,g2,g3⟩:=G.small hg
   have hstep:=Vcp (f:=m) hSe hg
   have hM:(∀ f∈dcr (mrk x S),0≤f.left∧f.left≤1024)∧(dcr (mrk x S)).length=S.length:=by
    cases S with
    | nil=>exact ⟨by simp [mrk,atK,dcr],rfl⟩
    | cons f r=>
     have h0:0 < f.left:=hS.2.1
     have h1:=hS.1 f (by simp)
     have h2:∀ g∈r,0≤g.left∧g.left≤1024:=fun g hg=>hS.1 g (by simp [hg])
     unfold mrk
     cases atK (f::r)
     ·refine ⟨?_,rfl⟩
      intro g hg
      rcases List.mem_cons.1 hg with rfl | hg
      ·dsimp only; omega
      ·exact h2 g hg
     ·refine ⟨?_,rfl⟩
      intro g hg
      rcases List.mem_cons.1 hg with rfl | hg
      ·dsimp only; omega
      ·exact h2 g hg
   generalize hD:dcr (mrk x S)=D at hM
   obtain ⟨D1,D2⟩:=hM
   have hnx:nxt x S=pop (psh x D):=by unfold nxt; rw [hD]
   rw [hnx] at hstep
   -- the first item is taken
   have h1:Goes get (m+1) S n s (0,[x],t) (pop (psh x D)):=⟨fun h=>absurd rfl h,fun _=>⟨by simp; omega,by
    dsimp only
    rw [hstep]; rfl⟩⟩
   -- a frame over D
   have wsF:∀ (p:Bool) (j:Int) (l:List UInt8),0 < j→j≤1024→WS (⟨p,j,l⟩::D):=fun p j l hj hj2=>⟨fun g hg=>by
    rcases List.mem_cons.1 hg with rfl | hg
    ·dsimp only; omega
    ·exact D1 g hg,hj,by simp [D2]; omega⟩
   have popF:∀ (p:Bool) (j:Int) (l:List UInt8),j≠0→pop (⟨p,j,l⟩::D)=⟨p,j,l⟩::D:=fun p j l hj=>by
    conv=>lhs; unfold pop
    simp [hj]
   have popZ:∀ (p:Bool) (l:List UInt8),pop (⟨p,0,l⟩::D)=pop D:=fun p l=>by
    conv=>lhs; unfold pop
    simp
   have fin:∀ q:Res σ,Goes get m (pop (psh x D)) (n+1) t q (pop D)→Goes get (m+1) S n s (q.1,x::q.2.1,q.2.2) (pop D):=fun q hq=>h1.trans rfl hq
   refine fin _ ?_
   by_cases hk0:0 < x.number.toNat
   ·by_cases h5 : x.kind = 5
    ·have hk := g3 (by simp [isN, h5])
     have hp:pop (psh x D)=⟨false,(x.number.toNat:Int),[]⟩::D:=by
      unfold psh
      simp only [h5,hk0,decide_true,cond_true]
      exact popF _ _ _ (by omega)
     rw [hp]
     simp only [h5,decide_true,cond_true]
     have loop:∀ (k:Nat) (s:σ) (n m:Nat),0 < k→k≤512→600≤m+n→0 < n→n≤512→Goes get m (⟨false,(k:Int),[]⟩::D) n s (LA (fun s n=>W get f s n (S.length+1) false []) k s n) (pop D):=by
      intro k
      induction k with
      | zero=>intro s n m h; omega
      | succ k ihk=>
       intro s n m _ hk2 hm2 hn0 hn2
       have hr:=ih (⟨false,((k+1:Nat):Int),[]⟩::D) n m s (wsF _ _ _ (by omega) (by omega)) (by simp) (by simp [D2]; omega) hm2 hn2
       have ea:atK (⟨false,((k+1:Nat):Int),[]⟩::D)=false:=rfl
       have el:(⟨false,((k+1:Nat):Int),[]⟩::D:List CborFrame).length=S.length+1:=by simp [D2]
       have elst:lst (⟨false,((k+1:Nat):Int),[]⟩::D)=[]:=rfl
       have em:∀ y,pop (dcr (mrk y (⟨false,((k+1:Nat):Int),[]⟩::D)))=pop (⟨false,(k:Int),[]⟩::D):=fun y=>by
        unfold mrk
        rw [ea]
        show pop (⟨false,((k+1:Nat):Int) - 1,[]⟩::D)=_
        rw [show ((k+1:Nat):Int) - 1=(k:Int) by omega]
       rw [ea,el,elst,em] at hr
       unfold LA
       generalize hw:W get f s n (S.length+1) false []=w at hr
       by_cases hw0:w.1=0
       ·rw [show decide (w.1=0)=true by simpa using hw0]
        simp only [cond_true]
        obtain ⟨i1,i2⟩:=hr.2 hw0
        obtain ⟨y,r,hy⟩:=W_ne (get:=get) (f:=f) (s:=s) (n:=n) (d:=S.length+1) (key:=false) (b:=[]) (by rw [hw]; exact hw0)
        rw [hw] at hy
        have hl1:1≤w.2.1.length:=by rw [hy]; simp
        refine hr.trans hw0 ?_
        by_cases hk1:0 < k
        ·rw [popF _ _ _ (by omega)]
         exact ihk w.2.2 (n+w.2.1.length) (m - w.2.1.length) hk1 (by omega) (by omega) (by omega) (by omega)
        ·have:k=0:=by omega
         subst this
         rw [show ((0:Nat):Int)=0 from rfl,popZ]
         exact Goes.nil (by omega)
       ·rw [show decide (w.1=0)=false by simpa using hw0]
        exact hr.fail hw0 rfl
     exact loop _ t (n+1) m hk0 hk (by omega) (by omega) (by omega)
    ·by_cases h6 : x.kind = 6
     ·have hk := g3 (by simp [isN, h6])
      have hp:pop (psh x D)=⟨true,2 * (x.number.toNat:Int),[]⟩::D:=by
       unfold psh
       simp only [h6,hk0,decide_true,cond_true,Int.reduceEq,decide_false,cond_false]
       exact popF _ _ _ (by omega)
      rw [hp]
      simp only [h6,decide_true,cond_true,Int.reduceEq,decide_false,cond_false]
      have loop : ∀ (k : Nat) (s : σ) (n m : Nat) (l : List UInt8), 0 < k→k≤512→600≤m+n→0 < n→n≤512→Goes get m (⟨true, 2 * (k : Int), l⟩::D) n s (LM (fun s n last => W get f s n (S.length+1) true last) (fun s n => W get f s n (S.length+1) false []) k s n l) (pop D) := by
       intro k
       induction k with
       | zero=>intro s n m l h; omega
       | succ k ihk=>
        intro s n m l _ hk2 hm2 hn0 hn2
        obtain ⟨t0,t1⟩:=tmod2 k
        -- the key
        have hr:=ih (⟨true,2 * ((k+1:Nat):Int),l⟩::D) n m s (wsF _ _ _ (by omega) (by omega)) (by simp) (by simp [D2]; omega) hm2 hn2
        have ea:atK (⟨true,2 * ((k+1:Nat):Int),l⟩::D)=true:=by simp only [atK,t0]; rfl
        have el:∀ g:CborFrame,(g::D).length=S.length+1:=fun g=>by simp [D2]
        have elst:lst (⟨true,2 * ((k+1:Nat):Int),l⟩::D)=l:=rfl
        have em:∀ y,pop (dcr (mrk y (⟨true,2 * ((k+1:Nat):Int),l⟩::D)))=⟨true,2 * ((k+1:Nat):Int) - 1,enc y⟩::D:=fun y=>by
         unfold mrk
         rw [ea]
         exact popF true (2 * ((k+1:Nat):Int) - 1) (enc y) (by omega)
        rw [ea,el,elst,em] at hr
        unfold LM
        dsimp only
        generalize hw:W get f s n (S.length+1) true l=w at hr
        by_cases hw0:w.1=0
        ·rw [show decide (w.1=0)=true by simpa using hw0]
         simp only [cond_true]
         obtain ⟨i1,i2⟩:=hr.2 hw0
         obtain ⟨y,r,hy⟩:=W_ne (get:=get) (f:=f) (s:=s) (n:=n) (d:=S.length+1) (key:=true) (b:=l) (by rw [hw]; exact hw0)
         rw [hw] at hy
         have hl1:1≤w.2.1.length:=by rw [hy]; simp
         generalize hky:enc (w.2.1.headD default)=ky at hr
         -- the value
         have hv:=ih (⟨true,2 * ((k+1:Nat):Int) - 1,ky⟩::D) (n+w.2.1.length) (m - w.2.1.length) w.2.2 (wsF _ _ _ (by omega) (by omega)) (by simp) (by simp [D2]; omega) (by omega) (by omega)
         have eb:atK (⟨true,2 * ((k+1:Nat):Int) - 1,ky⟩::D)=false:=by simp only [atK,t1]; rfl
         have eWf:∀ (s:σ) (n:Nat) (b:List UInt8),W get f s n (S.length+1) false b=W get f s n (S.length+1) false []:=fun s n b=>by
          cases f with
          | zero=>rfl
          | succ f=>
           unfold W
           rw [G.free n (S.length+1) b []]
         have em2:∀ y,pop (dcr (mrk y (⟨true,2 * ((k+1:Nat):Int) - 1,ky⟩::D)))=pop (⟨true,2 * (k:Int),ky⟩::D):=fun y=>by
          unfold mrk
          rw [eb]
          show pop (⟨true,2 * ((k+1:Nat):Int) - 1 - 1,ky⟩::D)=_
          rw [show 2 * ((k+1:Nat):Int) - 1 - 1=2 * (k:Int) by omega]
         rw [eb,el,eWf,em2] at hv
         generalize hw2:W get f w.2.2 (n+w.2.1.length) (S.length+1) false []=v at hv
         by_cases hv0:v.1=0
         ·rw [show decide (v.1=0)=true by simpa using hv0]
          simp only [cond_true]
          obtain ⟨p1,p2⟩:=hv.2 hv0
          refine hr.trans hw0 (hv.trans hv0 ?_)
          by_cases hk1:0 < k
          ·rw [popF _ _ _ (by omega)]
           exact ihk v.2.2 (n+w.2.1.length+v.2.1.length) (m - w.2.1.length - v.2.1.length) ky hk1 (by omega) (by omega) (by omega) (by omega)
          ·have:k=0:=by omega
           subst this
           rw [show (2 * ((0:Nat):Int))=0 from rfl,popZ]
           exact Goes.nil (by omega)
         ·rw [show decide (v.1=0)=false by simpa using hv0]
          exact hr.fail2 hw0 hv hv0
        ·rw [show decide (w.1=0)=false by simpa using hw0]
         exact hr.fail hw0 rfl
      exact loop _ t (n+1) m [] hk0 hk (by omega) (by omega) (by omega)
     ·have hp:psh x D=D:=by
       unfold psh
       simp only [h5,h6,decide_false,cond_false]
       cases decide (0 < x.number.toNat)<;>rfl
      rw [hp]
      simp only [h5,h6,decide_false,cond_false]
      exact Goes.nil (by omega)
   ·have hk1:x.number.toNat=0:=by omega
    have hp:psh x D=D:=by
     unfold psh
     simp [hk1]
    rw [hp,hk1]
    have:(bif decide (x.kind=5) then LA (fun s n=>W get f s n (S.length+1) false []) 0 t (n+1) else bif decide (x.kind=6) then LM (fun s n last=>W get f s n (S.length+1) true last) (fun s n=>W get f s n (S.length+1) false []) 0 t (n+1) [] else ((0:Int),([]:List ApiItem),t))=(0,[],t):=by
     cases decide (x.kind=5)<;>cases decide (x.kind=6)<;>rfl
    rw [this]
    exact Goes.nil (by omega)
  ·rw [show decide (e=0)=false by simpa using he]
   simp only [cond_false]
   refine ⟨fun _=>?_,fun h=>absurd h he⟩
   rw [Vdm hSe hg he]
theorem Vrh {σ:Type} {get:Nat→Nat→Bool→List UInt8→σ→Int×ApiItem×σ} (G:GetOk get) (f:Nat) (hf:10≤f) (s:σ):((W get f s 0 0 false []).1≠0→(mach get 600 [] 0 s).1=(W get f s 0 0 false []).1)∧((W get f s 0 0 false []).1=0→mach get 600 [] 0 s=W get f s 0 0 false []):=by
 have h:=Vzk G f [] 0 600 s ⟨by simp,trivial,by simp⟩ (fun _=>rfl) (by simpa using hf) (by omega) (by omega)
 refine ⟨fun hw=>h.1 hw,fun hw=>?_⟩
 obtain ⟨h1,h2⟩:=h.2 hw
 obtain ⟨x,r,hx⟩:=W_ne hw
 have:mach get 600 [] 0 s=_:=h2
 rw [this]
 have e:pop (dcr (mrk ((W get f s 0 ([]:List CborFrame).length (atK []) (lst [])).2.1.headD default) []))=[]:=rfl
 rw [e]
 have hl:0 < (W get f s 0 0 false []).2.1.length:=by rw [hx]; simp
 have hl2:0+(W get f s 0 0 false []).2.1.length≤512:=h1
 show (_,_,_)=_
 have hd:=Vfr (get:=get) (f:=600 - (W get f s 0 0 false []).2.1.length - 1) (n:=0+(W get f s 0 0 false []).2.1.length) (s:=(W get f s 0 0 false []).2.2) (by omega)
 rw [show 600 - (W get f s 0 0 false []).2.1.length - 1+1=600 - (W get f s 0 0 false []).2.1.length by omega] at hd
 have e2:(W get f s 0 ([]:List CborFrame).length (atK []) (lst []))=W get f s 0 0 false []:=rfl
 rw [e2,hd]
 simp only [List.append_nil]
 rw [← hw]
theorem Vnf:GetOk getL:=by
 constructor
 ·intro n d k b s x t h
  cases s with
  | nil=>simp [getL] at h
  | cons y r=>
   simp only [getL,Prod.mk.injEq] at h
   obtain ⟨h1,rfl,rfl⟩:=h
   obtain ⟨c1,c2,c3,c4⟩:=Vbf h1
   exact ⟨(Vcj c1).1,(Vcj c1).2.2.2.2,(Vdf c3).2⟩
 ·intro n d b b' s
  cases s with
  | nil=>rfl
  | cons y r=>
   have:chk y n d false b=chk y n d false b':=by unfold chk acc; simp
   simp [getL,this]
theorem Vlp:∀ (f:Nat) (s:List ApiItem) (n d:Nat) (key:Bool) (b:List UInt8),(W getL f s n d key b).1=0→s=(W getL f s n d key b).2.1++(W getL f s n d key b).2.2
 | 0,s,n,d,key,b,h=>by simp [W] at h
 | f+1, s, n, d, key, b, h => by
  have ih:=Vlp f
  unfold W at h ⊢
  dsimp only at h ⊢
  rcases hg:getL n d key b s with ⟨e,x,t⟩
  rw [hg] at h
  dsimp only at h ⊢
  by_cases he:e=0
  ·subst he
   simp only [decide_true,cond_true] at h ⊢
   have hs:s=x::t:=by
    cases s with
    | nil=>simp [getL] at hg
    | cons y r=>
     simp only [getL,Prod.mk.injEq] at hg
     rw [hg.2.1,hg.2.2]
   rw [hs,List.cons_append]
   congr 1
   by_cases h5:x.kind=5
   ·simp only [h5,decide_true,cond_true] at h ⊢
    have loop:∀ (k:Nat) (t:List ApiItem) (n:Nat),(LA (fun s n=>W getL f s n (d+1) false []) k t n).1=0→t=(LA (fun s n=>W getL f s n (d+1) false []) k t n).2.1++(LA (fun s n=>W getL f s n (d+1) false []) k t n).2.2:=by
     intro k
     induction k with
     | zero=>intro t n _; rfl
     | succ k ihk=>
      intro t n h
      unfold LA at h ⊢
      have i1:=ih t n (d+1) false []
      generalize W getL f t n (d+1) false []=w at h i1 ⊢
      by_cases hw:w.1=0
      ·rw [show decide (w.1=0)=true by simpa using hw] at h ⊢
       simp only [cond_true] at h ⊢
       rw [List.append_assoc,← ihk _ _ h]
       exact i1 hw
      ·rw [show decide (w.1=0)=false by simpa using hw] at h
       exact absurd h hw
    exact loop _ _ _ h
   ·by_cases h6:x.kind=6
    ·simp only [h6,decide_true,cond_true,Int.reduceEq,decide_false,cond_false] at h ⊢
     have loop:∀ (k:Nat) (t:List ApiItem) (n:Nat) (l:List UInt8),(LM (fun s n last=>W getL f s n (d+1) true last) (fun s n=>W getL f s n (d+1) false []) k t n l).1=0→t=(LM (fun s n last=>W getL f s n (d+1) true last) (fun s n=>W getL f s n (d+1) false []) k t n l).2.1++(LM (fun s n last=>W getL f s n (d+1) true last) (fun s n=>W getL f s n (d+1) false []) k t n l).2.2:=by
      intro k
      induction k with
      | zero=>intro t n l _; rfl
      | succ k ihk=>
       intro t n l h
       unfold LM at h ⊢
       dsimp only at h ⊢
       have i1:=ih t n (d+1) true l
       generalize W getL f t n (d+1) true l=w at h i1 ⊢
       by_cases hw:w.1=0
       ·rw [show decide (w.1=0)=true by simpa using hw] at h ⊢
        simp only [cond_true] at h ⊢
        have i2:=ih w.2.2 (n+w.2.1.length) (d+1) false []
        generalize W getL f w.2.2 (n+w.2.1.length) (d+1) false []=v at h i2 ⊢
        by_cases hv:v.1=0
        ·rw [show decide (v.1=0)=true by simpa using hv] at h ⊢
         simp only [cond_true] at h ⊢
         rw [List.append_assoc,List.append_assoc,← ihk _ _ _ h,← i2 hv]
         exact i1 hw
        ·rw [show decide (v.1=0)=false by simpa using hv] at h
         exact absurd h hv
       ·rw [show decide (w.1=0)=false by simpa using hw] at h
        exact absurd h hw
     exact loop _ _ _ _ h
    ·simp only [h5,h6,decide_false,cond_false]
     rfl
  ·rw [show decide (e=0)=false by simpa using he] at h
   exact absurd h he
def Zr (w:Res (List ApiItem)) (n:Nat) (z:(Int×Int×Unit)⊕(Int×Unit)):Prop:=(w.1=0→z = .inr (((n+w.2.1.length:Nat):Int),()))∧(w.1≠0→∃ j,z = .inl (j,w.1,()))
theorem Vng {l a b:List ApiItem} {n:Nat} (h:l.drop n=a++b):l.drop (n+a.length)=b:=by
 rw [← List.drop_drop,h]; simp
theorem Vri (l:List ApiItem) (hl:l.length < 1000000) (hd:∀ x∈l,x.data.length < 100000):∀ (f n d:Nat) (key:Bool) (b:List UInt8),n≤l.length→d≤9→10≤f+d →
  ∃ j:Int,passkeyref1_walk_n f l (n:Int) (d:Int) key b=some ((),j,(W getL f (l.drop n) n d key b).1,())∧((W getL f (l.drop n) n d key b).1=0→j=((n+(W getL f (l.drop n) n d key b).2.1.length:Nat):Int))
 | 0,n,d,key,b,hn,hd9,hf=>by omega
 | f+1, n, d, key, b, hn, hd9, hf => by
  have ih:=Vri l hl hd f
  show ∃ j:Int,passkeyref1_walk_R (passkeyref1_walk_n f) l (n:Int) (d:Int) key b=_∧_
  unfold passkeyref1_walk_R
  unfold W
  dsimp only
  by_cases hnl:n=l.length
  ·rw [show decide ((l.length:Int)≤(n:Int))=true by simp; omega,show l.drop n=[] by simp [hnl]]
   exact ⟨n,rfl,fun h=>by simp [getL] at h⟩
  ·have hlt:n < l.length:=by omega
   rw [show decide ((l.length:Int)≤(n:Int))=false by simp; omega]
   obtain ⟨x,hx⟩:∃ x,l[n]? = some x:=⟨l[n],by simp [hlt]⟩
   have hdr:l.drop n=x::l.drop (n+1):=by
    rw [List.drop_eq_getElem_cons hlt]
    congr 1
    rw [List.getElem?_eq_getElem hlt] at hx
    exact Option.some.inj hx
   have eg:getI l (n:Int)=some x:=by unfold getI; simp [hx]
   rw [hdr,eg]
   simp only [cond_false,bindS,getL,Vxp x n d key b (by have:=hd x (List.mem_of_getElem? hx); omega)]
   rw [Vad (n:=(n:Int)+1) (by omega) (by omega)]
   by_cases hc:chk x n d key b=0
   ·simp only [hc,decide_true,Bool.not_true,cond_false,cond_true]
    obtain ⟨c1,c2,c3,c4⟩:=Vbf hc
    have hd8:=(Vcj c1).2.2.2.2
    have hnum:=(Vdf c3).2
    -- the loop
    have ed:IntKind.wrap .i64 ((d:Int)+1)=((d+1:Nat):Int):=by
     rw [Vad (n:=(d:Int)+1) (by omega) (by omega)]; rfl
    have ebv:∀ i:Nat,i≤2000→(BitVec.ofNat 64 i).toNat=i:=fun i hi=>by
     rw [BitVec.toNat_ofNat,Nat.mod_eq_of_lt (by omega)]
    have ebs:∀ i:Nat,i≤1000→BitVec.ofNat 64 i+1#64=BitVec.ofNat 64 (i+1):=fun i hi=>by
     apply BitVec.eq_of_toNat_eq
     rw [BitVec.toNat_add,ebv i (by omega),ebv (i+1) (by omega)]
     rw [show (1#64).toNat=1 from rfl,Nat.mod_eq_of_lt (by omega)]
    have key2 : ∃ z, passkeyref1_walk_L0 (passkeyref1_walk_n f) (l, (d : Int), (x, ()), (n : Int)+1, [], 0#64, ()) = some z∧Zr (bif decide (x.kind = 5) then LA (fun s n => W getL f s n (d+1) false []) x.number.toNat (l.drop (n+1)) (n+1) else bif decide (x.kind = 6) then LM (fun s n last => W getL f s n (d+1) true last) (fun s n => W getL f s n (d+1) false []) x.number.toNat (l.drop (n+1)) (n+1) [] else ((0 : Int), ([] : List ApiItem), l.drop (n+1))) (n+1) z := by
     unfold passkeyref1_walk_L0
     rw [show ((n:Int)+1)=((n+1:Nat):Int) by omega,show (0#64)=BitVec.ofNat 64 0 from rfl]
     by_cases h5:x.kind=5
     ·have hk := hnum (by simp [isN, h5])
      have loop:∀ (k i m fuel:Nat) (last:List UInt8),i+k=x.number.toNat→m≤l.length→k < fuel→∃ z,iter (fun (y:((List (ApiItem))×Int×(ApiItem×Unit)×Int×(List UInt8)×(BitVec 64)×Unit))=>passkeyref1_walk_L0b (passkeyref1_walk_n f) y.1 y.2.1 y.2.2.1 y.2.2.2.1 y.2.2.2.2.1 y.2.2.2.2.2.1) fuel (l,(d:Int),(x,()),(m:Int),last,BitVec.ofNat 64 i,())=some z∧Zr (LA (fun s n=>W getL f s n (d+1) false []) k (l.drop m) m) m z:=by
       intro k
       induction k with
       | zero=>
        intro i m fuel last hi hm hfu
        obtain ⟨fuel,rfl⟩:∃ g,fuel=g+1:=⟨fuel - 1,by omega⟩
        rw [Vae]
        refine ⟨.inr ((m:Int),()),?_,fun _=>rfl,fun h=>absurd rfl h⟩
        dsimp only
        unfold passkeyref1_walk_L0b
        rw [ebv i (by omega),show decide (i < x.number.toNat)=false by simp; omega]
        rfl
       | succ k ihk=>
        intro i m fuel last hi hm hfu
        obtain ⟨fuel,rfl⟩:∃ g,fuel=g+1:=⟨fuel - 1,by omega⟩
        rw [Vae]
        obtain ⟨j,hj1,hj2⟩:=ih m (d+1) false [] hm (by omega) (by omega)
        have hwl:=fun h=>Vlp f (l.drop m) m (d+1) false [] h
        have e1:passkeyref1_walk_L0b (passkeyref1_walk_n f) l (d:Int) (x,()) (m:Int) last (BitVec.ofNat 64 i)=(bif (!decide ((W getL f (l.drop m) m (d+1) false []).1=(0:Int))) then (some (Sum.inr (Sum.inl (j,(W getL f (l.drop m) m (d+1) false []).1,())))) else (some (Sum.inl (l,(d:Int),(x,()),j,last,(BitVec.ofNat 64 (i+1)),())))):=by
         unfold passkeyref1_walk_L0b
         rw [ebv i (by omega),show decide (i < x.number.toNat)=true by simp; omega]
         simp only [h5,decide_true,cond_true,Int.reduceEq,decide_false,cond_false,bindS,Sum.elim_inl,ed,ebs i (by omega)]
         rw [hj1]
         simp only [bindS]
        dsimp only
        rw [e1]
        unfold LA
        generalize W getL f (l.drop m) m (d+1) false []=w at hj2 hwl ⊢
        by_cases hw:w.1=0
        ·rw [show decide (w.1=0)=true by simpa using hw]
         simp only [Bool.not_true,cond_false,cond_true,bindS,Sum.elim_inl]
         rw [hj2 hw]
         have hdw:=Vng (hwl hw)
         have hle:m+w.2.1.length≤l.length:=by
          have:=congrArg List.length (hwl hw)
          simp at this
          omega
         obtain ⟨z,hz1,hz2,hz3⟩:=ihk (i+1) (m+w.2.1.length) fuel last (by omega) hle (by omega)
         rw [hdw] at hz2 hz3
         refine ⟨z,hz1,fun h=>?_,fun h=>hz3 h⟩
         dsimp only at h ⊢
         rw [hz2 h,List.length_append,Nat.add_assoc]
        ·rw [show decide (w.1=0)=false by simpa using hw]
         exact ⟨_,rfl,fun h=>absurd h hw,fun _=>⟨_,rfl⟩⟩
      rw [show decide (x.kind=5)=true by simpa using h5]
      exact loop _ 0 (n+1) rounds [] (by omega) (by omega) (by rw [Vam]; omega)
     ·by_cases h6:x.kind=6
      ·have hk := hnum (by simp [isN, h6])
       have loop:∀ (k i m fuel:Nat) (last:List UInt8),i+k=x.number.toNat→m≤l.length→k < fuel→∃ z,iter (fun (y:((List (ApiItem))×Int×(ApiItem×Unit)×Int×(List UInt8)×(BitVec 64)×Unit))=>passkeyref1_walk_L0b (passkeyref1_walk_n f) y.1 y.2.1 y.2.2.1 y.2.2.2.1 y.2.2.2.2.1 y.2.2.2.2.2.1) fuel (l,(d:Int),(x,()),(m:Int),last,BitVec.ofNat 64 i,())=some z∧Zr (LM (fun s n last=>W getL f s n (d+1) true last) (fun s n=>W getL f s n (d+1) false []) k (l.drop m) m last) m z:=by
        intro k
        induction k with
        | zero=>
         intro i m fuel last hi hm hfu
         obtain ⟨fuel,rfl⟩:∃ g,fuel=g+1:=⟨fuel - 1,by omega⟩
         rw [Vae]
         refine ⟨.inr ((m:Int),()),?_,fun _=>rfl,fun h=>absurd rfl h⟩
         dsimp only
         unfold passkeyref1_walk_L0b
         rw [ebv i (by omega),show decide (i < x.number.toNat)=false by simp; omega]
         rfl
        | succ k ihk=>
         intro i m fuel last hi hm hfu
         obtain ⟨fuel,rfl⟩:∃ g,fuel=g+1:=⟨fuel - 1,by omega⟩
         rw [Vae]
         obtain ⟨j,hj1,hj2⟩:=ih m (d+1) true last hm (by omega) (by omega)
         have hwl:=fun h=>Vlp f (l.drop m) m (d+1) true last h
         have hwn:=fun h=>W_ne (get:=getL) (f:=f) (s:=l.drop m) (n:=m) (d:=d+1) (key:=true) (b:=last) h
         unfold LM
         dsimp only
         unfold passkeyref1_walk_L0b
         rw [ebv i (by omega),show decide (i < x.number.toNat)=true by simp; omega]
         simp only [h6,decide_true,cond_true,Int.reduceEq,decide_false,cond_false,ed]
         rw [hj1]
         simp only [bindS]
         generalize W getL f (l.drop m) m (d+1) true last=w at hj2 hwl hwn ⊢
         by_cases hw:w.1=0
         ·rw [show decide (w.1=0)=true by simpa using hw]
          obtain ⟨y,r,hy⟩:=hwn hw
          have hdw:=Vng (hwl hw)
          have hlw:=congrArg List.length (hwl hw)
          simp only [List.length_drop,List.length_append] at hlw
          have hl1:1≤w.2.1.length:=by rw [hy]; simp
          have hym:l[m]? = some y:=by
           have:=congrArg (·[0]?) (hwl hw)
           rw [hy] at this
           simpa using this
          have egy:getI l (m:Int)=some y:=by unfold getI; simp [hym]
          have hjj:=hj2 hw
          subst hjj
          obtain ⟨j2,hj3,hj4⟩:=ih (m+w.2.1.length) (d+1) false [] (by omega) (by omega) (by omega)
          have hvl:=fun h=>Vlp f (l.drop (m+w.2.1.length)) (m+w.2.1.length) (d+1) false [] h
          rw [hdw] at hj3 hj4 hvl
          simp only [Bool.not_true,cond_false,cond_true,egy,bindS,Vkb y (by have:=hd y (List.mem_of_getElem? hym); omega),Sum.elim_inl,ed,ebs i (by omega)]
          rw [hj3]
          simp only [bindS]
          have hhy:w.2.1.headD default=y:=by rw [hy]; rfl
          rw [hhy]
          generalize W getL f w.2.2 (m+w.2.1.length) (d+1) false []=v at hj4 hvl ⊢
          by_cases hv:v.1=0
          ·rw [show decide (v.1=0)=true by simpa using hv,hj4 hv]
           simp only [Bool.not_true,cond_false,cond_true,bindS,Sum.elim_inl]
           have hdv:l.drop (m+w.2.1.length+v.2.1.length)=v.2.2:=Vng (by rw [hdw]; exact hvl hv)
           have hlv:=congrArg List.length (hvl hv)
           simp only [List.length_append] at hlv
           obtain ⟨z,hz1,hz2,hz3⟩:=ihk (i+1) (m+w.2.1.length+v.2.1.length) fuel (enc y) (by omega) (by omega) (by omega)
           rw [hdv] at hz2 hz3
           refine ⟨z,hz1,fun h=>?_,fun h=>hz3 h⟩
           dsimp only at h ⊢
           rw [hz2 h,List.length_append,List.length_append]
           congr 3
           omega
          ·rw [show decide (v.1=0)=false by simpa using hv]
           exact ⟨_,rfl,fun h=>absurd h hv,fun _=>⟨_,rfl⟩⟩
         ·rw [show decide (w.1=0)=false by simpa using hw]
          exact ⟨_,rfl,fun h=>absurd h hw,fun _=>⟨_,rfl⟩⟩
       rw [show decide (x.kind=5)=false by simpa using h5,show decide (x.kind=6)=true by simpa using h6]
       exact loop _ 0 (n+1) rounds [] (by omega) (by omega) (by rw [Vam]; omega)
      ·rw [Vam,show (1180591620717411303424:Nat)=1180591620717411303423+1 from rfl,Vae]
       dsimp only
       unfold passkeyref1_walk_L0b
       simp only [h5,h6,decide_false,cond_false]
       refine ⟨.inr (((n+1:Nat):Int),()),?_,fun _=>rfl,fun h=>absurd rfl h⟩
       cases decide ((BitVec.ofNat 64 0).toNat < x.number.toNat)<;>rfl
    obtain ⟨z,hz,hz1⟩:=key2
    rw [hz]
    simp only [bindS]
    have fin:∀ (w:Res (List ApiItem)) (z:(Int×Int×Unit)⊕(Int×Unit)),Zr w (n+1) z→∃ j:Int,Sum.elim (fun (z13:(Int×Int×Unit))=>(some ((),(z13.1,z13.2.1,())):Option (Unit×(Int×Int×Unit)))) (fun (z14:(Int×Unit))=>(some ((),(z14.1,(0:Int),())))) z=some ((),j,w.1,())∧(w.1=0→j=((n+(x::w.2.1).length:Nat):Int)):=by
     intro w z hz
     obtain ⟨hz1,hz2⟩:=hz
     by_cases hw:w.1=0
     ·rw [hz1 hw,hw]
      refine ⟨_,rfl,fun _=>?_⟩
      simp only [List.length_cons]
      omega
     ·obtain ⟨j,rfl⟩:=hz2 hw
      exact ⟨j,rfl,fun h=>absurd h hw⟩
    exact fin _ _ hz1
   ·simp only [hc,decide_false,Bool.not_false,cond_false,cond_true]
    exact ⟨(n:Int),rfl,fun h=>h.elim⟩
theorem Vlq (l:List ApiItem) (hl:l.length < 1000000) (hd:∀ x∈l,x.data.length < 100000):Zav l=some ((),valO l,()):=by
 obtain ⟨j,h1,h2⟩:=Vri l hl hd 12 0 0 false [] (by omega) (by omega) (by omega)
 obtain ⟨m1,m2⟩:=Vrh Vnf 12 (by omega) l
 have hwl:=fun h=>Vlp 12 l 0 0 false [] h
 unfold Zav passkeyref1_walk valO valE
 rw [show l.drop 0=l from rfl] at h1 h2
 have h1':passkeyref1_walk_n 12 l 0 0 false []=some ((),j,(W getL 12 l 0 0 false []).1,()):=h1
 rw [h1']
 simp only [bindS]
 by_cases hw:(W getL 12 l 0 0 false []).1=0
 ·rw [m2 hw,h2 hw]
  have hh:=hwl hw
  generalize W getL 12 l 0 0 false []=w at hw hh ⊢
  simp only [hw,decide_true,Bool.not_true,cond_false]
  have hlen:=congrArg List.length hh
  rw [List.length_append] at hlen
  cases ht:w.2.2 with
  | nil=>
   rw [ht] at hlen
   rw [show decide (((0+w.2.1.length:Nat):Int) < (l.length:Int))=false by simp at hlen ⊢; omega]
   rfl
  | cons y r=>
   rw [ht] at hlen
   rw [show decide (((0+w.2.1.length:Nat):Int) < (l.length:Int))=true by simp at hlen ⊢; omega]
   rfl
 ·rw [m1 hw]
  simp [hw]
theorem Vjj:∀ (f:Nat) (S:List CborFrame) (n:Nat) (l:List ApiItem),(mach getL f S n l).1=0→l=(mach getL f S n l).2.1++(mach getL f S n l).2.2∧∀ x∈(mach getL f S n l).2.1,∃ n d k b,chk x n d k b=0
 | 0,S,n,l,h=>by simp [mach] at h
 | f+1,S,n,l,h=>by
  cases hS:(decide (0 < n)&&S.isEmpty)
  ·rcases hg:getL n S.length (atK S) (lst S) l with ⟨e,x,t⟩
   by_cases he:e=0
   ·subst he
    rw [Vcp hS hg] at h ⊢
    obtain ⟨i1,i2⟩:=Vjj f (nxt x S) (n+1) t h
    have hs:l=x::t∧chk x n S.length (atK S) (lst S)=0:=by
     cases l with
     | nil=>simp [getL] at hg
     | cons y r=>
      simp only [getL,Prod.mk.injEq] at hg
      obtain ⟨q1,rfl,rfl⟩:=hg
      exact ⟨rfl,q1⟩
    refine ⟨by rw [hs.1,List.cons_append,← i1],fun y hy=>?_⟩
    rcases List.mem_cons.1 hy with rfl | hy
    ·exact ⟨_,_,_,_,hs.2⟩
    ·exact i2 y hy
   ·rw [Vdm hS hg he] at h
    exact absurd h he
  ·simp only [Bool.and_eq_true,decide_eq_true_eq,List.isEmpty_iff] at hS
   obtain ⟨q1,rfl⟩:=hS
   rw [Vfr q1]
   exact ⟨rfl,by simp⟩
theorem Vee {l:List ApiItem} (h:valO l=0):mach getL 600 [] 0 l=(0,l,[])∧∀ x∈l,kin x∧x.data.length≤1024:=by
 unfold valO valE at h
 have hm:=Vjj 600 [] 0 l
 generalize mach getL 600 [] 0 l=m at h hm ⊢
 obtain ⟨e,o,t⟩:=m
 dsimp only at h hm ⊢
 by_cases he:e=0
 ·subst he
  cases t with
  | nil=>
   obtain ⟨h1,h2⟩:=hm rfl
   rw [List.append_nil] at h1
   subst h1
   refine ⟨rfl,fun x hx=>?_⟩
   obtain ⟨n,d,k,b,hc⟩:=h2 x hx
   obtain ⟨c1,c2,c3,c4⟩:=Vbf hc
   exact ⟨Voq c1 c2,(Vdf c3).1⟩
  | cons y r=>simp at h
 ·simp [he] at h
def encA (l:List ApiItem):List UInt8:=l.flatMap enc
def encO (l:List ApiItem):List UInt8×Int:=bif decide (valO l=0) then (encA l,0) else ([],valO l)
theorem Vrj {x:ApiItem} (h:x.data.length≤1024):(enc x).length≤1033:=by
 have:=(Vka x).2
 unfold enc
 rw [List.length_append]
 omega
theorem Vhm:∀ (l:List ApiItem) (o:List UInt8),l.foldl (fun o x=>o++enc x) o=o++encA l
 | [],o=>by simp [encA]
 | x::r,o=>by
  rw [List.foldl_cons,Vhm r,List.append_assoc]
  simp [encA]
theorem Vrk (l:List ApiItem) (hl:l.length≤600) (hd:∀ x∈l,x.data.length < 100000):Zdj l=some ((),(encO l).1,(encO l).2,()):=by
 unfold Zdj encO
 rw [Vdn l (by omega) hd]
 simp only [bindS]
 by_cases h:valO l=0
 ·obtain ⟨_,hk⟩:=Vee h
  simp only [h,decide_true,Bool.not_true,cond_false,cond_true]
  unfold Zdj_L0
  have:=Vm6 (f:=fun (y:((List (UInt8))×(List (ApiItem))×Int×Int×Unit))=>Zdj_L0b y.1 y.2.1 y.2.2.1 y.2.2.2.1) (fun i (o:List UInt8)=>(o,l,(l.length:Int),i,())) l (fun _ x o=>.inl (o++enc x)) (fun o=>(o,())) (fun i o=>o.length≤1033 * i) ?_ ?_ [] (by simp) rounds (by rw [Vam]; omega)
  ·rw [this,Viw,Vhm]
   rfl
  ·intro i x o hx ho
   have hi:i < l.length:=(List.getElem?_eq_some_iff.1 hx).1
   obtain ⟨k1,k2⟩:=hk x (List.mem_of_getElem? hx)
   have he:=Vrj k2
   refine ⟨?_,fun a' ha=>?_⟩
   ·dsimp only
    unfold Zdj_L0b
    have eg:getI l (i:Int)=some x:=by unfold getI; simp [hx]
    rw [show decide ((i:Int) < (l.length:Int))=true by simp; omega,eg,Vad (n:=(i:Int)+1) (by omega) (by omega)]
    simp only [cond_true,bindS]
    rw [Vfp o x k1 (by omega) (by omega)]
    rfl
   ·cases ha
    rw [List.length_append]
    omega
  ·intro o _
   dsimp only
   unfold Zdj_L0b
   rw [show decide ((l.length:Int) < (l.length:Int))=false by simp]
   rfl
 ·simp [h]
theorem Vp7 (l:List ApiItem) (hl:l.length≤600) (hd:∀ x∈l,x.data.length < 100000):Zbm l=some ((),(encO l).1,(encO l).2,()):=by
 unfold Zbm encO
 rw [Vlq l (by omega) hd]
 simp only [bindS]
 by_cases h:valO l=0
 ·obtain ⟨_,hk⟩:=Vee h
  simp only [h,decide_true,Bool.not_true,cond_false,cond_true]
  unfold Zbm_L0
  have:=Vm6 (f:=fun (y:((List (ApiItem))×(List (UInt8))×Int×Unit))=>Zbm_L0b y.1 y.2.1 y.2.2.1) (fun i (o:List UInt8)=>(l,o,i,())) l (fun _ x o=>.inl (o++enc x)) (fun o=>(o,())) (fun i o=>o.length≤1033 * i) ?_ ?_ [] (by simp) rounds (by rw [Vam]; omega)
  ·rw [this,Viw,Vhm]
   rfl
  ·intro i x o hx ho
   have hi:i < l.length:=(List.getElem?_eq_some_iff.1 hx).1
   obtain ⟨k1,k2⟩:=hk x (List.mem_of_getElem? hx)
   have he:=Vrj k2
   refine ⟨?_,fun a' ha=>?_⟩
   ·dsimp only
    unfold Zbm_L0b
    have eg:getI l (i:Int)=some x:=by unfold getI; simp [hx]
    rw [show decide ((i:Int) < (l.length:Int))=true by simp; omega,eg,Vad (n:=(i:Int)+1) (by omega) (by omega)]
    simp only [cond_true,bindS]
    rw [Vkb x (by omega)]
    simp only [bindS]
    rw [Vco (by omega)]
    rfl
   ·cases ha
    rw [List.length_append]
    omega
  ·intro o _
   dsimp only
   unfold Zbm_L0b
   rw [show decide ((l.length:Int) < (l.length:Int))=false by simp]
   rfl
 ·simp [h]
theorem mask (a:Int) (m:Nat) (hm:m < 10000000):∃ k:Nat,k≤m∧IntKind.wrap .i64 ((BitVec.ofInt (IntKind.bits .i64) a &&& BitVec.ofInt (IntKind.bits .i64) (m:Int)).toNat:Int)=(k:Int):=by
 have e:(BitVec.ofInt 64 (m:Int)).toNat=m:=by rw [BitVec.ofInt_natCast,BitVec.toNat_ofNat,Nat.mod_eq_of_lt (by omega)]
 have h:(BitVec.ofInt 64 a &&& BitVec.ofInt 64 (m:Int)).toNat≤m:=by
  rw [BitVec.toNat_and,e]; exact Nat.and_le_right
 refine ⟨_,h,?_⟩
 show IntKind.wrap .i64 ((BitVec.ofInt 64 a &&& BitVec.ofInt 64 (m:Int)).toNat:Int)=_
 exact Vad (by omega) (by omega)
def VT (h:Nat) (o:List ApiItem):Prop:=∀ (g n dd:Nat) (r:List ApiItem) (b:List UInt8),h≤g→n+o.length≤512→dd+h≤9→W getL g (o++r) n dd false b=(0,o,r)
theorem Vhn {x:ApiItem} (h5:x.kind≠5) (h6:x.kind≠6) (hc:∀ n d b,n < 512→d≤8→chk x n d false b=0):VT 1 [x]:=by
 intro g n dd r b hg hn hd
 obtain ⟨g,rfl⟩:∃ q,g=q+1:=⟨g - 1,by omega⟩
 unfold W
 have:=hc n dd b (by simp at hn; omega) (by omega)
 simp [getL,this,h5,h6]
theorem Vrl {h h':Nat} {o:List ApiItem} (hh:h≤h') (H:VT h o):VT h' o:=fun g n dd r b h1 h2 h3=>H g n dd r b (by omega) h2 (by omega)
def keysOk:List UInt8→List ApiItem→Prop
 | _,[]=>True
 | last,x::r=>isN x.kind=false∧(∀ n d,n < 512→d≤8→chk x n d true last=0)∧keysOk (enc x) r
theorem LM_ok {h g dd:Nat} (hg:h≤g) (hg1:1≤g) (hd:dd+1+h≤9) (hd8:dd+1≤8):∀ (ks:List ApiItem) (os:List (List ApiItem)) (r:List ApiItem) (n:Nat) (last:List UInt8),ks.length=os.length→keysOk last ks→(∀ o∈os,VT h o)→n+((ks.zip os).flatMap fun p=>p.1::p.2).length≤512→LM (fun s n last=>W getL g s n (dd+1) true last) (fun s n=>W getL g s n (dd+1) false []) ks.length (((ks.zip os).flatMap fun p=>p.1::p.2)++r) n last=(0,(ks.zip os).flatMap fun p=>p.1::p.2,r)
 | [],os,r,n,last,_,_,_,_=>rfl
 | x::ks,[],r,n,last,hl,_,_,_=>by cases hl
 | x::ks,o::os,r,n,last,hl,hk,H,hn=>by
  obtain ⟨k1,k2,k3⟩:=hk
  simp only [List.zip_cons_cons,List.flatMap_cons,List.length_append,List.length_cons] at hn
  obtain ⟨g,rfl⟩:∃ q,g=q+1:=⟨g - 1,by omega⟩
  have hkey:∀ s,W getL (g+1) (x::s) n (dd+1) true last=(0,[x],s):=by
   intro s
   unfold W
   simp only [isN,Bool.or_eq_false_iff,decide_eq_false_iff_not] at k1
   simp [getL,k2 n (dd+1) (by omega) hd8,k1.1,k1.2]
  have h1:=H o (by simp) (g+1) (n+1) (dd+1) (((ks.zip os).flatMap fun p=>p.1::p.2)++r) [] hg (by omega) (by omega)
  have h2:=LM_ok hg hg1 hd hd8 ks os r (n+1+o.length) (enc x) (by simpa using hl) k3 (fun p hp=>H p (by simp [hp])) (by omega)
  simp only [List.length_cons,List.zip_cons_cons,List.flatMap_cons,List.cons_append,List.append_assoc]
  unfold LM
  dsimp only
  rw [hkey]
  simp only [decide_true,cond_true,List.length_cons,List.length_nil,List.headD_cons,Nat.zero_add]
  rw [h1]
  simp only [decide_true,cond_true]
  rw [h2]
  rfl
theorem Veva {h k:Nat} {ks:List ApiItem} {os:List (List ApiItem)} (hk:ks.length=k) (hl:ks.length=os.length) (hk3:k≤512) (h1:1≤h) (hK:keysOk [] ks) (H:∀ o∈os,VT h o):VT (h+1) (⟨6,BitVec.ofNat 64 k,[]⟩::(ks.zip os).flatMap fun p=>p.1::p.2):=by
 intro g n dd r b hg hn hd
 obtain ⟨g,rfl⟩:∃ q,g=q+1:=⟨g - 1,by omega⟩
 simp only [List.length_cons] at hn
 have hkn:(BitVec.ofNat 64 k).toNat=k:=by rw [BitVec.toNat_ofNat,Nat.mod_eq_of_lt (by omega)]
 have hc:chk ⟨6,BitVec.ofNat 64 k,[]⟩ n dd false b=0:=by
  unfold chk adm bad big acc
  dsimp only
  rw [hkn,show decide (512≤n)=false by simp; omega,show decide (8 < dd)=false by simp; omega,show decide (512 < k)=false by simp; omega]
  rfl
 have:=LM_ok (g:=g) (dd:=dd) (by omega) (by omega) (by omega) (by omega) ks os r (n+1) [] hl hK H (by omega)
 rw [hk] at this
 unfold W
 simp only [List.cons_append,getL,hc,decide_true,decide_false,cond_true,cond_false,hkn,this,Int.reduceEq]
def words:List (List UInt8):=[([]:List UInt8),([97]:List UInt8),([98]:List UInt8),([108,111,103,105,110]:List UInt8),([107,101,121]:List UInt8),([101,120,97,109,112,108,101,46,111,114,103]:List UInt8),([195,169]:List UInt8),([48,49,50,51,52,53,54,55,56,57,48,49,50,51,52,53]:List UInt8)]
theorem Vrm:∀ a:Fin 8,(words[a.val]'(by have:=a.isLt; simp only [words,List.length_cons,List.length_nil]; omega)).length≤16:=by decide
theorem Va8a (n:Int):∃ a b:Fin 8,Zcf n=some ((),words.getD a.val []++words.getD b.val [],()):=by
 obtain ⟨a,ha,ea⟩:=mask n 7 (by omega)
 obtain ⟨b,hb,eb⟩:=mask (Int.fdiv n (2 ^ (min 3 (IntKind.bits .i64)))) 7 (by omega)
 refine ⟨⟨a,by omega⟩,⟨b,by omega⟩,?_⟩
 unfold Zcf
 dsimp only
 rw [show ((7:Nat):Int)=7 from rfl] at ea eb
 rw [ea,eb]
 rw [show (decide ((0:Int)≤(a:Int))&&decide ((a:Int) < 8))=true by simp; omega,show (decide ((0:Int)≤(b:Int))&&decide ((b:Int) < 8))=true by simp; omega,Int.toNat_natCast,Int.toNat_natCast]
 have w8:∀ c:Nat,c≤7→∃ w,words[c]? = some w∧w.length≤16:=by
  intro c hc
  have:c < words.length:=by simp [words]; omega
  exact ⟨words[c],by simp [this],Vrm ⟨c,by omega⟩⟩
 obtain ⟨wa,qa,la⟩:=w8 a ha
 obtain ⟨wb,qb,lb⟩:=w8 b hb
 have qa':([([]:List UInt8),([97]:List UInt8),([98]:List UInt8),([108,111,103,105,110]:List UInt8),([107,101,121]:List UInt8),([101,120,97,109,112,108,101,46,111,114,103]:List UInt8),([195,169]:List UInt8),([48,49,50,51,52,53,54,55,56,57,48,49,50,51,52,53]:List UInt8)]:List (List UInt8))[a]? = some wa:=qa
 have qb':([([]:List UInt8),([97]:List UInt8),([98]:List UInt8),([108,111,103,105,110]:List UInt8),([107,101,121]:List UInt8),([101,120,97,109,112,108,101,46,111,114,103]:List UInt8),([195,169]:List UInt8),([48,49,50,51,52,53,54,55,56,57,48,49,50,51,52,53]:List UInt8)]:List (List UInt8))[b]? = some wb:=qb
 rw [qa',qb']
 simp only [cond_true,bindS]
 rw [Vzi (by omega),List.getD_eq_getElem?_getD,List.getD_eq_getElem?_getD,qa,qb]
 rfl
theorem Vfs {x:ApiItem} {n d:Nat} {b:List UInt8} (h1:1≤x.kind) (h2:x.kind≤8) (h3:bad x=false) (h4:big x=false) (h5:x.kind=4→Lib.validD x.data=true) (hn:n < 512) (hd:d≤8):chk x n d false b=0:=by
 unfold chk adm acc
 rw [h3,h4,show decide (512≤n)=false by simp; omega,show decide (8 < d)=false by simp; omega,show (decide (1≤x.kind)&&decide (x.kind≤8))=true by simp [h1,h2]]
 by_cases hk:x.kind=4
 ·rw [h5 hk]; simp
 ·simp [hk]
theorem Va9a {x:ApiItem} {n d:Nat} {last:List UInt8} (h1:x.kind=1∨x.kind=4) (h3:bad x=false) (h4:big x=false) (h5:x.kind=4→Lib.validD x.data=true) (h6:last=[]∨lss last (enc x)=true) (hn:n < 512) (hd:d≤8):chk x n d true last=0:=by
 have e6:(true&&(!last.isEmpty&&!lss last (enc x)))=false:=by
  rcases h6 with rfl | h
  ·rfl
  ·rw [h]; cases last.isEmpty<;>rfl
 unfold chk adm acc
 rw [h3,h4,show decide (512≤n)=false from decide_eq_false (by omega),show decide (8 < d)=false from decide_eq_false (by omega),e6]
 rcases h1 with hk | hk
 ·rw [hk]; rfl
 ·rw [h5 hk,hk]; rfl
end Go.Proofs.YthoblablopmhfaaGreatDoor

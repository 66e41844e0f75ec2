/- Replies: what both ValidateReply compute. -/
import Derived.Test.YthoblablopmhfaaGreatDoorFns
import Derived.Test.YthoblablopmhfaaGreatDoorLib8
namespace Go.Proofs.YthoblablopmhfaaGreatDoor
set_option linter.unusedVariables false
set_option linter.unusedSimpArgs false
set_option maxRecDepth 100000
open Go Go.Abs
theorem gIn {α:Type} {l:List α} {i:Nat} {x:α} (h:l[i]? = some x):getI l (i:Int)=some x:=by
 unfold getI
 rw [show decide ((0:Int)≤(i:Int))=true by simp]
 exact h
theorem Van {α:Type} {l:List α} {i:Nat} {x:α} (h:l[i]? = some x):i < l.length:=(List.getElem?_eq_some_iff.mp h).1
theorem Var {i:Nat} (h:i < 9000000000000000000):IntKind.wrap .i64 ((i:Int)+1)=((i+1:Nat):Int):=by
 rw [Vad (by omega) (by omega)]; rfl
theorem Vbk {α:Type} {l:List α} {i:Nat} {x:α} (h:l[i]? = some x):decide ((i:Int) < (l.length:Int))=true:=by
 have:=Van h; simp; omega
theorem Vm8 {σ β α:Type} {f:σ→Option (σ⊕β)} {l:List α} {p:α→Bool} {mk:Nat→σ} {bad good:β}
  (h:∀ (i:Nat) (x:α),l[i]? = some x→f (mk i)=some (bif p x then .inl (mk (i+1)) else .inr bad))
  (he:f (mk l.length)=some (.inr good)):∀ (k n j:Nat),j+k=l.length→k < n→iter f n (mk j)=some (bif (l.drop j).all p then good else bad)
 | 0,n+1,j,hj,hn=>by
  have:j=l.length:=by omega
  subst this
  rw [Vae,he]; simp
 | k+1,n+1,j,hj,hn=>by
  have hlt:j < l.length:=by omega
  have hx:l[j]? = some l[j]:=List.getElem?_eq_getElem hlt
  rw [Vae,h j _ hx,List.drop_eq_getElem_cons hlt,List.all_cons]
  cases hp:p l[j]
  ·rfl
  ·show iter f n (mk (j+1))=_
   rw [Vm8 h he k n (j+1) (by omega) (by omega)]
   rfl
theorem Vby {σ β α:Type} {f:σ→Option (σ⊕β)} (l:List α) (p:α→Bool) (mk:Nat→σ) (bad good:β) (hl:l.length < 9000000000000000000)
  (h:∀ (i:Nat) (x:α),l[i]? = some x→f (mk i)=some (bif p x then .inl (mk (i+1)) else .inr bad))
  (he:f (mk l.length)=some (.inr good)):iter f rounds (mk 0)=some (bif l.all p then good else bad):=by
 rw [Vm8 h he l.length rounds 0 (by omega) (by rw [Vam]; omega)]; rfl
theorem Vj6 {σ β α τ:Type} {f:σ→Option (σ⊕β)} {l:List α} {g:Nat→τ→α→τ} {mk:Nat→τ→σ} {out:τ→β} {P:Nat→τ→Prop}
  (h:∀ (i:Nat) (t:τ) (x:α),P i t→l[i]? = some x→f (mk i t)=some (.inl (mk (i+1) (g i t x)))∧P (i+1) (g i t x))
  (he:∀ t,P l.length t→f (mk l.length t)=some (.inr (out t))):∀ (k n j:Nat) (t:τ),P j t→j+k=l.length→k < n→∃ t',P l.length t'∧iter f n (mk j t)=some (out t')
 | 0,n+1,j,t,hp,hj,hn=>by
  have:j=l.length:=by omega
  subst this
  exact ⟨t,hp,by rw [Vae,he t hp]; rfl⟩
 | k+1,n+1,j,t,hp,hj,hn=>by
  have hlt:j < l.length:=by omega
  obtain ⟨e,hp2⟩:=h j t _ hp (List.getElem?_eq_getElem hlt)
  obtain ⟨t',h1,h2⟩:=Vj6 h he k n (j+1) _ hp2 (by omega) (by omega)
  exact ⟨t',h1,by rw [Vae,e]; exact h2⟩
theorem Vcc {σ β α τ:Type} {f:σ→Option (σ⊕β)} (l:List α) (g:Nat→τ→α→τ) (mk:Nat→τ→σ) (out:τ→β) (P:Nat→τ→Prop) (hl:l.length < 9000000000000000000) (t0:τ) (h0:P 0 t0)
  (h:∀ (i:Nat) (t:τ) (x:α),P i t→l[i]? = some x→f (mk i t)=some (.inl (mk (i+1) (g i t x)))∧P (i+1) (g i t x))
  (he:∀ t,P l.length t→f (mk l.length t)=some (.inr (out t))):∃ t',P l.length t'∧iter f rounds (mk 0 t0)=some (out t'):=
 Vj6 h he l.length rounds 0 t0 h0 (by omega) (by rw [Vam]; omega)
def smallI (n:Int):Bool:=decide (0≤n)&&decide (n≤255)
theorem Vix (l:List Int) (hl:l.length < 9000000000000000000):Zce l=some ((),(l.all smallI,())):=by
 unfold Zce Zce_L0
 rw [show ((0:Int))=((0:Nat):Int) from rfl,Vby l smallI (fun i=>(l,(l.length:Int),(i:Int),())) (Sum.inl (false,())) (Sum.inr ()) hl]
 ·cases l.all smallI<;>rfl
 ·intro i x hx
  have h1:=Van hx
  simp only [Zce_L0b,Vbk hx,gIn hx,Option.bind_some,cond_true,Var (i:=i) (by omega),smallI]
  by_cases a:x < 0
  ·simp [a,show ¬ (0:Int)≤x by omega]
  ·by_cases b:255 < x
   ·simp [a,b,show ¬ x≤255 by omega]
   ·simp [a,b,show (0:Int)≤x by omega,show x≤255 by omega]
 ·simp [Zce_L0b]
end Go.Proofs.YthoblablopmhfaaGreatDoor

/- Client data and the beginning of a ceremony: both sides compute the same. No condition. -/
import Derived.Test.YtaddhgkhilmniaaGreatDoorCbA
set_option linter.unusedVariables false
set_option linter.unusedSimpArgs false
set_option maxRecDepth 100000
namespace Go.Proofs.YtaddhgkhilmniaaGreatDoor
open Go Go.Abs Sip
open _root_.Bool renaming not_false → Qa, not_true → Qf
open _root_.List renaming length_append → Qb, length_cons → Qc, length_nil → Qd, append_assoc → Qg, cons_append → Qh, nil_append → Qi
theorem Vzh (l:List UInt8) (h1:1<=l.length) (hl:l.length<=1000):Zcb l=some ((),b64 l,()):=by
 unfold Zcb;have:l.isEmpty=false:=by
  cases l with
  | nil=>simp at h1
  | cons x r=>rfl
 rw [this,show decide (l.length<=1000000)=true by simp; omega];rfl
theorem Vpi (k:Int) (ch o:List UInt8) (cr:Bool) (t:List UInt8) (ho:o.length < 1000000) (ht:t.length<=1000):∃ x e,Zgd ⟨k,ch,o,cr,t⟩=some ((),x,e,())/\Zbk ⟨k,ch,o,cr,t⟩=some ((),x,e,()):=by
 unfold Zgd Zbk Zej;dsimp only;have hkk:k=1\/k=2\/(¬ k=1/\¬ k=2):=by omega
 have po:=Vm8 o (by omega);have pt:=Vm8 t (by omega);have ro:=Vki o (by omega);have rt:=Vki t (by omega);by_cases hc1:(ch.length:Int) < 1
 ·rcases hkk with rfl | rfl | ⟨h1,h2⟩
  ·exact ⟨[],9,by simp [hc1],by simp [hc1]⟩
  ·exact ⟨[],9,by simp [hc1],by simp [hc1]⟩
  ·exact ⟨[],3,by simp [h1,h2],by simp [h1,h2]⟩
 by_cases hc2:(64:Int) < (ch.length:Int)
 ·rcases hkk with rfl | rfl | ⟨h1,h2⟩
  ·exact ⟨[],9,by simp [hc1,hc2],by simp [hc1,hc2]⟩
  ·exact ⟨[],9,by simp [hc1,hc2],by simp [hc1,hc2]⟩
  ·exact ⟨[],3,by simp [h1,h2],by simp [h1,h2]⟩
 have hE:=Vzh ch (by omega) (by omega);have hR:=Vzg ch (by omega);have hB:(b64 ch).length<=256:=by
  have:=Vi2 ch;omega
 generalize b64 ch=B at hE hR hB;generalize (porig o).1=qo at po ro;generalize (porig o).2=eo at po ro;generalize (porig t).1=qt at pt rt;generalize (porig t).2=et at pt rt;rcases hkk with rfl | rfl | ⟨h1,h2⟩;rotate_left 2
 ·exact ⟨[],3,by simp [h1,h2],by simp [h1,h2]⟩
 all_goals
  simp only [decide_true,cond_true,bindS,Sum.elim_inl,hc1,hc2,decide_false,cond_false,po,ro,hE,hR,show decide ((2:Int)=1)=false from rfl,show decide (([112,97,115,115,107,101,121,46,99,114,101,97,116,101]:List UInt8)=[])=false from rfl,show decide (([112,97,115,115,107,101,121,46,103,101,116]:List UInt8)=[])=false from rfl];by_cases he:eo=0
  ·subst he;simp only [decide_true,Qf,cond_false];cases cr
   ·by_cases htn:t=[]
    ·subst htn;exact ⟨_,0,(by
      simp (disch:=(simp only [Qb,Qc,Qd]; omega)) only [decide_true,Qf,Qa,cond_true,cond_false,bleS];rfl),(by
      simp (disch:=(simp only [Qb,Qc,Qd]; omega)) only [decide_true,Qf,Qa,cond_true,cond_false,bleS];simp only [Qg,Qh,Qi])⟩
    ·refine ⟨[],4,?_,?_⟩
     ·simp only [htn,decide_false,Qa,cond_true]
     ·simp (disch:=(simp only [Qb,Qc,Qd]; omega)) only [htn,decide_false,Qf,Qa,cond_true,cond_false,bleS]
   ·simp only [pt,rt,bindS];by_cases hte:et=0
    ·subst hte;exact ⟨_,0,(by
      simp (disch:=(simp only [Qb,Qc,Qd]; omega)) only [decide_true,Qf,Qa,cond_true,cond_false,bleS];cases decide (t=[])<;>rfl),(by
      simp (disch:=(simp only [Qb,Qc,Qd]; omega)) only [decide_true,Qf,Qa,cond_true,cond_false,bleS];simp only [Qg,Qh,Qi])⟩
    ·refine ⟨[],et,?_,?_⟩
     ·simp (disch:=(simp only [Qb,Qc,Qd]; omega)) only [hte,decide_false,Qf,Qa,cond_true,cond_false,bleS];cases decide (t=[])<;>rfl
     ·simp (disch:=(simp only [Qb,Qc,Qd]; omega)) only [hte,decide_false,Qf,Qa,cond_true,cond_false,bleS]
  ·refine ⟨[],eo,?_,?_⟩
   ·simp only [he,decide_false,Qa,cond_true]
   ·simp only [he,decide_false,Qa,cond_true]
end Go.Proofs.YtaddhgkhilmniaaGreatDoor

/- The law MessageDigest: the digest of a request to make or to sign does not hang on its proof of authority. -/
import Derived.Test.YtancibcbaajjkaaGreatDoorMqW
set_option linter.unusedVariables false
set_option linter.unusedSimpArgs false
set_option maxRecDepth 100000
namespace Go.Proofs.YtancibcbaajjkaaGreatDoor
open Go Go.Abs
def given (r:Jb) (a:BitVec 64):Jb:=⟨r.kind,r.rP,r.user,r.name,r.jaa,r.jd,r.jg,r.list,r.jj,r.js,r.ju,r.jp,r.jl,a,true,r.jv,r.box,r.proof,r.jb,r.iD,r.count⟩
theorem Vq4 {r:Jb} (h:SaneQ r) (a:BitVec 64):SaneQ (given r a):=⟨h.rp,h.us,h.nm,h.li,h.bx,h.pf,h.ii,h.i1,h.i2,h.i3,h.i4,h.i5,h.i6⟩
theorem Vwq (r:Jb) (a:BitVec 64) (i:Nat) (hi:i < 19) (hn:i≠12):(useQ (given r a)).getD i false=(useQ r).getD i false:=by
 rcases (by omega:i=0\/i=1\/i=2\/i=3\/i=4\/i=5\/i=6\/i=7\/i=8\/i=9\/i=10\/i=11\/i=13\/i=14\/i=15\/i=16\/i=17\/i=18) with rfl | rfl | rfl | rfl | rfl | rfl | rfl | rfl | rfl | rfl | rfl | rfl | rfl | rfl | rfl | rfl | rfl | rfl<;>rfl
theorem Vwr {r:Jb} (hk:r.kind=2\/r.kind=3) (hv:valQ r=0) (a:BitVec 64):valQ (given r a)=0:=by
 have g:=Vf6 hv
 have hf:fitQ (mkQ r.kind) (useQ (given r a))=true:=by
  have:=g.ft
  unfold fitQ at this |-
  rw [List.all_eq_true] at this |-
  intro i hi
  have h1:=this i hi
  rw [List.mem_range] at hi
  by_cases hn:i=12
  ·subst hn
   have:(mkQ r.kind).getLsbD (12+1)=true:=by rcases hk with e | e<;>rw [e]<;>decide
   rw [this,Bool.or_true]
  ·rw [Vwq r a i hi hn]; exact h1
 have h2:=hv
 unfold valQ at h2 |-
 rw [show (given r a).kind=r.kind from rfl,show numQ (given r a)=numQ r from rfl,show bigQ (given r a)=bigQ r from rfl,show (given r a).rP=r.rP from rfl,show (given r a).name=r.name from rfl,show idsQ (given r a)=idsQ r from rfl,hf,show (!decide ((given r a).auth=0#64)&&!(given r a).jk)=false from by rw [show (given r a).jk=true from rfl]; simp]
 rw [g.ft,g.au] at h2
 exact h2
theorem Vws {r:Jb} (hk:r.kind=2\/r.kind=3) (hv:valQ r=0) (a:BitVec 64):digQ (given r a)=digQ r:=by
 unfold digQ
 rw [Vwr hk hv a,hv,show bare (given r a)=bare r from rfl]
theorem Vy7 {r:Jb} (hv:valQ r=0):digQ (bare r)=digQ r:=by
 unfold digQ
 rw [Vpi hv,hv,show bare (bare r)=bare r from rfl]
theorem Ve0 (a0 a1:Int) (a2:BitVec 64) (hd:MessageDigest_dom a0 a1 a2):Ok (Zaf a0 a1 a2) λr=>r.2.1=true:=by
 unfold Zaf
 refine Ok.bind (Ok.mono (Vq3 a0 a1) ?_)
 rintro ⟨_,r,_⟩ hr
 dsimp only at *
 have same:∀ (x:BitVec 64),Ok (bif decide (x=x) then (Zdm.bind λr4=>(some ((),(r4.2.1,())):Option (Unit×(Bool×Unit)))) else some ((),(false,()))) λr=>r.2.1=true:=λx=>by
  rw [decide_eq_true (rfl:x=x),cond_true,Veja]
  exact Ok.some rfl
 rw [Vf7 r hr,Vic r hr,Vb7 r hr,bindU,bindU,bindU]
 dsimp only
 have both:∀ (hk:r.kind=2\/r.kind=3) (hv:valQ r=0),Ok ((Zho (bare r)).bind λr9=>((Zho (given r a2)).bind λr10=>(bif (decide (r9.2.1=r10.2.1)) then ((Zho (bare r)).bind λr11=>((some ((),digQ r,())).bind λr12=>(bif (decide (r11.2.1=r12.2.1)) then ((Zdm).bind λr13=>(some ((),(r13.2.1,())):Option (Unit×(Bool×Unit)))) else (some ((),(false,())))))) else (some ((),(false,())))))) λr=>r.2.1=true:=λhk hv=>by
  rw [Vf7 _ (Vib hr),Vf7 _ (Vq4 hr a2),Vws hk hv a2,Vy7 hv,bindU,bindU]
  dsimp only
  rw [decide_eq_true rfl,cond_true,bindU,bindU]
  exact same _
 refine Ok.cond (λh2=>?_) λh2=>?_
 ·refine Ok.cond (λ_=>same _) λh3=>?_
  have h3:r.kind=3:=by
   cases h:decide (r.kind=3)
   ·rw [h] at h3; cases h3
   ·exact of_decide_eq_true h
  refine Ok.cond (λ_=>same _) λh4=>?_
  have h4:valQ r=0:=by
   cases h:decide (valQ r=0)
   ·rw [h] at h4; cases h4
   ·exact of_decide_eq_true h
  exact both (.inr h3) h4
 ·have h2:r.kind=2:=by
   cases h:decide (r.kind=2)
   ·rw [h] at h2; cases h2
   ·exact of_decide_eq_true h
  refine Ok.cond (λ_=>same _) λh4=>?_
  have h4:valQ r=0:=by
   cases h:decide (valQ r=0)
   ·rw [h] at h4; cases h4
   ·exact of_decide_eq_true h
  exact both (.inl h2) h4
end Go.Proofs.YtancibcbaajjkaaGreatDoor

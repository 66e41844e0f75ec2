/- The digest of a request; `requests` holds of every sane request. -/
import Derived.Test.YtancibcbaajjkaaGreatDoorMqG
set_option linter.unusedVariables false
set_option linter.unusedSimpArgs false
set_option maxRecDepth 100000
namespace Go.Proofs.YtancibcbaajjkaaGreatDoor
open Go Go.Abs
def bare (r:Jb):Jb:=⟨r.kind,r.rP,r.user,r.name,r.jaa,r.jc,r.jf,r.list,r.ji,r.js,r.jv,r.jo,r.jj,0#64,false,r.ju,r.box,r.proof,r.jb,r.iD,r.count⟩
theorem Vm6 {r:Jb} (h:SaneQ r):SaneQ (bare r):=⟨h.rp,h.us,h.nm,h.li,h.bx,h.pf,h.ii,h.i1,h.i2,h.i3,h.i4,h.i5,h.i6⟩
theorem Vy2 (r:Jb) (i:Nat) (h:(useQ (bare r)).getD i false=true):(useQ r).getD i false=true:=by
 by_cases hlt:i < 19
 ·rcases (by omega:i=12\/i≠12) with rfl | hn
  ·have:(useQ (bare r)).getD 12 false=false:=rfl
   rw [this] at h; cases h
  ·have e:∀ j:Fin 19,j.val≠12->(useQ (bare r)).getD j.val false=(useQ r).getD j.val false:=by
    intro j hj
    rcases j with ⟨j,hj2⟩
    rcases (by omega:j=0\/j=1\/j=2\/j=3\/j=4\/j=5\/j=6\/j=7\/j=8\/j=9\/j=10\/j=11\/j=12\/j=13\/j=14\/j=15\/j=16\/j=17\/j=18) with rfl | rfl | rfl | rfl | rfl | rfl | rfl | rfl | rfl | rfl | rfl | rfl | rfl | rfl | rfl | rfl | rfl | rfl | rfl<;>first | rfl | exact absurd rfl hj
   rw [<- e ⟨i,hlt⟩ hn]; exact h
 ·have:(useQ (bare r)).getD i false=false:=by
   rw [List.getD_eq_getElem?_getD,List.getElem?_eq_none (by simp [useQ]; omega)]; rfl
  rw [this] at h; cases h
theorem Vy3 {r:Jb} (h:valQ r=0):valQ (bare r)=0:=by
 have g:=Vig h
 have hf:fitQ (mkQ r.kind) (useQ (bare r))=true:=by
  have:=g.ft
  unfold fitQ at this |-
  rw [List.all_eq_true] at this |-
  intro i hi
  have h1:=this i hi
  cases hu:(useQ (bare r)).getD i false
  ·rfl
  ·rw [Vy2 r i hu] at h1; exact h1
 unfold valQ at h |-
 rw [show (bare r).kind=r.kind from rfl,show numQ (bare r)=numQ r from rfl,show bigQ (bare r)=bigQ r from rfl,show (bare r).rP=r.rP from rfl,show (bare r).name=r.name from rfl,show idsQ (bare r)=idsQ r from rfl,hf,show (!decide ((bare r).auth=0#64)&&!(bare r).jk)=false from rfl]
 rw [g.ft,g.au] at h
 exact h
def mac (k:BitVec 64) (d:Int) (l:List UInt8):BitVec 64:=Sip.sip k (1#64+BitVec.ofInt 64 d) l
def hsh (d:Int) (l:List UInt8):BitVec 64:=Sip.sip (BitVec.ofInt 64 d) 0#64 l
theorem rMac (k:BitVec 64) (d:Int) (l:List UInt8) (h:l.length < 1000000000):Zhg k d l=some ((),mac k d l,()):=by
 unfold Zhg; rw [Sip.refsum_ok _ _ _ h]; rfl
theorem dHash (d:Int) (l:List UInt8) (h:l.length < 1000000000):Zih d l=some ((),hsh d l,()):=by
 unfold Zih; rw [Sip.sum_ok _ _ _ h]; rfl
theorem rHash (d:Int) (l:List UInt8) (h:l.length < 1000000000):Zge d l=some ((),hsh d l,()):=by
 unfold Zge; rw [Sip.refsum_ok _ _ _ h]; rfl
theorem Vp1 (r:Jb):(reqO r).1.length < 1000000000:=by
 unfold reqO
 by_cases hv:valQ r=0
 ·rw [decide_eq_true hv]
  have hle:=Vlb (chosI (useQ r) (valsQ r)) (fitF (Vig hv)).data
  have hl:=(fitF (Vig hv)).len
  simp only [Bool.not_true,cond_false,List.length_cons]
  omega
 ·rw [decide_eq_false hv]; exact Nat.lt_of_le_of_lt (Nat.le_refl 0) (by omega)
def digQ (r:Jb):BitVec 64:=bif !decide (valQ r=0) then 0#64 else hsh 21 (reqO (bare r)).1
theorem Vq8 (r:Jb) (h:SaneQ r):Zhq r=some ((),digQ r,()):=by
 unfold Zhq digQ
 rw [Vd9 r h]
 simp only [bindU]
 by_cases hv:valQ r=0
 ·rw [decide_eq_true hv]
  simp only [Bool.not_true,cond_false]
  have e:=Vju (bare r) (Vm6 h)
  unfold bare at e
  rw [e]
  simp only [bindU]
  have h2:(reqO (bare r)).2=0:=by unfold reqO; rw [decide_eq_true (Vy3 hv)]; rfl
  unfold bare at h2
  rw [h2]
  simp only [decide_true,Bool.not_true,cond_false]
  have hh:=dHash 21 _ (Vp1 (bare r))
  unfold bare at hh
  rw [hh]
  rfl
 ·rw [decide_eq_false hv]
  rfl
theorem Vii (r:Jb) (h:SaneQ r):Zcv r=some ((),digQ r,()):=by
 unfold Zcv digQ
 rw [Vb8 r h]
 simp only [bindU]
 by_cases hv:valQ r=0
 ·rw [decide_eq_true hv]
  simp only [Bool.not_true,cond_false]
  have e:=Vih (bare r) (Vm6 h)
  unfold bare at e
  rw [e]
  simp only [bindU]
  have hh:=rHash 21 _ (Vp1 (bare r))
  unfold bare at hh
  rw [hh]
  rfl
 ·rw [decide_eq_false hv]
  rfl
theorem Vij (r:Jb) (h:SaneQ r):Zbq r=some ((),true,()):=by
 unfold Zbq
 rw [Vju r h,Vih r h,Vd9 r h,Vb8 r h,Vq8 r h,Vii r h]
 simp only [bindU,decide_true,cond_true]
end Go.Proofs.YtancibcbaajjkaaGreatDoor

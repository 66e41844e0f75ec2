/- Replies: both ValidateReply compute valR; SameReply is equality. -/
import Derived.Test.YthoblablopmhfaaGreatDoorFns
import Derived.Test.YthoblablopmhfaaGreatDoorMsB
namespace Go.Proofs.YthoblablopmhfaaGreatDoor
set_option linter.unusedVariables false
set_option linter.unusedSimpArgs false
set_option maxRecDepth 100000
open Go Go.Abs
theorem Voc (r:ApiReply) (h:Sane r):Zao_L1 (r.entries,(r.entries.length:Int),(0:Int),())=some (bif r.entries.all idE then Sum.inr () else Sum.inl (4,())):=by
 unfold Zao_L1
 rw [show ((0:Int))=((0:Nat):Int) from rfl,Vby r.entries idE (fun i=>(r.entries,(r.entries.length:Int),(i:Int),())) (Sum.inl (4,())) (Sum.inr ()) (by have:=h.e; omega)]
 ·intro i x hx
  have h1:=Van hx
  have h2:=h.e
  simp only [Zao_L1b,Vbk hx,gIn hx,Option.bind_some,cond_true,Var (i:=i) (by omega),idE]
  cases decide ((x.iD.length:Int)=176)<;>rfl
 ·simp [Zao_L1b]
theorem Vd8 (r:ApiReply) (h:Sane r):Zao r=some ((),valR r,()):=by
 obtain ⟨t,u1,u2,u3⟩:=Vp0 r
 unfold Zao
 simp only [Vq3 r h,Vza r h,Vy9 r h,u1,Option.bind_some,Voc r h]
 have eid:decide ((0:Int) < (r.iD.length:Int)) = !decide ((r.iD.length:Int)=0):=by
  by_cases a:(r.iD.length:Int)=0
  ·simp [a]
  ·rw [decide_eq_false a,decide_eq_true (by omega)]; rfl
 have e1:decide (0≤r.err) = !decide (r.err < 0):=by
  by_cases a:r.err < 0
  ·rw [decide_eq_true a,decide_eq_false (by omega)]; rfl
  ·rw [decide_eq_false a,decide_eq_true (by omega)]; rfl
 have e2:decide (r.err≤42) = !decide (42 < r.err):=by
  by_cases a:42 < r.err
  ·rw [decide_eq_true a,decide_eq_false (by omega)]; rfl
  ·rw [decide_eq_false a,decide_eq_true (by omega)]; rfl
 rw [u3,eid]
 unfold valR errR idR zeroR
 rw [e1,e2]
 cases decide (r.err < 0)
 ·cases decide (42 < r.err)
  ·cases numR r
   ·rfl
   ·cases decide (r.err=0)
    ·cases (useR r).all (fun b=>!b)
     ·rfl
     ·cases bigR r
      ·cases txtR r
       ·rfl
       ·cases decide ((r.iD.length:Int)=0)<;>cases decide ((r.iD.length:Int)=176)<;>simp only [cond_true,cond_false,Bool.not_true,Bool.not_false,Option.bind_some,Sum.elim_inl,Sum.elim_inr,Voc r h,Bool.or_true,Bool.or_false,Bool.true_and,Bool.false_and]<;>cases r.entries.all idE<;>rfl
      ·rfl
    ·cases bigR r
     ·cases txtR r
      ·rfl
      ·cases decide ((r.iD.length:Int)=0)<;>cases decide ((r.iD.length:Int)=176)<;>simp only [cond_true,cond_false,Bool.not_true,Bool.not_false,Option.bind_some,Sum.elim_inl,Sum.elim_inr,Voc r h,Bool.or_true,Bool.or_false,Bool.true_and,Bool.false_and]<;>cases r.entries.all idE<;>rfl
     ·rfl
  ·rfl
 ·rfl
theorem Viz (a b c:Int):Zbe a b c=some ((),decide (b≤a)&&decide (a≤c),()):=by
 unfold Zbe
 cases decide (b≤a)<;>rfl
theorem zipEq {α:Type} [DecidableEq α]:∀ {l m:List α},l.length=m.length→(l.zip m).all (fun q=>decide (q.1=q.2))=decide (l=m)
 | [],[],_=>rfl
 | x::l,y::m,h=>by
  rw [List.zip_cons_cons,List.all_cons,zipEq (by simpa using h)]
  by_cases e:x=y<;>by_cases f:l=m<;>simp [e,f]
theorem zipAt {α:Type} {l m:List α} {i:Nat} {q:α×α} (hq:(l.zip m)[i]? = some q):l[i]? = some q.1∧m[i]? = some q.2:=by
 rw [List.getElem?_zip_eq_some] at hq; exact hq
theorem Vjwa (a b:ApiReply) (h:a.certificates.length=b.certificates.length) (hl:a.certificates.length < 1000000):Zam_L0 ((a,()),(b,()),(0:Int),())=some (bif decide (a.certificates=b.certificates) then Sum.inr ((a,()),(b,()),()) else Sum.inl (false,())):=by
 have hz:(a.certificates.zip b.certificates).length=a.certificates.length:=by simp [h]
 unfold Zam_L0
 rw [show ((0:Int))=((0:Nat):Int) from rfl,Vby (a.certificates.zip b.certificates) (fun q=>decide (q.1=q.2)) (fun i=>((a,()),(b,()),(i:Int),())) (Sum.inl (false,())) (Sum.inr ((a,()),(b,()),())) (by omega),zipEq h]
 ·intro i q hq
  obtain ⟨h1,h2⟩:=zipAt hq
  have h3:=Van h1
  simp only [Zam_L0b,Vbk h1,gIn h1,gIn h2,Option.bind_some,cond_true,Var (i:=i) (by omega)]
  cases decide (q.1=q.2)<;>rfl
 ·rw [hz]; simp [Zam_L0b]
theorem entEq (x y:ApiEntry):decide (x=y)=(decide (x.rP=y.rP)&&(decide (x.user=y.user)&&(decide (x.name=y.name)&&(decide (x.iD=y.iD)&&decide (x.left=y.left))))):=by
 obtain ⟨a1,a2,a3,a4,a5⟩:=x; obtain ⟨b1,b2,b3,b4,b5⟩:=y
 simp only [ApiEntry.mk.injEq,Bool.decide_and]
theorem Vjxa (a b:ApiReply) (h:a.entries.length=b.entries.length) (hl:a.entries.length < 1000000):Zam_L2 ((a,()),(b,()),(0:Int),())=some (bif decide (a.entries=b.entries) then Sum.inr ((a,()),(b,()),()) else Sum.inl (false,())):=by
 have hz:(a.entries.zip b.entries).length=a.entries.length:=by simp [h]
 unfold Zam_L2
 rw [show ((0:Int))=((0:Nat):Int) from rfl,Vby (a.entries.zip b.entries) (fun q=>decide (q.1=q.2)) (fun i=>((a,()),(b,()),(i:Int),())) (Sum.inl (false,())) (Sum.inr ((a,()),(b,()),())) (by omega),zipEq h]
 ·intro i q hq
  obtain ⟨h1,h2⟩:=zipAt hq
  have h3:=Van h1
  simp only [Zam_L2b,Vbk h1,gIn h1,gIn h2,Option.bind_some,cond_true,Var (i:=i) (by omega),entEq]
  cases decide (q.1.rP=q.2.rP)<;>cases decide (q.1.user=q.2.user)<;>cases decide (q.1.name=q.2.name)<;>cases decide (q.1.iD=q.2.iD)<;>cases decide (q.1.left=q.2.left)<;>rfl
 ·rw [hz]; simp [Zam_L2b]
theorem Vp1 {α:Type} [DecidableEq α] {a b:List α} (h:decide ((a.length:Int)=(b.length:Int))=false):a≠b:=by
 rintro rfl; simp at h
theorem Vew (a b:ApiReply) (h1:a.certificates.length < 1000000) (h2:a.entries.length < 1000000):Zam a b=some ((),decide (a=b),()):=by
 unfold Zam
 cases hc:decide ((a.certificates.length:Int)=(b.certificates.length:Int))
 ·rw [decide_eq_false (show ¬ a=b from fun e=>Vp1 hc (by rw [e]))]; rfl
 ·cases he:decide ((a.entries.length:Int)=(b.entries.length:Int))
  ·rw [decide_eq_false (show ¬ a=b from fun e=>Vp1 he (by rw [e]))]; rfl
  ·have lc:a.certificates.length=b.certificates.length:=by have:=of_decide_eq_true hc; omega
   have le:a.entries.length=b.entries.length:=by have:=of_decide_eq_true he; omega
   rw [Vjwa a b lc h1]
   cases hd:decide (a.certificates=b.certificates)
   ·rw [decide_eq_false (show ¬ a=b from fun e=>of_decide_eq_false hd (by rw [e]))]; rfl
   ·simp only [Bool.not_true,cond_false,cond_true,Option.bind_some,Sum.elim_inr]
    rw [Vjxa a b le h2]
    cases hf:decide (a.entries=b.entries)
    ·rw [decide_eq_false (show ¬ a=b from fun e=>of_decide_eq_false hf (by rw [e]))]; rfl
    ·simp only [cond_true,Option.bind_some,Sum.elim_inr]
     obtain ⟨a1,a2,a3,a4,a5,a6,a7,a8,a9,a10,a11,a12,a13,a14,a15,a16,a17,a18⟩:=a
     obtain ⟨b1,b2,b3,b4,b5,b6,b7,b8,b9,b10,b11,b12,b13,b14,b15,b16,b17,b18⟩:=b
     dsimp only at *
     have hd2:=of_decide_eq_true hd
     have hf2:=of_decide_eq_true hf
     clear hd hf hc he lc le
     subst hd2
     subst hf2
     simp only [ApiReply.mk.injEq,Bool.decide_and,decide_true,Bool.true_and,Bool.and_true]
     cases decide (a1=b1)<;>simp only [cond_true,cond_false,Bool.true_and,Bool.false_and]
     cases decide (a2=b2)<;>simp only [cond_true,cond_false,Bool.true_and,Bool.false_and]
     cases decide (a3=b3)<;>simp only [cond_true,cond_false,Bool.true_and,Bool.false_and]
     cases decide (a5=b5)<;>simp only [cond_true,cond_false,Bool.true_and,Bool.false_and]
     cases decide (a6=b6)<;>simp only [cond_true,cond_false,Bool.true_and,Bool.false_and]
     cases decide (a7=b7)<;>simp only [cond_true,cond_false,Bool.true_and,Bool.false_and]
     cases decide (a8=b8)<;>simp only [cond_true,cond_false,Bool.true_and,Bool.false_and]
     cases decide (a9=b9)<;>simp only [cond_true,cond_false,Bool.true_and,Bool.false_and]
     cases decide (a10=b10)<;>simp only [cond_true,cond_false,Bool.true_and,Bool.false_and]
     cases decide (a11=b11)<;>simp only [cond_true,cond_false,Bool.true_and,Bool.false_and]
     cases decide (a12=b12)<;>simp only [cond_true,cond_false,Bool.true_and,Bool.false_and]
     cases decide (a13=b13)<;>simp only [cond_true,cond_false,Bool.true_and,Bool.false_and]
     cases decide (a14=b14)<;>simp only [cond_true,cond_false,Bool.true_and,Bool.false_and]
     cases decide (a15=b15)<;>simp only [cond_true,cond_false,Bool.true_and,Bool.false_and]
     cases a16<;>cases b16<;>cases a17<;>cases b17<;>rfl
end Go.Proofs.YthoblablopmhfaaGreatDoor

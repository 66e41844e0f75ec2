/- Replies: the reference's ValidateReply computes valR. -/
import Derived.Test.YthoblablopmhfaaGreatDoorFns
import Derived.Test.YthoblablopmhfaaGreatDoorMsC
namespace Go.Proofs.YthoblablopmhfaaGreatDoor
set_option linter.unusedVariables false
set_option linter.unusedSimpArgs false
set_option maxRecDepth 100000
open Go Go.Abs
theorem Vp2 {α:Type} (p:α→Bool):∀ (l:List α) (b:Bool),l.foldl (fun t x=>t||p x) b=(b||l.any p)
 | [],b=>by simp
 | x::l,b=>by rw [List.foldl_cons,Vp2 p l,List.any_cons,Bool.or_assoc]
theorem rL2 (r:ApiReply) (h:Sane r) (b:Bool):Zaf_L2 ((r,()),b,(0:Int),())=some ((r,()),(b||r.certificates.any bigC),()):=by
 unfold Zaf_L2
 rw [show ((0:Int))=((0:Nat):Int) from rfl,Ve4 r.certificates (fun (t:Bool) x=>t||bigC x) (fun i t=>((r,()),t,(i:Int),())) (fun t=>((r,()),t,())) (by have:=h.c; omega) b,Vp2]
 ·intro i t x hx
  have h1:=Van hx
  have h2:=h.c
  simp only [Zaf_L2b,Vbk hx,gIn hx,Option.bind_some,cond_true,Var (i:=i) (by omega),bigC]
  cases t<;>rfl
 ·intro t; simp [Zaf_L2b]
theorem Vm9:∀ (l:List ApiEntry) (a b c:Bool),l.foldl (fun (t:Bool×Bool×Bool) x=>(t.1||bigE x,t.2.1&&txtE x,t.2.2&&idE x)) (a,b,c)=(a||l.any bigE,b&&l.all txtE,c&&l.all idE)
 | [],a,b,c=>by simp
 | x::l,a,b,c=>by rw [List.foldl_cons,Vm9 l]; simp [Bool.or_assoc,Bool.and_assoc]
theorem rL4 (r:ApiReply) (h:Sane r) (a b c:Bool):Zaf_L4 ((r,()),a,b,c,(0:Int),())=some ((a||r.entries.any bigE),(b&&r.entries.all txtE),(c&&r.entries.all idE),()):=by
 unfold Zaf_L4
 rw [show ((0:Int))=((0:Nat):Int) from rfl,Ve4 r.entries (fun (t:Bool×Bool×Bool) x=>(t.1||bigE x,t.2.1&&txtE x,t.2.2&&idE x)) (fun i t=>((r,()),t.1,t.2.1,t.2.2,(i:Int),())) (fun t=>(t.1,t.2.1,t.2.2,())) (by have:=h.e; omega) (a,b,c),Vm9]
 ·rintro i ⟨a,b,c⟩ x hx
  have h1:=Van hx
  have h2:=h.e
  simp only [Zaf_L4b,Vbk hx,gIn hx,Option.bind_some,cond_true,Var (i:=i) (by omega),bigE,txtE,idE]
  rw [Ve5 (h.at hx).1,Ve5 (h.at hx).2]
  simp only [Option.bind_some]
  cases a<;>cases b<;>cases c<;>cases Lib.validD x.rP<;>cases decide ((64:Int) < (x.rP.length:Int))<;>cases decide ((16:Int) < (x.user.length:Int))<;>rfl
 ·intro t; simp [Zaf_L4b]
theorem rL0 (r:ApiReply) (h:Sane r):Zaf_L0 ((r,()),(0:Int),())=some (bif r.entries.all (fun x=>smallI x.left) then Sum.inr ((r,()),()) else Sum.inl (9,())):=by
 unfold Zaf_L0
 rw [show ((0:Int))=((0:Nat):Int) from rfl,Vby r.entries (fun x=>smallI x.left) (fun i=>((r,()),(i:Int),())) (Sum.inl (9,())) (Sum.inr ((r,()),())) (by have:=h.e; omega)]
 ·intro i x hx
  have h1:=Van hx
  have h2:=h.e
  simp only [Zaf_L0b,Vbk hx,gIn hx,Option.bind_some,cond_true,Var (i:=i) (by omega),Viz,smallI]
  cases (decide ((0:Int)≤x.left)&&decide (x.left≤255))<;>rfl
 ·simp [Zaf_L0b]
theorem Vw5 {α:Type} [DecidableEq α] (l:List α):(!decide ((0:Int) < (l.length:Int)))=decide (l=[]):=by
 cases l with
 | nil=>rfl
 | cons a l=>rw [decide_eq_true (show (0:Int) < (((a::l).length:Nat):Int) by rw [List.length_cons]; omega)]; rfl
theorem Vw6 (r:ApiReply) (h:Sane r):Zbt r=some ((),zeroR r,()):=by
 unfold Zbt
 rw [Vew _ _ (by have:=h.c; omega) (by have:=h.e; omega)]
 simp only [Option.bind_some]
 obtain ⟨a1,a2,a3,a4,a5,a6,a7,a8,a9,a10,a11,a12,a13,a14,a15,a16,a17,a18⟩:=r
 unfold zeroR useR
 simp only [ApiReply.mk.injEq,Bool.decide_and,decide_true,Bool.true_and,List.all_cons,List.all_nil,Bool.and_true,Vw5,Bool.not_not]
 have e (b:Bool):decide (b=false) = !b:=by cases b<;>rfl
 rw [e,e]
theorem Vdl (r:ApiReply) (h:Sane r):Zaf r=some ((),valR r,()):=by
 unfold Zaf
 simp only [Viz,Option.bind_some,rL0 r h]
 unfold valR
 have e1:(decide ((0:Int)≤r.err)&&decide (r.err≤42))=errR r:=rfl
 rw [e1]
 cases errR r
 ·rfl
 have e2:(decide ((0:Int)≤r.format)&&decide (r.format≤255))=smallI r.format:=rfl
 have e3:(decide ((0:Int)≤r.count)&&decide (r.count≤255))=smallI r.count:=rfl
 have e4:(decide ((0:Int)≤r.retries)&&decide (r.retries≤255))=smallI r.retries:=rfl
 have e5:(decide ((0:Int)≤r.rooms)&&decide (r.rooms≤255))=smallI r.rooms:=rfl
 have e6:(decide ((0:Int)≤r.leases)&&decide (r.leases≤255))=smallI r.leases:=rfl
 rw [e2,e3,e4,e5,e6]
 unfold numR
 cases smallI r.format
 ·simp
 cases smallI r.count
 ·simp
 cases smallI r.retries
 ·simp
 cases smallI r.rooms
 ·simp
 cases smallI r.leases
 ·simp
 cases r.entries.all (fun x=>smallI x.left)
 ·rfl
 simp only [Bool.not_true,cond_false,cond_true,Option.bind_some,Sum.elim_inr,Bool.and_true,Bool.true_and,Vw6 r h,rL2 r h,rL4 r h,Ve5 h.n]
 have f1:decide ((1024:Int) < (r.authData.length:Int))=bigC r.authData:=rfl
 have f2:decide ((1024:Int) < (r.signature.length:Int))=bigC r.signature:=rfl
 have f3:decide ((1024:Int) < (r.box.length:Int))=bigC r.box:=rfl
 rw [f1,f2,f3]
 have key:∀ (big:Bool),(bif decide ((r.iD.length:Int)=0) then (bif (big||r.certificates.any bigC||r.entries.any bigE) then (some ((),((8:Int),()))) else (bif (!(Lib.validD r.name&&r.entries.all txtE)) then (some ((),((6:Int),()))) else (bif (!(r.entries.all idE)) then (some ((),((4:Int),()))) else (some ((),((0:Int),()))))))
   else (bif (big||r.certificates.any bigC||r.entries.any bigE) then (some ((),((8:Int),()))) else (bif (!(Lib.validD r.name&&r.entries.all txtE)) then (some ((),((6:Int),()))) else (bif (!(decide ((r.iD.length:Int)=176)&&r.entries.all idE)) then (some ((),((4:Int),()))) else (some ((),((0:Int),())))))))=some ((),(bif (big||r.certificates.any bigC||r.entries.any bigE) then 8 else bif !txtR r then 6 else bif !idR r then 4 else 0),()):=by
  intro big
  unfold txtR idR
  cases decide ((r.iD.length:Int)=0)<;>cases (big||r.certificates.any bigC||r.entries.any bigE)<;>cases (Lib.validD r.name&&r.entries.all txtE)<;>cases decide ((r.iD.length:Int)=176)<;>cases r.entries.all idE<;>rfl
 unfold bigR bigR0
 simp only [key]
 cases decide (r.err=0)
 ·cases zeroR r
  ·rfl
  ·cases bigC r.authData
   ·cases bigC r.signature
    ·cases bigC r.box
     ·cases decide ((3:Int) < (r.certificates.length:Int))
      ·cases decide ((8:Int) < (r.entries.length:Int))
       ·cases decide ((16:Int) < (r.user.length:Int))<;>rfl
       ·rfl
      ·rfl
     ·rfl
    ·rfl
   ·rfl
 ·cases bigC r.authData
  ·cases bigC r.signature
   ·cases bigC r.box
    ·cases decide ((3:Int) < (r.certificates.length:Int))
     ·cases decide ((8:Int) < (r.entries.length:Int))
      ·cases decide ((16:Int) < (r.user.length:Int))<;>rfl
      ·rfl
     ·rfl
    ·rfl
   ·rfl
  ·rfl
end Go.Proofs.YthoblablopmhfaaGreatDoor

/- Replies: what is encoded is decoded; `replies` of the law. -/
import Derived.Test.YthoblablopmhfaaGreatDoorFns
import Derived.Test.YthoblablopmhfaaGreatDoorMsQ
namespace Go.Proofs.YthoblablopmhfaaGreatDoor
set_option linter.unusedVariables false
set_option linter.unusedSimpArgs false
set_option maxRecDepth 100000
open Go Go.Abs
def bareR (e:Int):ApiReply:=⟨e,[],[],[],(0:Int),[],([]:List UInt8),([]:List UInt8),(0:Int),0#64,[],0#64,(0:Int),(0:Int),(0:Int),false,false,[]⟩
theorem Vera {r:ApiReply} (h:Sane r) (hz:zeroR r=true):r=bareR r.err:=by
 have e1:=Vw6 r h
 unfold Zbt at e1
 rw [Vew _ _ (by have:=h.c; omega) (by have:=h.e; omega),hz] at e1
 simp only [bindS] at e1
 have e2:=Option.some.inj e1
 have e3:=congrArg (fun q:Unit×(Bool×Unit)=>q.2.1) e2
 exact of_decide_eq_true e3
theorem Vzh {e:Int} (h:0≤e∧e≤42):((UInt8.ofBitVec (BitVec.ofInt 8 e)).toBitVec.toNat:Int)=e:=by
 obtain ⟨k,rfl⟩:∃ k:Nat,e=(k:Int):=⟨e.toNat,by omega⟩
 have h2:=h.2
 show ((BitVec.ofInt 8 (k:Int)).toNat:Int)=_
 rw [BitVec.ofInt_natCast,BitVec.toNat_ofNat,Nat.mod_eq_of_lt (by omega)]
theorem Vq6 {r:ApiReply} (h0:(repO r).2=0):valR r=0∧((¬ r.err=0∧repO r=([errB r],0))∨(r.err=0∧repO r=(0::encA (repI r),0)∧(0::encA (repI r)).length≤4096)):=by
 unfold repO at h0
 by_cases hv:valR r=0
 ·refine ⟨hv,?_⟩
  rw [decide_eq_true hv] at h0
  by_cases he:r.err=0
  ·right
   refine ⟨he,?_⟩
   rw [decide_eq_true he] at h0
   by_cases hl:(4096:Int) < ((0::encA (repI r)).length:Int)
   ·rw [decide_eq_true hl] at h0; cases h0
   ·refine ⟨?_,by omega⟩
    unfold repO
    rw [decide_eq_true hv,decide_eq_true he,decide_eq_false hl]; rfl
  ·left
   refine ⟨he,?_⟩
   unfold repO
   rw [decide_eq_true hv,decide_eq_false he]; rfl
 ·rw [decide_eq_false hv] at h0
  exact absurd h0 hv
theorem back_ok {r:ApiReply} (h:Sane r) (h0:(repO r).2=0):Zaw (repO r).1=some ((),r,0,()):=by
 obtain ⟨hv,hc⟩:=Vq6 h0
 obtain ⟨hg,hz⟩:=Voh hv
 have hE:=Vfe r h
 rcases hc with ⟨he,e⟩ | ⟨he,e,hl⟩
 ·rw [e] at hE ⊢
  have hb:=Vera h (hz he)
  have hn:=Vzh hg.e
  unfold Zaw
  have g0:getI [errB r] (0:Int)=some (errB r):=rfl
  rw [g0]
  simp only [bindS]
  rw [show decide ((([errB r]:List UInt8).length:Int)=0)=false from rfl,show decide ((4096:Int) < (([errB r]:List UInt8).length:Int))=false from rfl]
  have hn2:((errB r).toBitVec.toNat:Int)=r.err:=hn
  rw [hn2,decide_eq_false (show ¬ (42:Int) < r.err by have:=hg.e; omega),decide_eq_false he]
  simp only [cond_false,bindS,Sum.elim_inl]
  have hb2:(⟨r.err,[],[],[],(0:Int),[],([]:List UInt8),([]:List UInt8),(0:Int),0#64,[],0#64,(0:Int),(0:Int),(0:Int),false,false,[]⟩:ApiReply)=r:=hb.symm
  rw [hb2,hE]
  simp only [bindS,decide_true,Bool.not_true,cond_false,Zdh]
 ·rw [e] at hE ⊢
  unfold Zaw
  have g0:getI (0::encA (repI r)) (0:Int)=some 0:=rfl
  rw [g0]
  simp only [bindS]
  rw [decide_eq_false (show ¬ ((0::encA (repI r)).length:Int)=0 by rw [List.length_cons]; omega),decide_eq_false (show ¬ (4096:Int) < ((0::encA (repI r)).length:Int) by omega),show decide ((42:Int) < ((0:UInt8).toBitVec.toNat:Int))=false from rfl,show decide (((0:UInt8).toBitVec.toNat:Int)=0)=true from rfl,decide_eq_true (show (1:Int)≤((0::encA (repI r)).length:Int) by rw [List.length_cons]; omega)]
  simp only [cond_false,cond_true,List.drop_succ_cons,List.drop_zero]
  rw [Vrw _ (by rw [List.length_cons] at hl; omega)]
  have hd:=Vxt (Vi6 hg).1.enc.2 []
  rw [List.append_nil] at hd
  unfold repI
  rw [hd]
  simp only [bindS,decide_true,Bool.not_true,cond_false]
  have hr:=Vzg hg he
  unfold repI at hr hE
  rw [hr]
  simp only [bindS,Sum.elim_inl]
  rw [hE]
  simp only [bindS,decide_true,Bool.not_true,cond_false,Zdh]
theorem Vj9 (r:ApiReply) (h:Sane r):Zat r=some ((),true,()):=by
 unfold Zat
 rw [Vfe r h,Vi7 r h,Vd8 r h,Vdl r h]
 simp only [bindS,decide_true,Bool.not_true,cond_false]
 by_cases h0:(repO r).2=0
 ·rw [decide_eq_true h0,back_ok h h0]
  simp only [bindS,decide_true,Bool.not_true,cond_false,cond_true]
  rw [Vew _ _ (by have:=h.c; omega) (by have:=h.e; omega)]
  simp only [bindS,decide_true]
 ·rw [decide_eq_false h0]
  rfl
end Go.Proofs.YthoblablopmhfaaGreatDoor

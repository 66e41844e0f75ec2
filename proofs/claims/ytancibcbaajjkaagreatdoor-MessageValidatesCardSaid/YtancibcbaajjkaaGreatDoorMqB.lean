/- The error of a request: what the program's Validate answers. -/
import Derived.Test.YtancibcbaajjkaaGreatDoorMqA
set_option linter.unusedVariables false
set_option linter.unusedSimpArgs false
set_option maxRecDepth 100000
namespace Go.Proofs.YtancibcbaajjkaaGreatDoor
open Go Go.Abs
open _root_.BitVec renaming getLsbD_and → Qa, getLsbD_shiftLeft → Qc, eq_of_getLsbD_eq → Qd, getLsbD_one → Qe, getLsbD_not → Qf
open _root_.List renaming getD_eq_getElem?_getD → Qb
theorem bindU {α β:Type} (x:α) (f:α->Option β):(some x).bind f=f x:=by cases h:f x<;>exact h
def in64 (n:Int):Prop:=-9223372036854775808<=n/\n < 9223372036854775808
structure SaneQ (r:Jb):Prop where
 rp:r.rP.length < 1000000
 us:r.user.length < 1000000
 nm:r.name.length < 1000000
 li:r.list.length < 900
 bx:r.box.length < 1000000
 pf:r.proof.length < 1000000
 ii:r.iD.length < 1000000
 i1:in64 r.jc
 i2:in64 r.jf
 i3:in64 r.jj
 i4:in64 r.jb
 i5:in64 r.count
 i6:in64 r.kind
def useQ (r:Jb):List Bool:=[(!decide (r.rP=([]:List UInt8))),(!decide (r.user=([]:List UInt8))),(!decide (r.name=([]:List UInt8))),(!decide (r.jaa=0#64)),(!decide (r.jc=(0:Int))),(!decide (r.jf=(0:Int))),(decide ((0:Int) < ((r.list).length:Int))),r.ji,r.js,r.jv,r.jo,(!decide (r.jj=(0:Int))),(r.jk||!decide (r.auth=0#64)),(!decide (r.ju=0#64)),(decide ((0:Int) < ((r.box).length:Int))),(decide ((0:Int) < ((r.proof).length:Int))),(!decide (r.jb=(0:Int))),(decide ((0:Int) < ((r.iD).length:Int))),(!decide (r.count=(0:Int)))]
theorem Va4a (r:Jb):∃ t:BitVec 32,Zhz r=some ((),t,())/\∀ k,t.getLsbD k=(decide (1<=k)&&(useQ r).getD (k - 1) false):=by
 obtain ⟨t,h1,h2⟩:=Vcra (useQ r) (by simp [useQ])
 refine ⟨t,?_,h2⟩
 unfold Zhz
 unfold useQ at h1
 cases ha:r.jk
 ·rw [ha,Bool.false_or] at h1
  rw [cond_false]
  dsimp only
  rw [h1]; rfl
 ·rw [ha,Bool.true_or] at h1
  rw [cond_true]
  dsimp only
  rw [h1]; rfl
def maskT:List (BitVec 32):=[0#32,0#32,15870#32,9874#32,0#32,0#32,0#32,49152#32,114688#32,212994#32,0#32,8192#32,270336#32,811008#32,57344#32]
def mkQ (k:Int):BitVec 32:=maskT.getD k.toNat 0#32
def fitQ (m:BitVec 32) (u:List Bool):Bool:=(List.range 19).all λi=>!(u.getD i false)||m.getLsbD (i+1)
theorem Ve4a {u:List Bool} {t m:BitVec 32} (hl:u.length=19) (h:∀ k,t.getLsbD k=(decide (1<=k)&&u.getD (k - 1) false)):decide ((t &&& ~~~m)=0#32)=fitQ m u:=by
 rw [Bool.eq_iff_iff]
 simp only [decide_eq_true_eq,fitQ,List.all_eq_true,List.mem_range]
 constructor
 ·intro e i hi
  have hb:(t &&& ~~~m).getLsbD (i+1)=false:=by rw [e]; simp
  rw [Qa,Qf,h (i+1)] at hb
  rw [show decide (1<=i+1)=true from decide_eq_true (by omega),Nat.add_sub_cancel,show decide (i+1 < 32)=true from decide_eq_true (by omega)] at hb
  revert hb
  cases u.getD i false<;>cases m.getLsbD (i+1)<;>decide
 ·intro e
  apply Qd
  intro k hk
  rw [Qa,Qf,h k]
  by_cases h1:1<=k
  ·by_cases h2:k - 1 < 19
   ·have:=e (k - 1) h2
    rw [show k - 1+1=k by omega] at this
    revert this
    rw [decide_eq_true h1,decide_eq_true hk]
    cases u.getD (k - 1) false<;>cases m.getLsbD k<;>simp
   ·have:u.getD (k - 1) false=false:=by rw [Qb,List.getElem?_eq_none (by omega)]; rfl
    rw [this]; simp
  ·rw [decide_eq_false h1]; simp
def numQ (r:Jb):Bool:=smallI r.jc&&(smallI r.jf&&(smallI r.jj&&(smallI r.jb&&smallI r.count)))
def bigQ (r:Jb):Bool:=decide ((64:Int) < (r.rP.length:Int))||(decide ((16:Int) < (r.user.length:Int))||(decide ((32:Int) < (r.name.length:Int))||(decide ((8:Int) < (r.list.length:Int))||(decide ((1024:Int) < (r.box.length:Int))||decide ((1024:Int) < (r.proof.length:Int))))))
def idl (x:List UInt8):Bool:=decide ((x.length:Int)=176)
def idsQ (r:Jb):Int:=bif !r.list.all idl then 4 else bif (mkQ r.kind).getLsbD 18&&!decide ((r.iD.length:Int)=176) then 4 else 0
def valQ (r:Jb):Int:=bif !(decide (1<=r.kind)&&decide (r.kind<=14)) then 3 else bif !fitQ (mkQ r.kind) (useQ r) then 4 else bif !decide (r.auth=0#64)&&!r.jk then 4 else bif !numQ r then 9 else bif bigQ r then 8 else bif !(Lib.validD r.rP&&Lib.validD r.name) then 6 else idsQ r
theorem valL1 (r:Jb) (m:BitVec 32) (h:SaneQ r):Zfq_L1 ((r,()),m,r.list,(r.list.length:Int),(0:Int),())=some (bif r.list.all idl then Sum.inr ((r,()),m,()) else Sum.inl (4,())):=by
 unfold Zfq_L1
 rw [show ((0:Int))=((0:Nat):Int) from rfl,Vla r.list idl (λi=>((r,()),m,r.list,(r.list.length:Int),(i:Int),())) (Sum.inl (4,())) (Sum.inr ((r,()),m,())) (by have:=h.li; omega)]
 ·intro i x hx
  have h1:=Vbi hx
  have h2:=h.li
  simp only [Zfq_L1b,Vjr hx,gIn hx,Option.bind_some,cond_true,Vck (i:=i) (by omega),idl]
  cases decide ((x.length:Int)=176)<;>rfl
 ·simp [Zfq_L1b]
theorem bit18 (m:BitVec 32):decide ((m &&& 262144#32)=0#32) = !m.getLsbD 18:=by
 have e:m &&& 262144#32=bif m.getLsbD 18 then 262144#32 else 0#32:=by
  apply Qd
  intro k hk
  rw [Qa,show (262144#32:BitVec 32)=1#32 <<< 18 from rfl,Qc,Qe]
  by_cases h:k=18
  ·subst h; cases m.getLsbD 18<;>decide
  ·cases m.getLsbD 18
   ·by_cases h2:k < 18
    ·simp [h2]
    ·simp [h2,show k - 18≠0 by omega,show ¬ (0=k - 18) by omega]
   ·simp only [cond_true]
    rw [Qc,Qe]
    by_cases h2:k < 18
    ·simp [h2]
    ·simp [h2,show k - 18≠0 by omega,show ¬ (0=k - 18) by omega]
 rw [e]
 cases m.getLsbD 18<;>decide
theorem tailQ (r:Jb) (h:SaneQ r):(Zfq_L1 ((r,()),mkQ r.kind,r.list,(r.list.length:Int),(0:Int),())).bind (Sum.elim (λ(z47:(Int×Unit))=>(some ((),(z47.1,())))) (λ(z48:((Jb×Unit)×(BitVec 32)×Unit))=>(bif (!decide ((z48.2.1 &&& 262144#32)=0#32)) then (bif (!decide (((z48.1.1.iD).length:Int)=(176:Int))) then (some ((),((4:Int),()))) else (some ((),((0:Int),())))) else (some ((),((0:Int),()))))))=some ((),(idsQ r,())):=by
 rw [valL1 r _ h,bindU]
 unfold idsQ
 cases r.list.all idl
 ·rfl
 ·rw [cond_true,Sum.elim_inr]
  dsimp only
  rw [bit18,Bool.not_not]
  cases (mkQ r.kind).getLsbD 18<;>cases decide ((r.iD.length:Int)=176)<;>rfl
theorem Vcza (r:Jb):Zfr [r.jc,r.jf,r.jj,r.jb,r.count]=some ((),numQ r,()):=by
 rw [Voe _ (by simp)]
 simp [numQ]
theorem Vd9 (r:Jb) (h:SaneQ r):Zfq r=some ((),valQ r,()):=by
 obtain ⟨t,u1,u2⟩:=Va4a r
 have hf:=Ve4a (m:=mkQ r.kind) rfl u2
 have tl:=tailQ r h
 unfold Zfq valQ
 by_cases k1:r.kind < 1
 ·rw [decide_eq_true k1,decide_eq_false (by omega:¬ 1<=r.kind)]; rfl
 by_cases k2:14 < r.kind
 ·rw [decide_eq_false k1,decide_eq_true k2,decide_eq_true (by omega:1<=r.kind),decide_eq_false (by omega:¬ r.kind<=14)]; rfl
 have hm:([0#32,0#32,15870#32,9874#32,0#32,0#32,0#32,49152#32,114688#32,212994#32,0#32,8192#32,270336#32,811008#32,57344#32]:List (BitVec 32))[(r.kind).toNat]? = some (mkQ r.kind):=by
  unfold mkQ
  rw [Qb]
  have:r.kind.toNat < maskT.length:=by simp [maskT]; omega
  show maskT[r.kind.toNat]? = _
  rw [List.getElem?_eq_getElem this]; rfl
 rw [decide_eq_false k1,decide_eq_false k2,decide_eq_true (by omega:1<=r.kind),decide_eq_true (by omega:r.kind<=14),decide_eq_true (by omega:0<=r.kind),decide_eq_true (by omega:r.kind < 15)]
 simp only [cond_true,cond_false,Bool.and_true,Bool.not_true,hm,bindU,u1,hf,Vcza,Vgz h.rp,Vgz h.nm]
 unfold bigQ
 cases fitQ (mkQ r.kind) (useQ r)
 ·rfl
 cases decide (r.auth=0#64)<;>cases r.jk<;>cases numQ r<;>(try rfl)<;>cases decide ((64:Int) < (r.rP.length:Int))<;>(try rfl)<;>cases decide ((16:Int) < (r.user.length:Int))<;>(try rfl)<;>cases decide ((32:Int) < (r.name.length:Int))<;>(try rfl)<;>cases decide ((8:Int) < (r.list.length:Int))<;>(try rfl)<;>cases decide ((1024:Int) < (r.box.length:Int))<;>(try rfl)<;>cases decide ((1024:Int) < (r.proof.length:Int))<;>(try rfl)<;>cases Lib.validD r.rP<;>(try rfl)<;>cases Lib.validD r.name<;>first | rfl | exact tl
end Go.Proofs.YtancibcbaajjkaaGreatDoor

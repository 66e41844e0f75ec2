/- Replies: both EncodeReply are the same function. -/
import Derived.Test.YthoblablopmhfaaGreatDoorFns
import Derived.Test.YthoblablopmhfaaGreatDoorMsM
namespace Go.Proofs.YthoblablopmhfaaGreatDoor
set_option linter.unusedVariables false
set_option linter.unusedSimpArgs false
set_option maxRecDepth 100000
open Go Go.Abs
structure GoodR (r:ApiReply):Prop where
 e:0≤r.err∧r.err≤42
 num:Nums r
 a:r.authData.length≤1024
 s:r.signature.length≤1024
 b:r.box.length≤1024
 c:r.certificates.length≤3
 cs:∀ c∈r.certificates,c.length≤1024
 es:r.entries.length≤8
 u:r.user.length≤16
 n:r.name.length≤32
 nv:Lib.validD r.name=true
 i:r.iD.length=0∨r.iD.length=176
 x:∀ x∈r.entries,GoodE x
theorem sm_of {n:Int} (h:smallI n=true):sm n:=by
 unfold smallI at h
 rw [Bool.and_eq_true] at h
 exact ⟨of_decide_eq_true h.1,of_decide_eq_true h.2⟩
theorem Voh {r:ApiReply} (hv:valR r=0):GoodR r∧(¬ r.err=0→zeroR r=true):=by
 unfold valR at hv
 cases h1:(errR r&&numR r)
 ·rw [h1] at hv; cases hv
 rw [h1] at hv
 have h2:(!decide (r.err=0)&&!zeroR r)=false:=by
  cases h:(!decide (r.err=0)&&!zeroR r)
  ·rfl
  ·rw [h] at hv; cases hv
 rw [h2] at hv
 have h3:bigR r=false:=by
  cases h:bigR r
  ·rfl
  ·rw [h] at hv; cases hv
 rw [h3] at hv
 cases h4:txtR r
 ·rw [h4] at hv; cases hv
 rw [h4] at hv
 cases h5:idR r
 ·rw [h5] at hv; cases hv
 clear hv
 unfold errR numR at h1
 simp only [Bool.and_eq_true,decide_eq_true_eq,List.all_eq_true] at h1
 obtain ⟨⟨e1,e2⟩,n0,⟨⟨⟨n1,n2⟩,n3⟩,n4⟩,n5⟩:=h1
 unfold bigR bigR0 bigC at h3
 simp only [Bool.or_eq_false_iff,decide_eq_false_iff_not,List.any_eq_false,decide_eq_true_eq,bigE,Bool.or_eq_true,not_or] at h3
 obtain ⟨⟨⟨⟨⟨⟨⟨⟨b1,b2⟩,b3⟩,b4⟩,b5⟩,b6⟩,b7⟩,b8⟩,b9⟩:=h3
 unfold txtR txtE at h4
 simp only [Bool.and_eq_true,List.all_eq_true] at h4
 unfold idR idE at h5
 simp only [Bool.and_eq_true,Bool.or_eq_true,List.all_eq_true,decide_eq_true_eq] at h5
 refine ⟨⟨⟨e1,e2⟩,⟨sm_of n1,sm_of n2,sm_of n3,sm_of n4,sm_of n5⟩,by omega,by omega,by omega,by omega,?_,by omega,by omega,by omega,h4.1,by have:=h5.1; omega,?_⟩,?_⟩
 ·intro c hc
  have:=b8 c hc
  omega
 ·intro x hx
  have a1:=b9 x hx
  have a2:=h4.2 x hx
  have a3:=h5.2 x hx
  have a4:=sm_of (n0 x hx)
  exact ⟨by omega,by omega,by omega,a2.1,a2.2,by omega,a4⟩
 ·intro he
  rw [decide_eq_false he] at h2
  cases hz:zeroR r
  ·rw [hz] at h2; cases h2
  ·rfl
def PV (o:List ApiItem):Prop:=VT 3 o∧(o.length≤400∧∀ x∈o,x.data.length < 100000)∧o≠[]
theorem Vp5 {x:ApiItem} (h:VT 1 [x]) (hx:x.data.length < 100000):PV [x]:=by
 refine ⟨Vrl (by omega) h,⟨by rw [List.length_singleton]; omega,fun y hy=>?_⟩,by intro hh; cases hh⟩
 rw [List.mem_singleton] at hy
 rw [hy]; exact hx
theorem PV_b {b:List UInt8} (h:b.length≤1024):PV (bytesI b):=Vp5 (Vd5 h) (by dsimp only; omega)
theorem PV_t {b:List UInt8} (h:b.length≤1024) (hv:Lib.validD b=true):PV (textI b):=Vp5 (Vi1 h hv) (by dsimp only; omega)
theorem PV_u (n:BitVec 64):PV (uintI n):=Vp5 (Vof n) (by show ([]:List UInt8).length < 100000; decide)
theorem PV_o (b:Bool):PV (boolI b):=Vp5 (Vela b) (by show ([]:List UInt8).length < 100000; decide)
theorem PV_c {l:List (List UInt8)} (hl:l.length≤3) (h:∀ c∈l,c.length≤1024):PV (certI l):=by
 have hc:=Vgc l
 refine ⟨Vrl (by omega) (Vj7 hl h).2,⟨by omega,?_⟩,by unfold certI arrI; exact List.cons_ne_nil _ _⟩
 intro x hx
 unfold certI arrI at hx
 rcases List.mem_cons.1 hx with rfl | hx
 ·show ([]:List UInt8).length < 100000
  decide
 ·obtain ⟨o,ho,hx⟩:=List.mem_flatten.1 hx
  exact (Vg8 h o ho).2 x hx
theorem PV_e {l:List ApiEntry} (hl:l.length≤8) (h:∀ x∈l,GoodE x):PV (entsI l):=by
 have hc:=Vgd l
 refine ⟨(Vj8 hl h).2,⟨by omega,?_⟩,by unfold entsI arrI; exact List.cons_ne_nil _ _⟩
 intro x hx
 unfold entsI arrI at hx
 rcases List.mem_cons.1 hx with rfl | hx
 ·show ([]:List UInt8).length < 100000
  decide
 ·obtain ⟨o,ho,hx⟩:=List.mem_flatten.1 hx
  obtain ⟨y,hy,rfl⟩:=List.mem_map.1 ho
  exact Vi2 (h y hy) x hx
theorem Vxg {r:ApiReply} (h:GoodR r):∀ o∈valsR r,PV o:=by
 have hi:r.iD.length≤1024:=by rcases h.i with hh | hh<;>omega
 have hu:r.user.length≤1024:=by have:=h.u; omega
 have hn:r.name.length≤1024:=by have:=h.n; omega
 unfold valsR
 rw [List.forall_mem_cons,List.forall_mem_cons,List.forall_mem_cons,List.forall_mem_cons,List.forall_mem_cons,List.forall_mem_cons,List.forall_mem_cons,List.forall_mem_cons,List.forall_mem_cons,List.forall_mem_cons,List.forall_mem_cons,List.forall_mem_cons,List.forall_mem_cons,List.forall_mem_cons,List.forall_mem_cons,List.forall_mem_cons,List.forall_mem_cons]
 exact ⟨PV_b h.a,PV_b h.s,PV_c h.c h.cs,PV_u _,PV_b hi,PV_b hu,PV_t hn h.nv,PV_u _,PV_u _,PV_b h.b,PV_u _,PV_u _,PV_u _,PV_u _,PV_o _,PV_o _,PV_e h.es h.x,fun x hx=>absurd hx List.not_mem_nil⟩
theorem Vxh {r:ApiReply} (h:GoodR r):(valsR r).flatten.length≤400:=by
 have h1:=h.c
 have h2:=h.es
 have hc:=Vgc r.certificates
 have he:=Vgd r.entries
 have f (o:List ApiItem) (l:List (List ApiItem)):(o::l).flatten.length=o.length+l.flatten.length:=by rw [List.flatten_cons,List.length_append]
 have b1 (b:List UInt8):(bytesI b).length=1:=rfl
 have b2 (b:List UInt8):(textI b).length=1:=rfl
 have b3 (b:BitVec 64):(uintI b).length=1:=rfl
 have b4 (b:Bool):(boolI b).length=1:=rfl
 have b5:(([]:List (List ApiItem)).flatten).length=0:=rfl
 have e:(valsR r).flatten.length=1+(1+(certI r.certificates).length+(13+(entsI r.entries).length)):=by
  unfold valsR
  rw [f,f,f,f,f,f,f,f,f,f,f,f,f,f,f,f,f,b1,b1,b3,b1,b1,b2,b3,b3,b1,b3,b3,b3,b3,b4,b4,b5]
  generalize (certI r.certificates).length=p
  generalize (entsI r.entries).length=q
  omega
 have e2:1+(1+(certI r.certificates).length+(13+(entsI r.entries).length))≤400:=by rw [hc,he]; omega
 exact Nat.le_trans (Nat.le_of_eq e) e2
theorem Voi (r:ApiReply):(useR r).length=17:=by unfold useR; rfl
theorem Vzf (r:ApiReply):(valsR r).length=17:=by unfold valsR; rfl
theorem Vi6 {r:ApiReply} (h:GoodR r):Fit (useR r) (valsR r)∧∀ o∈valsR r,o≠[]:=
 ⟨⟨Voi r,(Voi r).trans (Vzf r).symm,fun o ho=>(Vxg h o ho).1,Vxh h,fun o ho=>(Vxg h o ho).2.1⟩,fun o ho=>(Vxg h o ho).2.2⟩
def repI (r:ApiReply):List ApiItem:=chosI (useR r) (valsR r)
def errB (r:ApiReply):UInt8:=UInt8.ofBitVec (BitVec.ofInt 8 r.err)
def repO (r:ApiReply):List UInt8×Int:=
 bif !decide (valR r=0) then ([],valR r) else bif !decide (r.err=0) then ([errB r],0) else
 bif decide ((4096:Int) < ((0::encA (repI r)).length:Int)) then ([],8) else (0::encA (repI r),0)
theorem Vfe (r:ApiReply) (h:Sane r):Zax r=some ((),(repO r).1,(repO r).2,()):=by
 unfold Zax repO
 rw [Vd8 r h]
 simp only [bindS]
 by_cases hv:valR r=0
 ·have hg:=(Voh hv).1
  rw [decide_eq_true hv]
  simp only [Bool.not_true,cond_false]
  cases he:decide (r.err=0)
  ·rfl
  ·simp only [Bool.not_true,cond_false]
   obtain ⟨t,u1,u2,u3⟩:=Vp0 r
   rw [u1]
   simp only [bindS,Vxb,Vaxa,Vaya,Vjza]
   rw [(Vj7 hg.c hg.cs).1]
   simp only [bindS]
   rw [(Vj8 hg.es hg.x).1]
   simp only [bindS]
   have e:=Vxc (Vi6 hg).1 (0:UInt8) u2
   unfold valsR at e
   rw [e]
   simp only [bindS,decide_true,cond_true]
   unfold repI valsR
   cases decide ((4096:Int) < ((0::encA (chosI (useR r) [bytesI r.authData,bytesI r.signature,certI r.certificates,uintI (BitVec.ofInt 64 r.format),bytesI r.iD,bytesI r.user,textI r.name,uintI (BitVec.ofInt 64 r.count),uintI r.peer,bytesI r.box,uintI r.model,uintI (BitVec.ofInt 64 r.retries),uintI (BitVec.ofInt 64 r.rooms),uintI (BitVec.ofInt 64 r.leases),boolI r.pinSet,boolI r.finger,entsI r.entries])).length:Int))<;>rfl
 ·rw [decide_eq_false hv]
  rfl
theorem Vi7 (r:ApiReply) (h:Sane r):Zah r=some ((),(repO r).1,(repO r).2,()):=by
 unfold Zah repO
 rw [Vdl r h]
 simp only [bindS]
 by_cases hv:valR r=0
 ·have hg:=(Voh hv).1
  rw [decide_eq_true hv]
  simp only [Bool.not_true,cond_false]
  cases he:decide (r.err=0)
  ·rfl
  ·simp only [cond_true,Bool.not_true,cond_false]
   rw [Vxf r hg.c hg.es]
   simp only [bindS]
   rw [Vena r hg.num _ rfl,Vq5 (Vi6 hg).1 (Vi6 hg).2]
   simp only [bindS]
   have hlen:=Vog _ (Vi6 hg).1.data
   have:=(Vi6 hg).1.len
   have he0:UInt8.ofBitVec (BitVec.ofInt 8 r.err)=0:=by rw [of_decide_eq_true he]; rfl
   rw [Vco (by simp only [List.length_cons,List.length_nil]; omega),he0]
   simp only [cond_true,List.cons_append,List.nil_append]
   unfold repI
   cases decide ((4096:Int) < ((0::encA (chosI (useR r) (valsR r))).length:Int))<;>rfl
 ·rw [decide_eq_false hv]
  rfl
end Go.Proofs.YthoblablopmhfaaGreatDoor

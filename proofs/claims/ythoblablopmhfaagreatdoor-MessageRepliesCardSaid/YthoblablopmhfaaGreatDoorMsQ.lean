/- Replies: the fields of a valid reply are read back. -/
import Derived.Test.YthoblablopmhfaaGreatDoorFns
import Derived.Test.YthoblablopmhfaaGreatDoorMsP
namespace Go.Proofs.YthoblablopmhfaaGreatDoor
set_option linter.unusedVariables false
set_option linter.unusedSimpArgs false
set_option maxRecDepth 100000
open Go Go.Abs
theorem Voj {n:Nat} (h:n < 1000000):small n 80=true:=by
 unfold small; simp; omega
theorem rdB {us:List Bool} {vs:List (List ApiItem)} (h:Look us vs) (k:Nat) (h1:1≤k) (hk:k≤17):Zar (chosI us vs) (BitVec.ofNat 64 k)=some ((),(itO us vs k).data,()):=by
 unfold Zar; rw [Vi8 h k h1 hk]; rfl
theorem rdT {us:List Bool} {vs:List (List ApiItem)} (h:Look us vs) (k:Nat) (h1:1≤k) (hk:k≤17):Zbb (chosI us vs) (BitVec.ofNat 64 k)=some ((),(itO us vs k).data,()):=by
 unfold Zbb; rw [Vi8 h k h1 hk]; rfl
theorem rdN {us:List Bool} {vs:List (List ApiItem)} (h:Look us vs) (k:Nat) (h1:1≤k) (hk:k≤17):Zap (chosI us vs) (BitVec.ofNat 64 k)=some ((),IntKind.wrap .i64 ((itO us vs k).number.toNat:Int),()):=by
 unfold Zap; rw [Vi8 h k h1 hk]; rfl
theorem rdW {us:List Bool} {vs:List (List ApiItem)} (h:Look us vs) (k:Nat) (h1:1≤k) (hk:k≤17):Zbc (chosI us vs) (BitVec.ofNat 64 k)=some ((),(itO us vs k).number,()):=by
 unfold Zbc; rw [Vi8 h k h1 hk]; rfl
theorem rdF {us:List Bool} {vs:List (List ApiItem)} (h:Look us vs) (k:Nat) (h1:1≤k) (hk:k≤17):Zay (chosI us vs) (BitVec.ofNat 64 k)=some ((),decide ((itO us vs k).number=1#64),()):=by
 unfold Zay; rw [Vi8 h k h1 hk]; rfl
theorem bsel (l:List UInt8) (k:Int):(bif decide ((0:Int) < (l.length:Int)) then (⟨k,0#64,l⟩:ApiItem) else zI).data=l:=by
 rw [Vgz]
 cases l<;>rfl
theorem tsel (l:List UInt8) (k:Int):(bif !decide (l=([]:List UInt8)) then (⟨k,0#64,l⟩:ApiItem) else zI).data=l:=by
 cases l<;>rfl
theorem Va2a {n:Int} (h:sm n):IntKind.wrap .i64 (((BitVec.ofInt 64 n).toNat:Nat):Int)=n:=by
 obtain ⟨k,rfl⟩:∃ k:Nat,n=(k:Int):=⟨n.toNat,by have:=h.1; omega⟩
 have h2:=h.2
 rw [BitVec.ofInt_natCast,BitVec.toNat_ofNat,Nat.mod_eq_of_lt (by omega),Vad (by omega) (by omega)]
theorem nsel {n:Int} (h:sm n):IntKind.wrap .i64 (((bif !decide (n=(0:Int)) then (⟨1,BitVec.ofInt 64 n,[]⟩:ApiItem) else zI).number.toNat:Nat):Int)=n:=by
 by_cases h0:n=0
 ·subst h0; rfl
 ·rw [decide_eq_false h0]
  exact Va2a h
theorem psel (w:BitVec 64):(bif !decide (w=0#64) then (⟨1,w,[]⟩:ApiItem) else zI).number=w:=by
 by_cases h0:w=0#64
 ·subst h0; rfl
 ·rw [decide_eq_false h0]; rfl
theorem fsel (b:Bool):decide ((bif b then (⟨7,bif b then 1#64 else 0#64,[]⟩:ApiItem) else zI).number=1#64)=b:=by cases b<;>rfl
theorem Vxi {r:ApiReply} (h:GoodR r):Look (useR r) (valsR r):=by
 have hF:=(Vi6 h).1
 refine ⟨by rw [Voi]; omega,hF.l,fun o ho=>Vc4 (hF.v o ho) (by omega) (by have:=(hF.d o ho).1; omega),hF.enc.2,by have:=hF.len; omega,hF.data⟩
def allT:List Bool:=[true,true,true,true,true]
theorem Vi9 (x:ApiEntry):entI x=chosI allT (entV x):=rfl
theorem Vj2a {x:ApiEntry} (h:GoodE x):Look allT (entV x):=by
 have e:=Vp4 h
 refine ⟨by decide,rfl,?_,?_,?_,?_⟩
 ·have:=h.r; have:=h.u; have:=h.n; have:=h.i
  unfold entV
  rw [List.forall_mem_cons,List.forall_mem_cons,List.forall_mem_cons,List.forall_mem_cons,List.forall_mem_cons]
  exact ⟨Vc4 (Vi1 (by omega) h.vr) (by omega) (by simp [textI]),Vc4 (Vd5 (by omega)) (by omega) (by simp [bytesI]),Vc4 (Vi1 (by omega) h.vn) (by omega) (by simp [textI]),Vc4 (Vd5 (by omega)) (by omega) (by simp [bytesI]),Vc4 (Vof _) (by omega) (by simp [uintI]),fun x hx=>absurd hx List.not_mem_nil⟩
 ·rw [← Vi9]; exact Vc4 e.2 (by omega) (by rw [Vd6]; omega)
 ·rw [← Vi9,Vd6]; omega
 ·rw [← Vi9]; exact Vi2 h
theorem Vepa {r:ApiReply} (h:GoodR r):Zak (repI r) 3#64=some ((),r.certificates.map bytesI,()):=by
 unfold Zak repI
 rw [look_ok (Vxi h) 3 (by omega) (by omega)]
 simp only [bindS]
 have eu:(useR r).getD (3 - 1) false=decide ((0:Int) < (r.certificates.length:Int)):=rfl
 have ev:(valsR r).getD (3 - 1) []=certI r.certificates:=rfl
 rw [eu,ev]
 cases hc:decide ((0:Int) < (r.certificates.length:Int))
 ·have:r.certificates=[]:=List.length_eq_zero_iff.1 (by have:=of_decide_eq_false hc; omega)
  rw [this]; rfl
 ·simp only [Bool.not_true,cond_false,cond_true]
  unfold certI
  have hl:=Vgc r.certificates
  have:=h.c
  rw [Va1a _ (fun o ho=>by obtain ⟨c,hc,rfl⟩:=List.mem_map.1 ho; exact Vc4 (Vd5 (h.cs c hc)) (by omega) (by simp [bytesI])) (by rw [List.length_map]; omega) (by unfold certI at hl; omega)]
  rfl
theorem Veqa {r:ApiReply} (h:GoodR r):Zak (repI r) 17#64=some ((),r.entries.map entI,()):=by
 unfold Zak repI
 rw [look_ok (Vxi h) 17 (by omega) (by omega)]
 simp only [bindS]
 have eu:(useR r).getD (17 - 1) false=decide ((0:Int) < (r.entries.length:Int)):=rfl
 have ev:(valsR r).getD (17 - 1) []=entsI r.entries:=rfl
 rw [eu,ev]
 cases hc:decide ((0:Int) < (r.entries.length:Int))
 ·have:r.entries=[]:=List.length_eq_zero_iff.1 (by have:=of_decide_eq_false hc; omega)
  rw [this]; rfl
 ·simp only [Bool.not_true,cond_false,cond_true]
  unfold entsI
  have hl:=Vgd r.entries
  have:=h.es
  rw [Va1a _ (fun o ho=>by obtain ⟨c,hc,rfl⟩:=List.mem_map.1 ho; exact Vc4 (Vp4 (h.x c hc)).2 (by omega) (by rw [Vd6]; omega)) (by rw [List.length_map]; omega) (by unfold entsI at hl; omega)]
  rfl
theorem Va3a {α β:Type} {l:List α} {g:α→β} {i:Nat} {x:α} (h:l[i]? = some x):(l.map g)[i]? = some (g x):=by rw [List.getElem?_map,h]; rfl
theorem Vj3a {r:ApiReply} (h:GoodR r):Zba (repI r) 3#64=some ((),r.certificates,()):=by
 unfold Zba
 rw [Vepa h]
 simp only [bindS]
 unfold Zba_L0
 have hc:=h.c
 rw [List.length_map,show ((0:Int))=((0:Nat):Int) from rfl,Vhl r.certificates id (fun i t=>(t,r.certificates.map bytesI,(r.certificates.length:Int),(i:Int),())) (r.certificates,()) (by omega)]
 ·rfl
 ·intro i x hx
  have h1:=Van hx
  simp only [Zba_L0b,Vbk hx,List.length_map,cond_true,Var (i:=i) (by omega),Int.toNat_natCast,Va3a hx,bindS,decide_eq_true (show (0:Int)≤(i:Int) by omega),Bool.and_true]
  have eg:getI (bytesI x) (0:Int)=some ⟨3,0#64,x⟩:=rfl
  rw [eg]
  simp only [bindS]
  rw [Vgx (by simp; omega)]
  rfl
 ·simp [Zba_L0b]
theorem Vzg {r:ApiReply} (h:GoodR r) (he:r.err=0):Zdc (repI r)=some ((),r,()):=by
 have hL:=Vxi h
 have f1:Zar (repI r) 1#64=some ((),r.authData,()):=(rdB hL 1 (by omega) (by omega)).trans (congrArg (fun d=>some ((),d,())) (bsel r.authData 3))
 have f2:Zar (repI r) 2#64=some ((),r.signature,()):=(rdB hL 2 (by omega) (by omega)).trans (congrArg (fun d=>some ((),d,())) (bsel r.signature 3))
 have f4:Zap (repI r) 4#64=some ((),r.format,()):=(rdN hL 4 (by omega) (by omega)).trans (congrArg (fun d=>some ((),d,())) (nsel h.num.format))
 have f5:Zar (repI r) 5#64=some ((),r.iD,()):=(rdB hL 5 (by omega) (by omega)).trans (congrArg (fun d=>some ((),d,())) (bsel r.iD 3))
 have f6:Zbb (repI r) 6#64=some ((),r.user,()):=(rdT hL 6 (by omega) (by omega)).trans (congrArg (fun d=>some ((),d,())) (tsel r.user 3))
 have f7:Zbb (repI r) 7#64=some ((),r.name,()):=(rdT hL 7 (by omega) (by omega)).trans (congrArg (fun d=>some ((),d,())) (tsel r.name 4))
 have f8:Zap (repI r) 8#64=some ((),r.count,()):=(rdN hL 8 (by omega) (by omega)).trans (congrArg (fun d=>some ((),d,())) (nsel h.num.count))
 have f9:Zbc (repI r) 9#64=some ((),r.peer,()):=(rdW hL 9 (by omega) (by omega)).trans (congrArg (fun d=>some ((),d,())) (psel r.peer))
 have f10:Zar (repI r) 10#64=some ((),r.box,()):=(rdB hL 10 (by omega) (by omega)).trans (congrArg (fun d=>some ((),d,())) (bsel r.box 3))
 have f11:Zbc (repI r) 11#64=some ((),r.model,()):=(rdW hL 11 (by omega) (by omega)).trans (congrArg (fun d=>some ((),d,())) (psel r.model))
 have f12:Zap (repI r) 12#64=some ((),r.retries,()):=(rdN hL 12 (by omega) (by omega)).trans (congrArg (fun d=>some ((),d,())) (nsel h.num.retries))
 have f13:Zap (repI r) 13#64=some ((),r.rooms,()):=(rdN hL 13 (by omega) (by omega)).trans (congrArg (fun d=>some ((),d,())) (nsel h.num.rooms))
 have f14:Zap (repI r) 14#64=some ((),r.leases,()):=(rdN hL 14 (by omega) (by omega)).trans (congrArg (fun d=>some ((),d,())) (nsel h.num.leases))
 have f15:Zay (repI r) 15#64=some ((),r.pinSet,()):=(rdF hL 15 (by omega) (by omega)).trans (congrArg (fun d=>some ((),d,())) (fsel r.pinSet))
 have f16:Zay (repI r) 16#64=some ((),r.finger,()):=(rdF hL 16 (by omega) (by omega)).trans (congrArg (fun d=>some ((),d,())) (fsel r.finger))
 unfold Zdc
 rw [f1,f2,f4,f5,f6,f7,f8,f9,f10,f11,f12,f13,f14,f15,f16,Vj3a h,Veqa h]
 simp only [bindS]
 unfold Zdc_L0
 have hes:=h.es
 rw [List.length_map]
 refine Eq.trans (congrArg (fun o=>Option.bind o _) (Vhl r.entries id (fun i t=>(((⟨(0:Int),[],[],[],(0:Int),[],([]:List UInt8),([]:List UInt8),(0:Int),0#64,[],0#64,(0:Int),(0:Int),(0:Int),false,false,[]⟩:ApiReply),()),((0:Int),r.authData,r.signature,r.certificates,r.format,r.iD,r.user,r.name,r.count,r.peer,r.box,r.model,r.retries,r.rooms,r.leases,r.pinSet,r.finger,t,()),r.entries.map entI,(r.entries.length:Int),(i:Int),())) (((⟨(0:Int),[],[],[],(0:Int),[],([]:List UInt8),([]:List UInt8),(0:Int),0#64,[],0#64,(0:Int),(0:Int),(0:Int),false,false,[]⟩:ApiReply),()),((0:Int),r.authData,r.signature,r.certificates,r.format,r.iD,r.user,r.name,r.count,r.peer,r.box,r.model,r.retries,r.rooms,r.leases,r.pinSet,r.finger,r.entries,()),()) (by omega) ?_ ?_)) ?_
 ·intro i x hx
  have h1:=Van hx
  have gE:=h.x x (List.mem_of_getElem? hx)
  have lE:=Vj2a gE
  have t1:Zbb (entI x) 1#64=some ((),x.rP,()):=rdT lE 1 (by omega) (by omega)
  have t2:Zbb (entI x) 2#64=some ((),x.user,()):=rdT lE 2 (by omega) (by omega)
  have t3:Zbb (entI x) 3#64=some ((),x.name,()):=rdT lE 3 (by omega) (by omega)
  have t4:Zar (entI x) 4#64=some ((),x.iD,()):=rdB lE 4 (by omega) (by omega)
  have t5:Zap (entI x) 5#64=some ((),x.left,()):=(rdN lE 5 (by omega) (by omega)).trans (congrArg (fun d=>some ((),d,())) (Va2a gE.l))
  simp only [Zdc_L0b,Vbk hx,List.length_map,cond_true,Var (i:=i) (by omega),Int.toNat_natCast,Va3a hx,bindS,decide_eq_true (show (0:Int)≤(i:Int) by omega),Bool.and_true]
  rw [t1]
  simp only [bindS]
  rw [t2]
  simp only [bindS]
  rw [t3]
  simp only [bindS]
  rw [t4]
  simp only [bindS]
  rw [t5]
  simp only [bindS]
  rw [Voj (by simp; omega)]
  rfl
 ·simp [Zdc_L0b]
 ·simp only [bindS]
  rw [← he]
end Go.Proofs.YthoblablopmhfaaGreatDoor

import Derived.Test.YthoblablopmhfaaGreatDoorFns
import Derived.Test.YthoblablopmhfaaGreatDoorMsT
namespace Go.Proofs.YthoblablopmhfaaGreatDoor
set_option linter.unusedVariables false
set_option linter.unusedSimpArgs false
set_option maxRecDepth 100000
open Go Go.Abs
theorem Vde {t:TUP} {k:Nat} (h:St t k) (hk:k≤10) {e:Int} {a s c f i u n ct p b md rt rm ls ps fg es} (hc:c.length≤10) (he:es.length≤10) (hn:n.length < 1000000) (hx:∀ x∈es,x.rP.length < 1000000∧x.name.length < 1000000):Sane (⟨e,a,s,c,f,i,u,n,ct,p,b,md,rt,rm,ls,ps,fg,es⟩:ApiReply):=⟨by dsimp only; omega,by dsimp only; omega,hn,hx⟩
theorem Vq7 (n m:Int):Ok (Zbl n m) fun x=>Sane x.2.1:=by
 unfold Zbl
 dsimp only
 obtain ⟨lu,hu⟩:=Userr m
 obtain ⟨lt,ht,htb⟩:=Textr (Int.fdiv m (2 ^ (min 2 (IntKind.bits .i64))))
 rw [hu]
 simp only [bindS]
 rw [ht]
 simp only [bindS]
 refine Ok.bind (Ok.mono (Q:=fun (j:Int×(ApiReply×Unit)×TUP×Unit)=>j.1=m∧St j.2.2.1 0) ?_ ?_)
 ·refine Ok.cond (fun _=>?_) (fun _=>?_)
  ·obtain ⟨li,hli⟩:=Vxk m
   obtain ⟨a,ha,ea⟩:=mask (Int.fdiv m (2 ^ (min 3 (IntKind.bits .i64)))) 63 (by omega)
   obtain ⟨b,hb,eb⟩:=mask (Int.fdiv m (2 ^ (min 9 (IntKind.bits .i64)))) 63 (by omega)
   rw [show ((63:Nat):Int)=(63:Int) from rfl] at ea eb
   rw [hli]
   simp only [bindS]
   rw [ea,eb,mk_ok (k:=a) (w:=1) (by omega) (by omega),mk_ok (k:=b) (w:=1) (by omega) (by omega)]
   exact Ok.some ⟨rfl,⟨Nat.le_refl _,Nat.le_refl _,htb,fun x hx=>absurd hx List.not_mem_nil⟩⟩
  ·exact Ok.some ⟨rfl,⟨Nat.le_refl _,Nat.le_refl _,htb,fun x hx=>absurd hx List.not_mem_nil⟩⟩
 rintro ⟨j1,⟨j2,u2⟩,j3,u⟩ ⟨e1,hS⟩
 dsimp only at *
 subst e1
 refine Ok.bind (Ok.mono (rpL0 j1 j2 j3 hS) ?_)
 rintro ⟨z1,⟨z2,u2⟩,t,u⟩ ⟨e1,hT⟩
 dsimp only at *
 subst e1
 obtain ⟨v,hv,ev⟩:=mask (Int.fdiv z1 (2 ^ (min 4 (IntKind.bits .i64)))) 65535 (by omega)
 rw [show ((65535:Nat):Int)=(65535:Int) from rfl] at ev
 rw [ev]
 have tc:t.2.2.2.1.length≤10:=Nat.le_trans hT.c (by omega)
 have te:t.2.2.2.2.2.2.2.2.2.2.2.2.2.2.2.2.2.1.length≤10:=Nat.le_trans hT.e (by omega)
 obtain ⟨q,hq,eq⟩:=Vxl v
 refine Ok.cond (fun _=>?_) (fun _=>?_)
 ·exact Ok.some ⟨by show (0:Nat) < 1000000; omega,by show (0:Nat) < 1000000; omega,by show (0:Nat) < 1000000; omega,fun x hx=>absurd hx List.not_mem_nil⟩
 refine Ok.cond (fun _=>?_) (fun _=>?_)
 ·exact Ok.some (Vde hT (by omega) tc te hT.n hT.x)
 refine Ok.cond (fun _=>?_) (fun _=>?_)
 ·exact Ok.some (Vde hT (by omega) tc te hT.n hT.x)
 refine Ok.cond (fun _=>?_) (fun _=>?_)
 ·obtain ⟨a,ha,ea⟩:=mask (v:Int) 7 (by omega)
  rw [show ((7:Nat):Int)=(7:Int) from rfl] at ea
  rw [ea,Vad (n:=1020+(a:Int)) (by omega) (by omega),show (1020:Int)+(a:Int)=((1020+a:Nat):Int) by omega,mk_ok (k:=1020+a) (w:=1) (by omega) (by omega)]
  exact Ok.some (Vde hT (by omega) tc te hT.n hT.x)
 refine Ok.cond (fun _=>?_) (fun _=>?_)
 ·obtain ⟨a,ha,ea⟩:=mask (v:Int) 1 (by omega)
  rw [show ((1:Nat):Int)=(1:Int) from rfl] at ea
  rw [ea]
  have:a=0∨a=1:=by omega
  rcases this with rfl | rfl
  ·exact Ok.some (Vde hT (by omega) tc te (by decide) hT.x)
  ·exact Ok.some (Vde hT (by omega) tc te (by decide) hT.x)
 refine Ok.cond (fun _=>?_) (fun _=>?_)
 ·rw [eq,Vad (n:=175+(q:Int)) (by omega) (by omega),show (175:Int)+(q:Int)=((175+q:Nat):Int) by omega,mk_ok (k:=175+q) (w:=1) (by omega) (by omega)]
  exact Ok.some (Vde hT (by omega) tc te hT.n hT.x)
 refine Ok.cond (fun _=>?_) (fun _=>?_)
 ·rw [eq,Vad (n:=175+(q:Int)) (by omega) (by omega),show (175:Int)+(q:Int)=((175+q:Nat):Int) by omega,mk_ok (k:=175+q) (w:=1) (by omega) (by omega)]
  simp only [cond_true]
  have te3:=hT.e
  rw [Voj (by rw [List.length_singleton]; omega)]
  refine Ok.some (Vde hT (by omega) tc (by rw [List.length_append,List.length_singleton]; omega) hT.n ?_)
  intro x hx
  rcases List.mem_append.1 hx with hx | hx
  ·exact hT.x x hx
  ·rw [List.mem_singleton] at hx
   subst hx
   exact ⟨by dsimp only; decide,by dsimp only; decide⟩
 refine Ok.cond (fun _=>?_) (fun _=>?_)
 ·obtain ⟨a,ha,ea⟩:=mask (v:Int) 7 (by omega)
  rw [show ((7:Nat):Int)=(7:Int) from rfl] at ea
  rw [ea,mk_ok (k:=a) (w:=24) (by omega) (by omega)]
  exact Ok.some (Vde hT (by omega) (by rw [List.length_replicate]; omega) te hT.n hT.x)
 refine Ok.cond (fun _=>?_) (fun _=>?_)
 ·obtain ⟨a,ha,ea⟩:=mask (v:Int) 255 (by omega)
  rw [show ((255:Nat):Int)=(255:Int) from rfl] at ea
  rw [ea,Vad (n:=900+(a:Int)) (by omega) (by omega),show (900:Int)+(a:Int)=((900+a:Nat):Int) by omega,mk_ok (k:=900+a) (w:=1) (by omega) (by omega)]
  exact Ok.some (Vde hT (by omega) (by rw [List.length_singleton]; omega) te hT.n hT.x)
 exact Ok.some (Vde hT (by omega) tc te hT.n hT.x)
theorem Vxm:Zbk=some ((),true,()):=by kernel_rfl
theorem Vfa (a0:ApiReply) (a1 a2:Int) (hd:MessageReplies_dom a0 a1 a2):Ok (Zae a0 a1 a2) fun r=>r.2.1=true:=by
 unfold Zae
 have aw:Ok ((Zbk).bind fun r1=>(some ((),(r1.2.1,())):Option (Unit×(Bool×Unit)))) fun r=>r.2.1=true:=by rw [Vxm]; exact ⟨_,rfl,rfl⟩
 refine Ok.cond (fun _=>aw) (fun _=>?_)
 refine Ok.cond (fun _=>aw) (fun _=>?_)
 refine Ok.cond (fun _=>aw) (fun _=>?_)
 refine Ok.cond (fun _=>aw) (fun hc=>?_)
 refine Ok.cond (fun _=>aw) (fun he=>?_)
 refine Ok.cond (fun _=>aw) (fun _=>?_)
 refine Ok.cond (fun _=>aw) (fun _=>?_)
 refine Ok.cond (fun _=>aw) (fun hn=>?_)
 have hc:=of_decide_eq_false hc
 have he:=of_decide_eq_false he
 have hn:=of_decide_eq_false hn
 have e0:Zae_L0 (a1,a2,(a0,()),(0:Int),())=some (bif a0.entries.all (fun x=>!(decide ((100:Int) < (x.rP.length:Int))||decide ((100:Int) < (x.user.length:Int))||decide ((100:Int) < (x.name.length:Int))||decide ((300:Int) < (x.iD.length:Int)))) then Sum.inr (a1,a2,(a0,()),()) else Sum.inl (true,())):=by
  unfold Zae_L0
  rw [show ((0:Int))=((0:Nat):Int) from rfl,Vby a0.entries (fun x=>!(decide ((100:Int) < (x.rP.length:Int))||decide ((100:Int) < (x.user.length:Int))||decide ((100:Int) < (x.name.length:Int))||decide ((300:Int) < (x.iD.length:Int)))) (fun i=>(a1,a2,(a0,()),(i:Int),())) (Sum.inl (true,())) (Sum.inr (a1,a2,(a0,()),())) (by omega)]
  ·intro i x hx
   have h1:=Van hx
   simp only [Zae_L0b,Vbk hx,gIn hx,bindS,cond_true,Var (i:=i) (by omega),Vxm]
   cases decide ((100:Int) < (x.rP.length:Int))<;>cases decide ((100:Int) < (x.user.length:Int))<;>cases decide ((100:Int) < (x.name.length:Int))<;>cases decide ((300:Int) < (x.iD.length:Int))<;>rfl
  ·simp [Zae_L0b]
 rw [e0]
 cases hE:a0.entries.all (fun x=>!(decide ((100:Int) < (x.rP.length:Int))||decide ((100:Int) < (x.user.length:Int))||decide ((100:Int) < (x.name.length:Int))||decide ((300:Int) < (x.iD.length:Int))))
 ·exact ⟨_,rfl,rfl⟩
 simp only [cond_true,bindS,Sum.elim_inr]
 have e1:Zae_L2 (a1,a2,(a0,()),(0:Int),())=some (bif a0.certificates.all (fun x=>!decide ((1200:Int) < (x.length:Int))) then Sum.inr (a1,a2,(a0,()),()) else Sum.inl (true,())):=by
  unfold Zae_L2
  rw [show ((0:Int))=((0:Nat):Int) from rfl,Vby a0.certificates (fun x=>!decide ((1200:Int) < (x.length:Int))) (fun i=>(a1,a2,(a0,()),(i:Int),())) (Sum.inl (true,())) (Sum.inr (a1,a2,(a0,()),())) (by omega)]
  ·intro i x hx
   have h1:=Van hx
   simp only [Zae_L2b,Vbk hx,gIn hx,bindS,cond_true,Var (i:=i) (by omega),Vxm]
   cases decide ((1200:Int) < (x.length:Int))<;>rfl
  ·simp [Zae_L2b]
 rw [e1]
 cases a0.certificates.all (fun x=>!decide ((1200:Int) < (x.length:Int)))
 ·exact ⟨_,rfl,rfl⟩
 simp only [cond_true,bindS,Sum.elim_inr]
 have hs:Sane a0:=by
  refine ⟨by omega,by omega,by omega,fun x hx=>?_⟩
  have:=List.all_eq_true.1 hE x hx
  simp only [Bool.not_eq_true',Bool.or_eq_false_iff,decide_eq_false_iff_not] at this
  omega
 rw [Vj9 a0 hs]
 simp only [cond_true,bindS]
 refine Ok.bind (Ok.mono (Vq7 _ _) ?_)
 rintro ⟨u,x,u2⟩ hx
 dsimp only at *
 rw [Vj9 x hx]
 simp only [cond_true,bindS]
 exact aw
end Go.Proofs.YthoblablopmhfaaGreatDoor

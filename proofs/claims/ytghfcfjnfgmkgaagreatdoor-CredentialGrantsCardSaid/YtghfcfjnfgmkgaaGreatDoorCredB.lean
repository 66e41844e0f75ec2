/- credentials: the document's samples, how long the bytes are; the law CredentialValidates, plainly. No condition. -/
import Derived.Test.YtghfcfjnfgmkgaaGreatDoorCredA
set_option linter.unusedVariables false
set_option linter.unusedSimpArgs false
set_option maxRecDepth 100000
namespace Go.Proofs.YtghfcfjnfgmkgaaGreatDoor
open Go Go.Abs
theorem awakeC_ok:Zbe=some ((),true,()):=by kernel_rfl
theorem awakeC:Ok (Zbe.bind fun r=>some ((),(r.2.1,()))) fun r=>r.2.1=true:=by
  rw [awakeC_ok]; exact ⟨_,rfl,rfl⟩
theorem tmod3 (k:Nat):∃ j:Nat,j < 3 ∧ Int.tmod (k:Int) 3=(j:Int):=⟨k % 3,Nat.mod_lt _ (by omega),by rw [Int.tmod_eq_emod_of_nonneg (by omega)]; omega⟩
theorem three {j:Nat} (h:j < 3):j=0 ∨ j=1 ∨ j=2:=by omega
theorem RP_ok (n:Int):∃ l,Zcp n=some ((),l,()) ∧ 1 ≤ l.length ∧ l.length ≤ 64 ∧ Lib.validD l=true:=by
  obtain ⟨k,hk,e⟩:=mask n 65535 (by omega)
  obtain ⟨j,hj,ej⟩:=tmod3 k
  unfold Zcp
  dsimp only
  rw [show ((65535:Nat):Int)=(65535:Int) from rfl] at e
  rw [e,ej]
  rcases three hj with rfl | rfl | rfl
  · exact ⟨_,rfl,by decide,by decide,by decide +kernel⟩
  · exact ⟨_,rfl,by decide,by decide,by decide +kernel⟩
  · exact ⟨_,rfl,by decide,by decide,by decide +kernel⟩
theorem User_ok (n:Int):∃ l,Zcd n=some ((),l,()) ∧ 1 ≤ l.length ∧ l.length ≤ 16:=by
  obtain ⟨k,hk,e⟩:=mask n 65535 (by omega)
  obtain ⟨j,hj,ej⟩:=tmod3 k
  unfold Zcd
  dsimp only
  rw [show ((65535:Nat):Int)=(65535:Int) from rfl] at e
  rw [e,ej]
  rcases three hj with rfl | rfl | rfl
  · exact ⟨_,rfl,by decide,by decide⟩
  · exact ⟨_,rfl,by decide,by decide⟩
  · exact ⟨_,rfl,by decide,by decide⟩
theorem valC_of {c:ApiCredential} (h:OkC c) (h1:c.shared=true → c.resident=true) (h2:c.backed=true → c.shared=true):valC c=0:=by
  have hr:rngC c=true:=by
    have a1:=h.rp1
    have a2:=h.rp
    have a3:=h.us1
    have a4:=h.us
    have a5:=h.nm
    unfold rngC
    rw [decide_eq_true (by omega:(1:Int) ≤ (c.rP.length:Int)),decide_eq_true (by omega:(c.rP.length:Int) ≤ 64),decide_eq_true (by omega:(1:Int) ≤ (c.user.length:Int)),decide_eq_true (by omega:(c.user.length:Int) ≤ 16),decide_eq_false (by omega:¬ (32:Int) < (c.name.length:Int)),decide_eq_true h.ht1,decide_eq_true h.ht,decide_eq_true h.pr1,decide_eq_true h.pr]
    rfl
  unfold valC
  rw [hr,h.vr,h.vn]
  cases hs:c.shared with
  | true=>rw [h1 hs]; cases c.backed <;> rfl
  | false=>
    cases hb:c.backed with
    | true=>rw [h2 hb] at hs; cases hs
    | false=>rfl
theorem Cred_ok (k:Nat) (hk:k ≤ 1048575):Ok (Zap (k:Int)) fun r=>valC r.2.1=0:=by
  unfold Zap
  obtain ⟨rp,e1,r1,r2,r3⟩:=RP_ok (k:Int)
  rw [e1]
  dsimp only [Option.bind]
  obtain ⟨us,e2,u1,u2⟩:=User_ok (Int.fdiv (k:Int) (2 ^ (min 2 (IntKind.bits .i64))))
  rw [e2]
  dsimp only [Option.bind]
  obtain ⟨a,b,e3⟩:=Text_ok (Int.fdiv (k:Int) (2 ^ (min 4 (IntKind.bits .i64))))
  rw [e3]
  dsimp only [Option.bind]
  obtain ⟨t1,t2⟩:=text_valid a b
  obtain ⟨k1,hk1,m1⟩:=mask (Int.fdiv (k:Int) (2 ^ (min 3 (IntKind.bits .i64)))) 1 (by omega)
  obtain ⟨k2,hk2,m2⟩:=mask (Int.fdiv (k:Int) (2 ^ (min 7 (IntKind.bits .i64)))) 1 (by omega)
  obtain ⟨k3,hk3,m3⟩:=mask (Int.fdiv (k:Int) (2 ^ (min 8 (IntKind.bits .i64)))) 1 (by omega)
  obtain ⟨k4,hk4,m4⟩:=mask (Int.fdiv (k:Int) (2 ^ (min 9 (IntKind.bits .i64)))) 1 (by omega)
  rw [show ((1:Nat):Int)=(1:Int) from rfl] at m1 m2 m3 m4
  rw [m1,m2,m3,m4]
  have e5:Int.fdiv (k:Int) (2 ^ (min 5 (IntKind.bits .i64)))=((k / 32:Nat):Int):=by
    rw [show (2:Int) ^ (min 5 (IntKind.bits .i64))=32 from rfl,Int.fdiv_eq_ediv_of_nonneg _ (by omega)]
    omega
  rw [e5]
  obtain ⟨j,hj,ej⟩:=tmod3 (k / 32)
  rw [ej]
  have w1:IntKind.wrap .i64 ((1:Int) + (k1:Int))=1 + (k1:Int):=wrap_id (by omega) (by omega)
  have w2:IntKind.wrap .i64 ((1:Int) + (j:Int))=1 + (j:Int):=wrap_id (by omega) (by omega)
  rw [w1,w2]
  have H:∀ (s:BitVec 64) (q1 q2 q3:Bool),OkC ⟨rp,us,words.getD a.val [] ++ words.getD b.val [],s,1 + (k1:Int),q1,1 + (j:Int),q2,q3⟩:=fun s q1 q2 q3=>
    ⟨r1,r2,u1,u2,t2,by dsimp only; omega,by dsimp only; omega,by dsimp only; omega,by dsimp only; omega,r3,t1⟩
  cases h2:decide ((k2:Int)=1) with
  | false=>exact Ok.some (valC_of (H _ _ _ _) (fun h=>by cases h) (fun h=>by cases h))
  | true=>
    simp only [cond_true]
    cases h3:decide ((k3:Int)=1) with
    | false=>exact Ok.some (valC_of (H _ _ _ _) (fun h=>by cases h) (fun h=>by cases h))
    | true=>exact Ok.some (valC_of (H _ _ _ _) (fun h=>rfl) (fun h=>rfl))
theorem four {j:Nat} (h:j ≤ 3):j=0 ∨ j=1 ∨ j=2 ∨ j=3:=by omega
theorem spoilC_ok (c:ApiCredential) (n:Int) (h1:c.rP.length ≤ 100) (h2:c.name.length ≤ 100):Ok (Zbf c n) fun r=>r.2.1.rP.length ≤ 100 ∧ r.2.1.name.length ≤ 100:=by
  obtain ⟨k1,hk1,m1⟩:=mask (Int.fdiv n (2 ^ (min 4 (IntKind.bits .i64)))) 65535 (by omega)
  obtain ⟨k2,hk2,m2⟩:=mask n 15 (by omega)
  obtain ⟨k3,hk3,m3⟩:=mask (k1:Int) 3 (by omega)
  obtain ⟨k7,hk7,m7⟩:=mask (k1:Int) 7 (by omega)
  rw [show ((65535:Nat):Int)=(65535:Int) from rfl] at m1
  rw [show ((15:Nat):Int)=(15:Int) from rfl] at m2
  rw [show ((3:Nat):Int)=(3:Int) from rfl] at m3
  rw [show ((7:Nat):Int)=(7:Int) from rfl] at m7
  unfold Zbf
  rw [m1,m2]
  dsimp only
  rw [m3,m7]
  have hl:∀ j,j ≤ 3 → j=0 ∨ j=1 ∨ j=2 ∨ j=3:=fun j h=>four h
  refine Ok.cond (fun _=>?_) fun _=>Ok.cond (fun _=>?_) fun _=>Ok.cond (fun _=>?_) fun _=>Ok.cond (fun _=>⟨_,rfl,h1,h2⟩) fun _=>Ok.cond (fun _=>⟨_,rfl,h1,h2⟩) fun _=>Ok.cond (fun _=>⟨_,rfl,h1,h2⟩) fun _=>Ok.cond (fun _=>⟨_,rfl,h1,h2⟩) fun _=>Ok.cond (fun _=>⟨_,rfl,h1,h2⟩) fun _=>⟨_,rfl,h1,h2⟩
  · rcases four hk3 with rfl | rfl | rfl | rfl
    · exact ⟨_,rfl,by dsimp only; decide,h2⟩
    · exact ⟨_,rfl,by dsimp only; decide,h2⟩
    · exact ⟨_,rfl,by dsimp only; decide,h2⟩
    · exact ⟨_,rfl,by dsimp only; decide,h2⟩
  · rcases four hk3 with rfl | rfl | rfl | rfl
    · exact ⟨_,rfl,h1,h2⟩
    · exact ⟨_,rfl,h1,h2⟩
    · exact ⟨_,rfl,h1,h2⟩
    · exact ⟨_,rfl,h1,h2⟩
  · rcases four hk3 with rfl | rfl | rfl | rfl
    · exact ⟨_,rfl,h1,by dsimp only; decide⟩
    · exact ⟨_,rfl,h1,by dsimp only; decide⟩
    · exact ⟨_,rfl,h1,by dsimp only; decide⟩
    · exact ⟨_,rfl,h1,by dsimp only; decide⟩
theorem len_txt {k:Int} {l:List UInt8} (hk:k=3 ∨ k=4) (hl:l.length < 256):(enc ⟨k,0#64,l⟩).length ≤ 2 + l.length:=by
  have h7:hdI ⟨k,0#64,l⟩=hdr (mj k) (BitVec.ofInt 64 (l.length:Int)):=by rcases hk with rfl | rfl <;> rfl
  have hn:(BitVec.ofInt 64 (l.length:Int)).toNat=l.length:=len_nat (by omega)
  unfold enc
  rw [h7,hdr_eq,List.length_append,List.length_cons,beb_len]
  have:sho (BitVec.ofInt 64 (l.length:Int)) ≤ 1:=by
    unfold sho
    rw [hn]
    cases decide (l.length < 24) with
    | true=>exact Nat.zero_le _
    | false=>rw [cond_false,decide_eq_true hl,cond_true]; exact Nat.le_refl _
  dsimp only
  omega
theorem len_num (n:BitVec 64):(enc ⟨1,n,[]⟩).length ≤ 9:=by
  unfold enc
  rw [List.append_nil]
  exact (hdI_len _).2
theorem len_bool (b:Bool):(enc (bI b)).length=1:=by cases b <;> decide +kernel
theorem len_small {n:Int} (h1:1 ≤ n) (h2:n ≤ 4):(enc ⟨1,BitVec.ofInt 64 n,[]⟩).length=1:=by
  have:n=1 ∨ n=2 ∨ n=3 ∨ n=4:=by omega
  rcases this with rfl | rfl | rfl | rfl <;> decide +kernel
theorem bytC_len {c:ApiCredential} (h:OkC c):(bytC c).length ≤ 160:=by
  have a1:=len_txt (k:=4) (l:=c.rP) (.inr rfl) (by have:=h.rp; omega)
  have a2:=len_txt (k:=3) (l:=c.user) (.inl rfl) (by have:=h.us; omega)
  have a3:=len_txt (k:=4) (l:=c.name) (.inr rfl) (by have:=h.nm; omega)
  have a4:=len_num c.seed
  have a5:=len_small h.ht1 h.ht
  have a6:=len_small h.pr1 (by have:=h.pr; omega)
  have a7:=len_bool c.resident
  have a8:=len_bool c.shared
  have a9:=len_bool c.backed
  have b1:=h.rp
  have b2:=h.us
  have b3:=h.nm
  have k0:(enc ⟨6,9#64,[]⟩).length=1:=by decide +kernel
  have k1:(enc ⟨1,1#64,[]⟩).length=1:=by decide +kernel
  have k2:(enc ⟨1,2#64,[]⟩).length=1:=by decide +kernel
  have k3:(enc ⟨1,3#64,[]⟩).length=1:=by decide +kernel
  have k4:(enc ⟨1,4#64,[]⟩).length=1:=by decide +kernel
  have k5:(enc ⟨1,5#64,[]⟩).length=1:=by decide +kernel
  have k6:(enc ⟨1,6#64,[]⟩).length=1:=by decide +kernel
  have k7:(enc ⟨1,7#64,[]⟩).length=1:=by decide +kernel
  have k8:(enc ⟨1,8#64,[]⟩).length=1:=by decide +kernel
  have k9:(enc ⟨1,9#64,[]⟩).length=1:=by decide +kernel
  unfold bytC itemsC
  simp only [encA_cons,List.length_append]
  rw [k0,k1,k2,k3,k4,k5,k6,k7,k8,k9,a5,a6,a7,a8,a9,show (encA []).length=0 from rfl]
  clear k0 k1 k2 k3 k4 k5 k6 k7 k8 k9 a5 a6 a7 a8 a9
  generalize (enc ⟨4,0#64,c.rP⟩).length=n1 at a1 ⊢
  generalize (enc ⟨3,0#64,c.user⟩).length=n2 at a2 ⊢
  generalize (enc ⟨4,0#64,c.name⟩).length=n3 at a3 ⊢
  generalize (enc ⟨1,c.seed,[]⟩).length=n4 at a4 ⊢
  omega
end Go.Proofs.YtghfcfjnfgmkgaaGreatDoor

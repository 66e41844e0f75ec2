/- grants; the law CredentialGrants, plainly. No condition. -/
import Derived.Test.YtghfcfjnfgmkgaaGreatDoorCredC
set_option linter.unusedVariables false
set_option linter.unusedSimpArgs false
set_option maxRecDepth 100000
namespace Go.Proofs.YtghfcfjnfgmkgaaGreatDoor
open Go Go.Abs
def shl1 (h:Int):Int:=IntKind.wrap .i64 ((1:Int) * 2 ^ (min h.toNat (IntKind.bits .i64)))
def byI (n:Int):UInt8:=UInt8.ofBitVec (BitVec.ofInt 8 n)
def encG (c:ApiCredential) (a b:Int):List UInt8 × Int:=
  bif !decide (valC c=0) then ([],valC c) else bif !c.backed then ([],18) else bif decide (a < 0) then ([],9) else bif decide (b < a) then ([],9) else bif decide (shl1 c.height < b) then ([],9) else ([byI a,byI b] ++ bytC c,0)
theorem cEncG_ok (c:ApiCredential) (a b:Int) (h1:c.rP.length < 1000000) (h2:c.name.length < 1000000):Zan c a b=some ((),(encG c a b).1,(encG c a b).2,()):=by
  unfold Zan encG
  rw [cEncode_ok c h1 h2]
  simp only [bindS]
  unfold encP
  by_cases hv:valC c=0
  · have ho:=valC_zero hv
    have hl:=bytC_len ho
    rw [decide_eq_true hv]
    simp only [cond_true,decide_true,Bool.not_true,cond_false]
    have hs:∀ v:List UInt8,v.length=2 → small (v.length + (bytC c).length) 1=true:=fun v h=>small1 (by omega)
    rw [hs _ rfl,decide_eq_true (by have:=ho.ht1; omega:(0:Int) ≤ c.height)]
    cases c.backed
    · rfl
    cases decide (a < 0)
    case true=>rfl
    cases decide (b < a)
    case true=>rfl
    simp only [Bool.not_true,cond_false,cond_true]
    show (bif decide (shl1 c.height < b) then _ else _)=_
    cases decide (shl1 c.height < b) <;> rfl
  · rw [decide_eq_false hv]
    simp only [cond_false,Bool.not_false,cond_true]
    rw [decide_eq_false hv]
    rfl
theorem rEncG_ok (c:ApiCredential) (a b:Int) (h1:c.rP.length < 1000000) (h2:c.name.length < 1000000):Zah c a b=some ((),(encG c a b).1,(encG c a b).2,()):=by
  unfold Zah encG
  rw [rEncodeC_ok c h1 h2]
  simp only [bindS]
  unfold encP
  by_cases hv:valC c=0
  · have ho:=valC_zero hv
    have hl:=bytC_len ho
    rw [decide_eq_true hv]
    simp only [cond_true,decide_true,Bool.not_true,cond_false]
    have hs:∀ v:List UInt8,v.length=2 → small (v.length + (bytC c).length) 1=true:=fun v h=>small1 (by omega)
    have hn:(BitVec.ofInt 64 c.height).toNat=c.height.toNat:=by
      have:=toNat_small ho.ht1 ho.ht
      omega
    rw [hs _ rfl,hn]
    cases c.backed
    · rfl
    cases decide (a < 0)
    case true=>rfl
    cases decide (b < a)
    case true=>rfl
    simp only [Bool.not_true,cond_false,cond_true]
    show (bif decide (shl1 c.height < b) then _ else _)=_
    cases decide (shl1 c.height < b) <;> rfl
  · rw [decide_eq_false hv]
    simp only [cond_false,Bool.not_false,cond_true]
    rw [decide_eq_false hv]
    rfl
noncomputable def decG (b:List UInt8):ApiCredential × Int × Int × Int:=
  match b with
  | x :: y :: r=>bif decide ((decC r).2=0) && decide ((encG (decC r).1 (x.toNat:Int) (y.toNat:Int)).2=0) then ((decC r).1,(x.toNat:Int),(y.toNat:Int),0) else (zC,0,0,2)
  | _=>(zC,0,0,2)
theorem decC_zero {b:List UInt8} (h:(decC b).2=0):valC (decC b).1=0 ∧ bytC (decC b).1=b:=by
  by_cases he:∃ c,valC c=0 ∧ bytC c=b
  · obtain ⟨c,h1,h2⟩:=he
    rw [decC_yes h1 h2]
    exact ⟨h1,h2⟩
  · rw [decC_no fun c h1 h2=>he ⟨c,h1,h2⟩] at h
    cases h
theorem cDecG_ok (b:List UInt8) (hb:b.length < 1000000):Zam b=some ((),(decG b).1,(decG b).2.1,(decG b).2.2.1,(decG b).2.2.2,()):=by
  unfold Zam
  match b,hb with
  | [],_=>rfl
  | [x],_=>rfl
  | x :: y :: r,hb=>
    rw [decide_eq_false (by simp only [List.length_cons]; omega),cond_false,decide_eq_true (by simp only [List.length_cons]; omega),cond_true,show List.drop 2 (x :: y :: r)=r from rfl,cDecode_ok r (by simp only [List.length_cons] at hb; omega)]
    simp only [bindS]
    unfold decG
    dsimp only
    by_cases h0:(decC r).2=0
    · have ho:=valC_zero (decC_zero h0).1
      rw [decide_eq_true h0]
      simp only [Bool.not_true,cond_false,Bool.true_and]
      rw [show getI (x :: y :: r) (0:Int)=some x from rfl,show getI (x :: y :: r) (1:Int)=some y from rfl]
      simp only [bindS]
      have E:=cEncG_ok (decC r).1 (x.toNat:Int) (y.toNat:Int) (by have:=ho.rp; omega) (by have:=ho.nm; omega)
      have E':Zan (decC r).1 (x.toBitVec.toNat:Int) (y.toBitVec.toNat:Int)=_:=E
      rw [E']
      simp only [bindS]
      cases decide ((encG (decC r).1 (x.toNat:Int) (y.toNat:Int)).2=0) <;> rfl
    · rw [decide_eq_false h0]
      rfl
theorem rDecG_ok (b:List UInt8) (hb:b.length < 1000000):Zag b=some ((),(decG b).1,(decG b).2.1,(decG b).2.2.1,(decG b).2.2.2,()):=by
  unfold Zag
  match b,hb with
  | [],_=>rfl
  | [x],_=>rfl
  | x :: y :: r,hb=>
    rw [decide_eq_false (by simp only [List.length_cons]; omega),cond_false,decide_eq_true (by simp only [List.length_cons]; omega),cond_true,show List.drop 2 (x :: y :: r)=r from rfl,rDecodeC_ok r (by simp only [List.length_cons] at hb; omega)]
    simp only [bindS]
    unfold decG
    dsimp only
    by_cases h0:(decC r).2=0
    · have ho:=valC_zero (decC_zero h0).1
      rw [decide_eq_true h0]
      simp only [Bool.not_true,cond_false,Bool.true_and]
      rw [show getI (x :: y :: r) (0:Int)=some x from rfl,show getI (x :: y :: r) (1:Int)=some y from rfl]
      simp only [bindS]
      have E:=rEncG_ok (decC r).1 (x.toNat:Int) (y.toNat:Int) (by have:=ho.rp; omega) (by have:=ho.nm; omega)
      have E':Zah (decC r).1 (x.toBitVec.toNat:Int) (y.toBitVec.toNat:Int)=_:=E
      rw [E']
      simp only [bindS]
      cases decide ((encG (decC r).1 (x.toNat:Int) (y.toNat:Int)).2=0) <;> rfl
    · rw [decide_eq_false h0]
      rfl
theorem grants_ok (b:List UInt8) (hb:b.length < 1000000):Zax b=some ((),true,()):=by
  unfold Zax
  rw [cDecG_ok b hb,rDecG_ok b hb]
  simp
theorem or_ok (k:Nat) (hk:k ≤ 1048575):∃ j:Nat,j ≤ 1048575 ∧ IntKind.wrap .i64 ((BitVec.ofInt (IntKind.bits .i64) (k:Int) ||| BitVec.ofInt (IntKind.bits .i64) (896:Int)).toNat:Int)=(j:Int):=by
  have h1:(BitVec.ofInt 64 (k:Int)).toNat=k:=by
    rw [BitVec.toNat_ofInt]; omega
  have h2:(BitVec.ofInt 64 (896:Int)).toNat=896:=rfl
  have h3:(k ||| 896) < 2 ^ 20:=Nat.or_lt_two_pow (by omega) (by omega)
  refine ⟨k ||| 896,by omega,?_⟩
  have e:(BitVec.ofInt (IntKind.bits .i64) (k:Int) ||| BitVec.ofInt (IntKind.bits .i64) (896:Int)).toNat=k ||| 896:=by
    show (BitVec.ofInt 64 (k:Int) ||| BitVec.ofInt 64 (896:Int)).toNat=_
    rw [BitVec.toNat_or,h1,h2]
  rw [e]
  exact wrap_id (by omega) (by omega)
theorem byI_nat {n:Int} (h1:0 ≤ n) (h2:n ≤ 16):((byI n).toNat:Int)=n:=by
  obtain ⟨k,rfl⟩:∃ k:Nat,n=(k:Int):=⟨n.toNat,by omega⟩
  have:∀ k:Fin 17,((byI (k.val:Int)).toNat:Int)=(k.val:Int):=by decide +kernel
  exact this ⟨k,by omega⟩
theorem shl1_le {h:Int} (h1:1 ≤ h) (h2:h ≤ 4):shl1 h ≤ 16:=by
  have:h=1 ∨ h=2 ∨ h=3 ∨ h=4:=by omega
  rcases this with rfl | rfl | rfl | rfl <;> decide +kernel
theorem encG_len (c:ApiCredential) (a b:Int):(encG c a b).1.length ≤ 162:=by
  unfold encG
  by_cases hv:valC c=0
  · rw [decide_eq_true hv]
    have:=bytC_len (valC_zero hv)
    cases c.backed
    · exact Nat.zero_le _
    cases decide (a < 0)
    case true=>exact Nat.zero_le _
    cases decide (b < a)
    case true=>exact Nat.zero_le _
    cases decide (shl1 c.height < b)
    case true=>exact Nat.zero_le _
    simp only [Bool.not_true,cond_false,List.length_append,List.length_cons,List.length_nil]
    omega
  · rw [decide_eq_false hv]
    exact Nat.zero_le _
theorem decG_enc {c:ApiCredential} {a b:Int} (h:(encG c a b).2=0):decG (encG c a b).1=(c,a,b,0) ∧ 1 ≤ (encG c a b).1.length:=by
  have h':=h
  unfold encG at h
  by_cases hv:valC c=0
  · have ho := valC_zero hv
    rw [decide_eq_true hv] at h
    cases hbk:c.backed with
    | false=>rw [hbk] at h; cases h
    | true=>
      rw [hbk] at h
      by_cases h1:a < 0
      · rw [decide_eq_true h1] at h; cases h
      · rw [decide_eq_false h1] at h
        by_cases h2:b < a
        · rw [decide_eq_true h2] at h; cases h
        · rw [decide_eq_false h2] at h
          by_cases h3:shl1 c.height < b
          · rw [decide_eq_true h3] at h; cases h
          · have hs:=shl1_le ho.ht1 ho.ht
            have e:(encG c a b).1=byI a :: byI b :: bytC c:=by
              unfold encG
              rw [decide_eq_true hv,hbk,decide_eq_false h1,decide_eq_false h2,decide_eq_false h3]
              rfl
            rw [e]
            refine ⟨?_,by simp⟩
            unfold decG
            dsimp only
            rw [decC_yes hv rfl]
            dsimp only
            rw [byI_nat (by omega) (by omega),byI_nat (by omega) (by omega),h']
            rfl
  · rw [decide_eq_false hv] at h
    exact absurd h hv
theorem CredentialGrants_plain (a0 a1 a2 a3:Int) (a4:List UInt8) (a5:Int) (a6:UInt8) (hd:CredentialGrants_dom a0 a1 a2 a3 a4 a5 a6):Ok (Zac a0 a1 a2 a3 a4 a5 a6) fun r=>r.2.1=true:=by
  unfold Zac
  refine Ok.cond (fun _=>awakeC) fun h4=>?_
  simp only [decide_eq_false_iff_not] at h4
  obtain ⟨k,hk,e⟩:=mask a0 1048575 (by omega)
  rw [show ((1048575:Nat):Int)=(1048575:Int) from rfl] at e
  obtain ⟨j,hj,ej⟩:=or_ok k hk
  obtain ⟨k5,hk5,e5⟩:=mask a5 65535 (by omega)
  rw [show ((65535:Nat):Int)=(65535:Int) from rfl] at e5
  rw [e,e5]
  dsimp only
  rw [ej]
  refine Ok.bind (Ok.mono (Cred_ok j hj) ?_)
  rintro ⟨_,x,_⟩ hx
  dsimp only at *
  have hx':=valC_zero hx
  refine Ok.bind (Ok.mono (spoilC_ok x a1 (by have:=hx'.rp; omega) (by have:=hx'.nm; omega)) ?_)
  rintro ⟨_,y,_⟩ ⟨y1,y2⟩
  dsimp only at *
  rw [cEncG_ok y _ _ (by omega) (by omega),rEncG_ok y _ _ (by omega) (by omega)]
  simp only [bindS]
  generalize IntKind.wrap .i64 (IntKind.wrap .i64 ((BitVec.ofInt (IntKind.bits .i64) a2 &&& BitVec.ofInt (IntKind.bits .i64) (7:Int)).toNat:Int) - (1:Int))=p
  generalize IntKind.wrap .i64 ((BitVec.ofInt (IntKind.bits .i64) a3 &&& BitVec.ofInt (IntKind.bits .i64) (7:Int)).toNat:Int)=q
  rw [cEncG_ok y p q (by omega) (by omega),rEncG_ok y p q (by omega) (by omega)]
  simp only [bindS,decide_true,Bool.not_true,cond_false]
  have hlen:=encG_len y p q
  have fin:∀ b:List UInt8,b.length < 1000000 → Ok ((Zax b).bind fun r19=>(bif r19.2.1 then ((Zax a4).bind fun r20=>(bif r20.2.1 then ((Zbe).bind fun r21=>(some ((),(r21.2.1,()))))
 else (some ((),(false,())))))
 else (some ((),(false,()))))) fun (r:Unit × (Bool × Unit))=>r.2.1=true:=by
    intro b hb
    rw [grants_ok b hb,grants_ok a4 (by omega)]
    simp only [bindS,cond_true]
    exact awakeC
  by_cases hg:(encG y p q).2=0
  · rw [decide_eq_true hg,cond_true,cDecG_ok _ (by omega)]
    obtain ⟨g1,g2⟩:=decG_enc hg
    rw [g1]
    simp only [bindS,decide_true,Bool.not_true,cond_false,beq_self_eq_true,Bool.and_self,Bool.and_true,Bool.true_and]
    have ht1:0 ≤ Int.tmod (k5:Int) ((encG y p q).1.length:Int):=Int.tmod_nonneg _ (by omega)
    have ht2:Int.tmod (k5:Int) ((encG y p q).1.length:Int) < ((encG y p q).1.length:Int):=Int.tmod_lt_of_pos _ (by omega)
    rw [show decide (((encG y p q).1.length:Int)=0)=false from decide_eq_false (by omega),cond_false,decide_eq_true ht1,decide_eq_true ht2]
    simp only [Bool.and_self,cond_true]
    refine Ok.bind (Ok.get (by omega) fun x15=>Ok.get (by omega) fun x16=>Ok.some ?_)
    exact fin _ (by rw [List.length_set]; omega)
  · rw [decide_eq_false hg,cond_false]
    exact fin (encG y p q).1 (by omega)
end Go.Proofs.YtghfcfjnfgmkgaaGreatDoor

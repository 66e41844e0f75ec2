/- opening of both, wrapped identifiers; the law CredentialUnwraps, plainly. No condition. -/
import Derived.Test.YtghfcfjnfgmkgaaGreatDoorCredD
set_option linter.unusedVariables false
set_option linter.unusedSimpArgs false
set_option maxRecDepth 100000
namespace Go.Proofs.YtghfcfjnfgmkgaaGreatDoor
open Go Go.Abs
theorem list8 {l:List UInt8} (h:l.length=8):∃ a b c d e f g i,l=[a,b,c,d,e,f,g,i]:=by
  match l,h with
  | [a,b,c,d,e,f,g,i],_=>exact ⟨a,b,c,d,e,f,g,i,rfl⟩
theorem openL (k:BitVec 64) (bd box:List UInt8) (a b c d e f g i:UInt8):Zeb_L0 (k,bd,box,0#64,[a,b,c,d,e,f,g,i],(8:Int),(0:Int),())=some (k,bd,box,bev 0#64 [a,b,c,d,e,f,g,i],()):=by kernel_rfl
theorem word8 (a b c d e f g i:UInt8):Zcg [a,b,c,d,e,f,g,i]=some ((),bev 0#64 [a,b,c,d,e,f,g,i],()):=by kernel_rfl
theorem Word_ok {l:List UInt8} (h:l.length=8):Zcg l=some ((),bev 0#64 l,()):=by
  obtain ⟨a,b,c,d,e,f,g,i,rfl⟩:=list8 h
  exact word8 a b c d e f g i
theorem OpenL_ok (k:BitVec 64) (bd box:List UInt8) {l:List UInt8} (h:l.length=8):Zeb_L0 (k,bd,box,0#64,l,(l.length:Int),(0:Int),())=some (k,bd,box,bev 0#64 l,()):=by
  obtain ⟨a,b,c,d,e,f,g,i,rfl⟩:=list8 h
  exact openL k bd box a b c d e f g i
theorem bev_beb8 (m:BitVec 64):bev 0#64 (beb m 8)=m:=bev_beb m 8 (by omega) (by have:=m.isLt; omega)
theorem word_eq {l:List UInt8} (h:l.length=8) (m:BitVec 64):decide (bev 0#64 l=m)=decide (l=beb m 8):=by
  by_cases e:l=beb m 8
  · rw [decide_eq_true e,e,bev_beb8]
    exact decide_eq_true rfl
  · rw [decide_eq_false e]
    refine decide_eq_false fun q=>e ?_
    rw [← q]
    have:=beb_bev l (by omega)
    rw [h] at this
    exact this.symm
def openO (k:BitVec 64) (bd box:List UInt8):List UInt8 × Int:=
  bif decide (box.drop (box.length - 8)=beb (tagM k (bev 0#64 (box.take 8)) bd ((box.take (box.length - 8)).drop 8)) 8) then (mixO k (bev 0#64 (box.take 8)) ((box.take (box.length - 8)).drop 8),0) else ([],14)
theorem Open_ok (k:BitVec 64) (bd box:List UInt8) (hb:bd.length ≤ 1024) (h1:16 ≤ box.length) (h2:box.length ≤ 1040):Zeb k bd box=some ((),(openO k bd box).1,(openO k bd box).2,()) ∧ Zcj k bd box=some ((),(openO k bd box).1,(openO k bd box).2,()):=by
  have hw:IntKind.wrap .i64 ((box.length:Int) - 8)=((box.length - 8:Nat):Int):=by rw [wrap_id (by omega) (by omega)]; omega
  have ht:(((box.length - 8:Nat):Int)).toNat=box.length - 8:=by omega
  have l8:(box.take 8).length=8:=by rw [List.length_take]; omega
  have d8:(box.drop (box.length - 8)).length=8:=by rw [List.length_drop]; omega
  have c1:decide ((0:Int) ≤ ((box.length - 8:Nat):Int))=true:=decide_eq_true (by omega)
  have c2:decide (((box.length - 8:Nat):Int) ≤ (box.length:Int))=true:=decide_eq_true (by omega)
  have c3:decide ((8:Int) ≤ ((box.length - 8:Nat):Int))=true:=decide_eq_true (by omega)
  have hm:((box.take (box.length - 8)).drop 8).length ≤ 1024:=by rw [List.length_drop,List.length_take]; omega
  obtain ⟨m1,m2,m3⟩:=mix_ok k (bev 0#64 (box.take 8)) ((box.take (box.length - 8)).drop 8) hm
  constructor
  · unfold Zeb
    rw [decide_eq_false (by omega),cond_false,decide_eq_false (by omega),cond_false,decide_eq_false (by omega),cond_false,decide_eq_true (by omega),cond_true,OpenL_ok k bd box l8]
    simp only [bindS,hw,ht,c1,c2,c3,Bool.and_self,cond_true]
    obtain ⟨a,b,c,d,e,f,g,i,hd⟩:=list8 d8
    unfold openO
    rw [hd]
    simp only [List.getElem?_cons_zero,List.getElem?_cons_succ,bindS]
    rw [tag_ok _ _ _ _ (by omega) (by omega)]
    simp only [bindS]
    rw [m1]
    generalize tagM k (bev 0#64 (box.take 8)) bd ((box.take (box.length - 8)).drop 8)=t
    have hq:(decide (a=(arr8 t).a0) && (decide (b=(arr8 t).a1) && (decide (c=(arr8 t).a2) && (decide (d=(arr8 t).a3) && (decide (e=(arr8 t).a4) && (decide (f=(arr8 t).a5) && (decide (g=(arr8 t).a6) && (decide (i=(arr8 t).a7) && true))))))))=decide ([a,b,c,d,e,f,g,i]=beb t 8):=by
      rw [Bool.eq_iff_iff]
      simp only [Bool.and_eq_true,decide_eq_true_eq,and_true]
      rw [beb8]
      simp only [List.cons.injEq,and_true]
      exact Iff.rfl
    rw [hq]
    cases decide ([a,b,c,d,e,f,g,i]=beb t 8) with
    | true=>rfl
    | false=>rfl
  · unfold Zcj
    rw [decide_eq_false (by omega),cond_false,decide_eq_false (by omega),cond_false,decide_eq_false (by omega),cond_false,decide_eq_true (by omega),cond_true,Word_ok l8]
    simp only [bindS,hw,ht,c1,c2,c3,Bool.and_self,cond_true]
    rw [Word_ok d8]
    simp only [bindS]
    rw [rtag_ok _ _ _ _ (by omega) (by omega)]
    simp only [bindS]
    rw [m2,word_eq d8]
    unfold openO
    cases decide (box.drop (box.length - 8)=beb (tagM k (bev 0#64 (box.take 8)) bd ((box.take (box.length - 8)).drop 8)) 8) with
    | true=>rfl
    | false=>rfl
def zs (l:List UInt8):Bool:=l.all fun x=>decide (x=0)
theorem zs_app (a b:List UInt8):zs (a ++ b)=(zs a && zs b):=List.all_append
theorem trimR:∀ (n:Nat) (l:List UInt8) (f:Nat),l.length=n → n < 100000 → n < f → ∃ r t,iter (fun (y:((List (UInt8)) × UInt8 × Unit))=>Zaq_L0b y.1 y.2.1) f (l,0,())=some (r,()) ∧ l=r ++ t ∧ zs t=true ∧ r.length ≤ n ∧ (r ≠ [] → zs r=false):=by
  intro n
  induction n with
  | zero=>
    intro l f h _ hf
    obtain ⟨f,rfl⟩:∃ g,f=g + 1:=⟨f - 1,by omega⟩
    have:l=[]:=List.length_eq_zero_iff.1 h
    subst this
    exact ⟨[],[],rfl,rfl,rfl,Nat.le_refl _,fun h=>absurd rfl h⟩
  | succ n ih=>
    intro l f h hn hf
    obtain ⟨f,rfl⟩:∃ g,f=g + 1:=⟨f - 1,by omega⟩
    rw [iter_succ]
    unfold Zaq_L0b
    dsimp only
    have hw:IntKind.wrap .i64 ((l.length:Int) - 1)=((n:Nat):Int):=by rw [wrap_id (by omega) (by omega)]; omega
    have hlt:n < l.length:=by omega
    rw [decide_eq_true (by omega:(0:Int) < (l.length:Int)),cond_true,hw,getI_nat (List.getElem?_eq_getElem hlt)]
    simp only [bindS]
    have hspl:l=l.take n ++ [l[n]]:=by
      have h1:=(List.take_append_drop n l).symm
      rw [List.drop_eq_getElem_cons hlt,List.drop_eq_nil_of_le (by omega)] at h1
      exact h1
    by_cases hz:l[n].toBitVec=(0:UInt8).toBitVec
    · have hz':l[n]=0:=UInt8.toBitVec_inj.1 hz
      rw [decide_eq_true hz,cond_true,decide_eq_true (by omega:(0:Int) ≤ ((n:Nat):Int)),decide_eq_true (by omega:((n:Nat):Int) ≤ (l.length:Int)),Bool.and_self,cond_true,show (((n:Nat):Int)).toNat=n by omega]
      obtain ⟨r,t,h1,h2,h3,h4,h5⟩:=ih (l.take n) f (by rw [List.length_take]; omega) (by omega) (by omega)
      refine ⟨r,t ++ [0],?_,?_,?_,by omega,h5⟩
      · simp only [bindS,Sum.elim_inl]
        exact h1
      · rw [hz'] at hspl
        rw [← List.append_assoc,← h2]
        exact hspl
      · rw [zs_app,h3]; rfl
    · rw [decide_eq_false hz,cond_false]
      refine ⟨l,[],rfl,by simp,rfl,by omega,fun _=>?_⟩
      rw [hspl,zs_app]
      have:zs [l[n]]=false:=by
        unfold zs
        simp only [List.all_cons,List.all_nil,Bool.and_true]
        exact decide_eq_false fun e=>hz (by rw [e])
      rw [this,Bool.and_false]
theorem trimL:∀ (n:Nat) (l:List UInt8) (f:Nat),l.length=n → n < 100000 → n < f → ∃ r,iter (fun (y:((List (UInt8)) × UInt8 × Unit))=>Zay_L0b y.1 y.2.1) f (l,0,())=some (r,()) ∧ (r=[] ↔ zs l=true):=by
  intro n
  induction n with
  | zero=>
    intro l f h _ hf
    obtain ⟨f,rfl⟩:∃ g,f=g + 1:=⟨f - 1,by omega⟩
    have:l=[]:=List.length_eq_zero_iff.1 h
    subst this
    exact ⟨[],rfl,by simp [zs]⟩
  | succ n ih=>
    intro l f h hn hf
    obtain ⟨f,rfl⟩:∃ g,f=g + 1:=⟨f - 1,by omega⟩
    cases l with
    | nil=>cases h
    | cons x r=>
      rw [iter_succ]
      unfold Zay_L0b
      dsimp only
      rw [decide_eq_true (by simp only [List.length_cons]; omega:(0:Int) < ((x :: r).length:Int)),cond_true,show getI (x :: r) (0:Int)=some x from rfl]
      simp only [bindS]
      by_cases hz:x.toBitVec=(0:UInt8).toBitVec
      · have hz':x=0:=UInt8.toBitVec_inj.1 hz
        rw [decide_eq_true hz,cond_true,decide_eq_true (by simp only [List.length_cons]; omega:(1:Int) ≤ ((x :: r).length:Int)),cond_true]
        obtain ⟨q,h1,h2⟩:=ih r f (by simpa using h) (by omega) (by omega)
        refine ⟨q,?_,?_⟩
        · simp only [bindS,Sum.elim_inl]
          exact h1
        · rw [h2,hz']
          simp [zs]
      · rw [decide_eq_false hz,cond_false]
        refine ⟨x :: r,rfl,?_⟩
        have:¬ x=0:=fun e=>hz (by rw [e])
        simp [zs,this]
theorem Trim_ok (l:List UInt8) (hl:l.length < 100000):∃ r,Zds l [0]=some ((),r,()) ∧ (decide ((0:Int) < (r.length:Int)) = !zs l):=by
  unfold Zds
  by_cases h0:l=[]
  · subst h0
    exact ⟨[],rfl,rfl⟩
  · have hp:0 < l.length:=List.length_pos_iff.2 h0
    rw [decide_eq_false (by omega),cond_false,show decide (([0]:List UInt8)=[])=false from rfl,cond_false,show decide ((([0]:List UInt8).length:Int)=1)=true from rfl,cond_true,show getI ([0]:List UInt8) (0:Int)=some 0 from rfl]
    simp only [bindS]
    rw [show decide ((0:UInt8).toBitVec.toNat < (128:UInt8).toBitVec.toNat)=true from rfl,cond_true]
    obtain ⟨r,t,h1,h2,h3,h4,h5⟩:=trimR l.length l rounds rfl hl (by rw [rounds_eq]; omega)
    have e1:Zaq l 0=some ((),r,()):=by
      unfold Zaq
      have:Zaq_L0 (l,0,())=some (r,()):=h1
      rw [this]
      rfl
    rw [e1]
    simp only [bindS]
    obtain ⟨q,g1,g2⟩:=trimL r.length r rounds rfl (by omega) (by rw [rounds_eq]; omega)
    have e2:Zay r 0=some ((),q,()):=by
      unfold Zay
      have:Zay_L0 (r,0,())=some (q,()):=g1
      rw [this]
      simp only [bindS]
      cases q with
      | nil=>rfl
      | cons x q=>rw [decide_eq_false (by simp only [List.length_cons]; omega),cond_false]
    rw [e2]
    refine ⟨q,rfl,?_⟩
    have hz:zs l=zs r:=by rw [h2,zs_app,h3,Bool.and_true]
    rw [hz]
    cases hq:zs r with
    | true=>
      rw [g2.2 hq]
      rfl
    | false=>
      refine decide_eq_true ?_
      have:q ≠ []:=fun e=>by rw [g2.1 e] at hq; cases hq
      have:=List.length_pos_iff.2 this
      omega
open Classical in
noncomputable def padC (p:List UInt8):Option ApiCredential:=if h:∃ c,valC c=0 ∧ ∃ t,p=bytC c ++ t ∧ zs t=true then some h.choose else none
theorem padC_yes {c:ApiCredential} {p t:List UInt8} (h:valC c=0) (hp:p=bytC c ++ t) (ht:zs t=true):padC p=some c:=by
  have he:∃ c,valC c=0 ∧ ∃ t,p=bytC c ++ t ∧ zs t=true:=⟨c,h,t,hp,ht⟩
  unfold padC
  rw [dif_pos he]
  obtain ⟨h1,t2,h2,_⟩:=he.choose_spec
  exact congrArg some (bytC_inj h1 h (h2.symm.trans hp))
theorem padC_no {p:List UInt8} (h:∀ c t,valC c=0 → p=bytC c ++ t → zs t=false):padC p=none:=by
  unfold padC
  rw [dif_neg]
  rintro ⟨c,h1,t,h2,h3⟩
  rw [h c t h1 h2] at h3
  cases h3
def finO (rp:List UInt8):Option ApiCredential → ApiCredential × Int
  | none=>(zC,2)
  | some c=>bif c.resident then (zC,11) else bif !decide (c.rP=rp) then (zC,11) else (c,0)
noncomputable def unwO (master:BitVec 64) (rp id:List UInt8):ApiCredential × Int:=
  bif !decide ((id.length:Int)=176) then (zC,4) else bif !decide ((openO (wkey master) (bnd rp) id).2=0) then (zC,(openO (wkey master) (bnd rp) id).2) else finO rp (padC (openO (wkey master) (bnd rp) id).1)
theorem openO_len {k:BitVec 64} {bd box:List UInt8} (h:box.length=176) (h0:(openO k bd box).2=0):(openO k bd box).1.length=160:=by
  unfold openO at h0 ⊢
  cases hq:decide (box.drop (box.length - 8)=beb (tagM k (bev 0#64 (box.take 8)) bd ((box.take (box.length - 8)).drop 8)) 8) with
  | false=>rw [hq] at h0; cases h0
  | true=>
    rw [cond_true]
    have hl:((box.take (box.length - 8)).drop 8).length=160:=by rw [List.length_drop,List.length_take]; omega
    have:=(mix_ok k (bev 0#64 (box.take 8)) ((box.take (box.length - 8)).drop 8) (by omega)).2.2
    dsimp only
    omega
theorem cUnwrap_ok (master:BitVec 64) (rp id:List UInt8) (hr:rp.length < 1000000):Zbm master rp id=some ((),(unwO master rp id).1,(unwO master rp id).2,()):=by
  unfold Zbm unwO
  by_cases h:(id.length:Int)=176
  · rw [decide_eq_true h]
    simp only [Bool.not_true,cond_false]
    rw [(wrapKey_ok master).1]
    simp only [bindS]
    rw [bound_ok rp hr]
    simp only [bindS]
    rw [(Open_ok (wkey master) (bnd rp) id (by rw [bnd_len]; omega) (by omega) (by omega)).1]
    simp only [bindS]
    by_cases he:(openO (wkey master) (bnd rp) id).2=0
    · have hl := openO_len (by omega) he
      rw [decide_eq_true he]
      simp only [Bool.not_true,cond_false]
      generalize (openO (wkey master) (bnd rp) id).1=p at hl ⊢
      rw [Decode_ok p (by omega)]
      simp only [bindS]
      by_cases hd:(decO p).2.2=0
      · obtain ⟨hv,t,hpt,hn⟩:=decO_back hd
        have hle:(encA (decO p).1).length ≤ p.length:=by
          have:=congrArg List.length hpt
          rw [List.length_append] at this
          omega
        have hi:∀ c t',valC c=0 → p=bytC c ++ t' → encA (decO p).1=bytC c:=fun c t' hc e=>by rw [e,bytC_dec hc t']; rfl
        rw [decide_eq_true hd]
        simp only [Bool.not_true,cond_false]
        rw [hn,decide_eq_false (by omega),cond_false,decide_eq_false (by omega),cond_false,decide_eq_true (by omega),decide_eq_true (by omega),Bool.and_self,cond_true,show (((encA (decO p).1).length:Nat):Int).toNat=(encA (decO p).1).length by omega,decide_eq_true hle,cond_true]
        have htk':∀ E:List UInt8,p=E ++ t → List.take E.length p=E ∧ List.drop E.length p=t:=fun E h=>by rw [h]; simp
        obtain ⟨htk,hdr'⟩:=htk' _ hpt
        have hdr:List.take (p.length - (encA (decO p).1).length) (List.drop (encA (decO p).1).length p)=t:=by
          rw [List.take_of_length_le (by rw [List.length_drop]; omega)]
          exact hdr'
        rw [htk,cDecode_ok _ (by omega)]
        simp only [bindS]
        by_cases hc:∃ c,valC c=0 ∧ bytC c=encA (decO p).1
        · obtain ⟨c,hc1,hc2⟩:=hc
          rw [decC_yes hc1 hc2]
          simp only [decide_true,Bool.not_true,cond_false]
          rw [decide_eq_true (by omega:(p.length:Int)=160)]
          simp only [Bool.not_true,cond_false,cond_true]
          rw [decide_eq_true (by omega),cond_true,hdr]
          obtain ⟨r,r1,r2⟩:=Trim_ok t (by
            have:=congrArg List.length hpt
            rw [List.length_append] at this
            omega)
          rw [r1]
          simp only [bindS,r2]
          cases hz:zs t with
          | true=>
            rw [padC_yes hc1 (by rw [hc2]; exact hpt) hz]
            simp only [Bool.not_true,cond_false,finO]
            cases c.resident with
            | true=>rfl
            | false=>
              simp only [cond_false]
              cases decide (c.rP=rp) <;> rfl
          | false=>
            simp only [Bool.not_false,cond_true]
            rw [padC_no fun c' t' h1 h2=>by
              have e1:=hi c' t' h1 h2
              have e2:p=encA (decO p).1 ++ t':=by rw [e1]; exact h2
              have:t'=t:=List.append_cancel_left (e2.symm.trans hpt)
              rw [this]; exact hz]
            rfl
        · rw [decC_no fun c h1 h2=>hc ⟨c,h1,h2⟩]
          rw [padC_no fun c' t' h1 h2=>absurd ⟨c',h1,(hi c' t' h1 h2).symm⟩ hc]
          rfl
      · rw [decide_eq_false hd]
        simp only [Bool.not_false,cond_true]
        rw [padC_no fun c' t' h1 h2=>absurd (by rw [h2,bytC_dec h1 t']) hd]
        rfl
    · rw [decide_eq_false he]
      rfl
  · rw [decide_eq_false h]
    rfl
theorem rUnwL (rp p:List UInt8) (c z:ApiCredential) (hp:p.length < 100000):∀ (m i:Nat) (q:Bool) (f:Nat),i + m=p.length → m < f →
    iter (fun (y:((List UInt8) × (ApiCredential × Unit) × (List (UInt8)) × (ApiCredential × Unit) × Bool × Int × Unit))=>Zav_L0b y.1 y.2.1 y.2.2.1 y.2.2.2.1 y.2.2.2.2.1 y.2.2.2.2.2.1) f (rp,(z,()),p,(c,()),q,(i:Int),())=some (rp,(z,()),(c,()),(q && zs (p.drop i)),()):=by
  intro m
  induction m with
  | zero=>
    intro i q f h hf
    obtain ⟨f,rfl⟩:∃ g,f=g + 1:=⟨f - 1,by omega⟩
    rw [iter_succ]
    unfold Zav_L0b
    dsimp only
    rw [decide_eq_false (by omega),cond_false,List.drop_eq_nil_of_le (by omega)]
    simp [zs]
  | succ m ih=>
    intro i q f h hf
    obtain ⟨f,rfl⟩:∃ g,f=g + 1:=⟨f - 1,by omega⟩
    rw [iter_succ]
    unfold Zav_L0b
    dsimp only
    have hlt:i < p.length:=by omega
    have hw:IntKind.wrap .i64 ((i:Int) + 1)=((i + 1:Nat):Int):=by rw [wrap_id (by omega) (by omega)]; omega
    rw [decide_eq_true (by omega:(i:Int) < (p.length:Int)),cond_true,hw]
    rw [List.drop_eq_getElem_cons hlt]
    cases q with
    | true=>
      simp only [cond_true]
      rw [decide_eq_true (by omega:(0:Int) ≤ (i:Int)),Bool.and_self,cond_true,show (i:Int).toNat=i by omega,List.getElem?_eq_getElem hlt]
      simp only [bindS,Sum.elim_inl]
      have:=ih (i + 1) (decide (p[i].toBitVec=(0:UInt8).toBitVec)) f (by omega) (by omega)
      refine this.trans ?_
      have e:decide (p[i].toBitVec=(0:UInt8).toBitVec)=decide (p[i]=0):=by
        rw [decide_eq_decide]; exact UInt8.toBitVec_inj
      rw [e,Bool.true_and]
      rfl
    | false=>
      simp only [cond_false,bindS,Sum.elim_inl]
      refine (ih (i + 1) false f (by omega) (by omega)).trans ?_
      simp
theorem rUnwrap_ok (master:BitVec 64) (rp id:List UInt8) (hr:rp.length < 1000000):Zav master rp id=some ((),(unwO master rp id).1,(unwO master rp id).2,()):=by
  unfold Zav unwO
  by_cases h:(id.length:Int)=176
  · rw [decide_eq_true h]
    simp only [Bool.not_true,cond_false]
    rw [(wrapKey_ok master).2]
    simp only [bindS]
    rw [rRPHash_ok rp hr]
    simp only [bindS]
    rw [rW1]
    simp only [bindS]
    have ho:=(Open_ok (wkey master) (bnd rp) id (by rw [bnd_len]; omega) (by omega) (by omega)).2
    have ho':Zcj (wkey master) (beb (rpH rp) 8) id=_:=ho
    rw [ho']
    simp only [bindS]
    by_cases he:(openO (wkey master) (bnd rp) id).2=0
    · have hl:=openO_len (by omega) he
      rw [decide_eq_true he]
      simp only [Bool.not_true,cond_false]
      generalize (openO (wkey master) (bnd rp) id).1=p at hl ⊢
      obtain ⟨⟨_,c,n,q,_⟩,h1,h2,h3,h4⟩:=rRead_ok p (by omega)
      rw [h1]
      dsimp only at h2 h3 h4
      simp only [bindS]
      obtain ⟨k,rfl⟩:∃ k:Nat,n=(k:Int):=⟨n.toNat,by omega⟩
      have hL:=rUnwL rp p c ⟨[],[],[],0#64,0,false,0,false,false⟩ (by omega) (p.length - k) k q rounds (by omega) (by rw [rounds_eq]; omega)
      have hL':Zav_L0 (rp,((⟨[],[],[],0#64,0,false,0,false,false⟩:ApiCredential),()),p,(c,()),q,(k:Int),())=_:=hL
      rw [hL']
      simp only [bindS]
      rcases h4 with ⟨rfl,hv,t,hpt,hn⟩ | ⟨rfl,hno⟩
      · have hk:k=(bytC c).length:=by omega
        have hd:p.drop k=t:=by rw [hk,hpt]; simp
        rw [hd,Bool.true_and]
        cases hz:zs t with
        | true=>
          rw [padC_yes hv hpt hz]
          simp only [Bool.not_true,cond_false,finO]
          cases c.resident with
          | true=>rfl
          | false=>
            simp only [cond_false]
            cases decide (c.rP=rp) <;> rfl
        | false=>
          rw [padC_no fun c' t' g1 g2=>by
            have e:=bytC_inj g1 hv (g2.symm.trans hpt)
            subst e
            have:t'=t:=List.append_cancel_left (g2.symm.trans hpt)
            rw [this]; exact hz]
          rfl
      · rw [padC_no fun c' t' g1 g2=>absurd g2 (hno c' t' g1)]
        rfl
    · rw [decide_eq_false he]
      rfl
  · rw [decide_eq_false h]
    rfl
theorem unwraps_ok (master:BitVec 64) (rp id:List UInt8) (hr:rp.length < 1000000):Zam master rp id=some ((),true,()):=by
  unfold Zam
  rw [cUnwrap_ok master rp id hr,rUnwrap_ok master rp id hr]
  simp
theorem idO_176 {master no:BitVec 64} {c:ApiCredential} (h:valC c=0):(idO master no c).1.length=176:=by
  unfold idO
  rw [decide_eq_true h,cond_true]
  cases hr:c.resident with
  | true=>
    rw [cond_true]
    have:=(Stream_ok (drv c.seed [105,100] 0) 0#64 176 (by omega)).2.2
    dsimp only
    omega
  | false=>
    rw [cond_false]
    dsimp only
    rw [sealO_len (by rw [plainC_len (valC_zero h)]; omega),plainC_len (valC_zero h)]
theorem CredentialUnwraps_plain (a0 a1:BitVec 64) (a2 a3 a4:Int) (a5:UInt8) (a6:List UInt8) (hd:CredentialUnwraps_dom a0 a1 a2 a3 a4 a5 a6):Ok (Zac a0 a1 a2 a3 a4 a5 a6) fun r=>r.2.1=true:=by
  unfold Zac
  refine Ok.cond (fun _=>awakeC) fun h1=>?_
  obtain ⟨k,hk,e⟩:=mask a2 1048575 (by omega)
  obtain ⟨k3,hk3,e3⟩:=mask a3 1048575 (by omega)
  rw [show ((1048575:Nat):Int)=(1048575:Int) from rfl] at e e3
  obtain ⟨k4,hk4,e4⟩:=mask a4 65535 (by omega)
  rw [show ((65535:Nat):Int)=(65535:Int) from rfl] at e4
  rw [e,e3,e4]
  dsimp only
  refine Ok.bind (Ok.mono (Cred_ok k hk) ?_)
  rintro ⟨_,x,_⟩ hx
  dsimp only at *
  have ho:=valC_zero hx
  rw [(ID_ok a0 a1 x (by have:=ho.rp; omega) (by have:=ho.nm; omega)).2]
  simp only [bindS]
  have hlen:=idO_176 (master:=a0) (no:=a1) hx
  rw [show small _ 1=true from small1 (by omega),cond_true,hlen]
  have ht1:0 ≤ Int.tmod (k4:Int) ((176:Nat):Int):=Int.tmod_nonneg _ (by omega)
  have ht2:Int.tmod (k4:Int) ((176:Nat):Int) < ((176:Nat):Int):=Int.tmod_lt_of_pos _ (by omega)
  rw [show decide (((176:Nat):Int)=0)=false from rfl,cond_false,decide_eq_true ht1,decide_eq_true ht2]
  simp only [Bool.and_self,cond_true]
  refine Ok.get (by omega) fun x6=>Ok.get (by omega) fun x7=>?_
  refine Ok.bind (Ok.mono (Cred_ok k3 hk3) ?_)
  rintro ⟨_,y,_⟩ hy
  dsimp only at *
  have hoy:=valC_zero hy
  have hE:encP y=(bytC y,0):=by unfold encP; rw [hy]; rfl
  rw [rEncodeC_ok y (by have:=hoy.rp; omega) (by have:=hoy.nm; omega),hE]
  simp only [bindS]
  rw [List.length_replicate,decide_eq_true (bytC_len hoy),cond_true]
  have hpl:(bytC y ++ List.drop (bytC y).length (List.replicate 160 (0:UInt8))).length=160:=plainC_len hoy
  generalize bytC y ++ List.drop (bytC y).length (List.replicate 160 (0:UInt8))=pl at hpl ⊢
  have hrx:x.rP.length < 1000000:=by have:=ho.rp; omega
  have fin:∀ (pl2 b:List UInt8),pl2.length=160 → Ok ((Zbf a0 ([119,114,97,112]:List UInt8) (0:Int)).bind fun r20=>((Zau x.rP).bind fun r21=>((passkeyref1_Words ([r21.2.1]:List (BitVec 64))).bind fun r22=>((Zck r20.2.1 a1 r22.2.1 pl2).bind fun r23=>((Zam a0 x.rP (idO a0 a1 x).1).bind fun r24=>(bif r24.2.1 then ((Zam a0 x.rP b).bind fun r25=>(bif r25.2.1 then ((Zam a0 x.rP a6).bind fun r26=>(bif r26.2.1 then ((Zam (a0 + 1#64) x.rP (idO a0 a1 x).1).bind fun r27=>(bif r27.2.1 then ((Zcz a3).bind fun r28=>((Zam a0 r28.2.1 (idO a0 a1 x).1).bind fun r29=>(bif r29.2.1 then ((Zam a0 x.rP r23.2.1).bind fun r30=>(bif r30.2.1 then ((Zbc).bind fun r31=>(some ((),(r31.2.1,()))))
 else (some ((),(false,())))))
 else (some ((),(false,()))))))
 else (some ((),(false,())))))
 else (some ((),(false,())))))
 else (some ((),(false,())))))
 else (some ((),(false,()))))))))) fun (r:Unit × (Bool × Unit))=>r.2.1=true:=by
    intro pl2 b hp2
    rw [rDerive _ _ _ (by simp)]
    simp only [bindS]
    rw [rRPHash_ok _ hrx]
    simp only [bindS]
    rw [rW1]
    simp only [bindS]
    rw [(Seal_ok _ a1 (beb (rpH x.rP) 8) pl2 (by rw [beb_len]; omega) (by omega)).2]
    simp only [bindS]
    obtain ⟨rp,er,_,er2,_⟩:=RP_ok a3
    rw [unwraps_ok _ _ _ hrx,unwraps_ok _ _ _ hrx,unwraps_ok _ _ _ hrx,unwraps_ok _ _ _ hrx,er]
    simp only [bindS,cond_true]
    rw [unwraps_ok _ _ _ (by omega),unwraps_ok _ _ _ hrx]
    simp only [bindS,cond_true]
    exact awakeC
  obtain ⟨k5,hk5,e5⟩:=mask (Int.fdiv a3 (2 ^ (min 20 (IntKind.bits .i64)))) 3 (by omega)
  rw [show ((3:Nat):Int)=(3:Int) from rfl] at e5
  rw [e5]
  refine Ok.bind ?_
  refine Ok.cond (fun _=>?_) fun _=>Ok.some (fin pl _ hpl)
  have ht3:0 ≤ Int.tmod (k4:Int) (160:Int):=Int.tmod_nonneg _ (by omega)
  have ht4:Int.tmod (k4:Int) (160:Int) < (160:Int):=Int.tmod_lt_of_pos _ (by omega)
  rw [decide_eq_true ht3,decide_eq_true ht4]
  simp only [Bool.and_self,cond_true]
  refine Ok.get (by omega) fun x16=>Ok.get (by omega) fun x17=>Ok.some (fin _ _ (by rw [List.length_set]; exact hpl))
end Go.Proofs.YtghfcfjnfgmkgaaGreatDoor

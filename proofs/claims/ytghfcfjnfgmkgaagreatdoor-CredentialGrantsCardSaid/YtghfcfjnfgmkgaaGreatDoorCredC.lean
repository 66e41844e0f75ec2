/- credentials: what both readers compute; the law CredentialDecodes, plainly. No condition. -/
import Derived.Test.YtghfcfjnfgmkgaaGreatDoorCredB
set_option linter.unusedVariables false
set_option linter.unusedSimpArgs false
set_option maxRecDepth 100000
namespace Go.Proofs.YtghfcfjnfgmkgaaGreatDoor
open Go Go.Abs
theorem lkP_mem {key:BitVec 64} {k:Nat} {s t:List ApiItem} {ps:List (ApiItem × List ApiItem)} (h:PairsAt k s t ps):∀ y ∈ (lkP key ps).1,y ∈ s:=by
  induction h with
  | nil=>intro y hy; simp [lkP] at hy
  | @cons k x v r t ps hx hv h0 h ih=>
    intro y hy
    unfold lkP at hy
    cases hq:(decide ((x,v).1.kind=1) && decide ((x,v).1.number=key)) with
    | false=>
      rw [hq,cond_false] at hy
      have:=ih y hy
      simp [this]
    | true=>
      rw [hq,cond_true] at hy
      dsimp only at hy
      simp [hy]
theorem pairs_uniq:∀ (k:Nat) (s t:List ApiItem) (ps ps2:List (ApiItem × List ApiItem)),PairsAt k s t ps → PairsAt k s t ps2 → ps=ps2:=by
  intro k s t ps ps2 h
  induction h generalizing ps2 with
  | nil=>intro h2; cases h2; rfl
  | @cons k x v r t ps hx hv h0 h ih=>
    intro h2
    generalize hs:x :: (v ++ r)=s at h2
    cases h2 with
    | @cons _ x' v' r' _ ps' hx' hv' h0' h'=>
    obtain ⟨rfl,e2⟩:=List.cons.inj hs
    have e3:=hv 0
    have e4:=hv' 0
    rw [skp_zero] at e3 e4
    rw [e2] at e3
    rw [e3] at e4
    have e5:v.length=v'.length:=by simpa using e4
    obtain ⟨rfl,rfl⟩:=List.append_inj e2 e5
    rw [ih _ h']
theorem Lookup_ok (l:List ApiItem) (key:BitVec 64) (hl:l.length < 1000000) (hd:∀ x ∈ l,x.data.length < 100000):∃ v b,Zdd l key=some ((),v,b,()) ∧ (∀ y ∈ v,y ∈ l) ∧ (∀ (x:ApiItem) (r:List ApiItem),l=x :: r → x.kind=6 → valO l=0 → ∀ ps,PairsAt x.number.toNat r [] ps → (v,b)=lkP key ps):=by
  unfold Zdd
  rw [Validate_ok l hl hd]
  simp only [bindS]
  by_cases hv:valO l=0
  · rw [show decide (valO l=0)=true from decide_eq_true hv]
    simp only [Bool.not_true,cond_false]
    cases hl0:l with
    | nil=>exact absurd hl0 (valO_ne hv)
    | cons x r=>
      have eg0:getI (x :: r) (0:Int)=some x:=rfl
      rw [eg0]
      simp only [bindS]
      by_cases h6:x.kind=6
      · rw [show decide (x.kind=6)=true from decide_eq_true h6]
        simp only [Bool.not_true,cond_false]
        rw [hl0] at hv hl
        obtain ⟨hn,ps,hp⟩:=valO_map hv h6
        have hle:1 ≤ (x :: r).length:=by simp
        obtain ⟨z,z1,z2⟩:=LookL_ok (x :: r) hl key x.number hn x.number.toNat 0 1 rounds r ps hp (by omega) rfl hle (by rw [rounds_eq]; omega)
        have z1':Zdd_L0 (x :: r,key,1,x.number,0#64,())=some z:=z1
        rw [z1']
        simp only [bindS]
        refine ⟨(lkP key ps).1,(lkP key ps).2,z2,fun y hy=>List.mem_cons_of_mem _ (lkP_mem hp y hy),?_⟩
        intro x2 r2 e _ _ ps2 hp2
        cases e
        rw [pairs_uniq _ _ _ _ _ hp hp2]
      · rw [show decide (x.kind=6)=false from decide_eq_false h6]
        refine ⟨[],false,rfl,by simp,?_⟩
        intro x2 r2 e h62
        cases e
        exact absurd h62 h6
  · rw [show decide (valO l=0)=false from decide_eq_false hv]
    exact ⟨[],false,rfl,by simp,fun x r e h6 hv2=>absurd hv2 hv⟩
theorem field_ok (l:List ApiItem) (key:BitVec 64) (hl:l.length < 1000000) (hd:∀ x ∈ l,x.data.length < 100000):∃ x,Zcb l key=some ((),x,()) ∧ x.data.length < 100000:=by
  obtain ⟨v,b,h1,h2,_⟩:=Lookup_ok l key hl hd
  unfold Zcb
  rw [h1]
  simp only [bindS]
  cases b with
  | false=>exact ⟨_,rfl,by decide⟩
  | true=>
    simp only [Bool.not_true,cond_false]
    cases v with
    | nil=>exact ⟨_,rfl,by decide⟩
    | cons x r=>
      rw [show decide (((x :: r).length:Int)=0)=false from decide_eq_false (by simp only [List.length_cons]; omega),cond_false,show decide ((0:Int) < ((x :: r).length:Int))=true from decide_eq_true (by simp only [List.length_cons]; omega),cond_true]
      exact ⟨x,rfl,hd x (h2 x (by simp))⟩
theorem nd_range:nd keysC (List.range 9):=by
  unfold nd
  decide +kernel
theorem cfield_ok {c:ApiCredential} (h:OkC c) (i:Nat) (hi:i < 9) {x:ApiItem} (hx:(valsC c).getD i []=[x]):Zcb (itemsC c) (keysC.getD i 0#64)=some ((),x,()):=by
  obtain ⟨v,b,h1,h2,h3⟩:=Lookup_ok (itemsC c) (keysC.getD i 0#64) (by simp [itemsC]) (items_data h)
  have hp:=pairs_prO (keys:=keysC) (fau_vals h) (List.range 9) (fun j hj=>List.mem_range.1 hj)
  have h4:=h3 _ _ (items_eq c).symm rfl (valO_items h) _ hp
  rw [lkP_find i (List.range 9) nd_range (List.mem_range.2 hi),hx] at h4
  cases h4
  unfold Zcb
  rw [h1]
  rfl
def reb (a1 a2 a3:List UInt8) (a4 a5 a6 a7 a8 a9:BitVec 64):ApiCredential:=⟨a1,a2,a3,a4,(a5.toNat:Int),decide (a6=1#64),(a7.toNat:Int),decide (a8=1#64),decide (a9=1#64)⟩
theorem toNat_small {n:Int} (h1:1 ≤ n) (h2:n ≤ 4):((BitVec.ofInt 64 n).toNat:Int)=n:=by
  have:n=1 ∨ n=2 ∨ n=3 ∨ n=4:=by omega
  rcases this with rfl | rfl | rfl | rfl <;> rfl
theorem bI_dec (b:Bool):decide ((bI b).number=1#64)=b:=by cases b <;> rfl
theorem reb_eq {c:ApiCredential} (h:OkC c):reb c.rP c.user c.name c.seed (BitVec.ofInt 64 c.height) (bI c.resident).number (BitVec.ofInt 64 c.protect) (bI c.shared).number (bI c.backed).number=c:=by
  unfold reb
  rw [toNat_small h.ht1 h.ht,toNat_small h.pr1 (by have:=h.pr; omega),bI_dec,bI_dec,bI_dec]
theorem bytC_dec {c:ApiCredential} (h:valC c=0) (t:List UInt8):decO (bytC c ++ t)=(itemsC c,((bytC c).length:Int),0):=decO_enc (valO_items (valC_zero h)) t
theorem items_inj {c d:ApiCredential} (hc:OkC c) (hd:OkC d) (h:itemsC c=itemsC d):c=d:=by
  have e:=fun i=>congrArg (fun l:List ApiItem=>(l.getD i default)) h
  have e2:=e 2
  have e4:=e 4
  have e6:=e 6
  have e8:=e 8
  have e10:=e 10
  have e12:=e 12
  have e14:=e 14
  have e16:=e 16
  have e18:=e 18
  have d2:c.rP=d.rP:=congrArg ApiItem.data e2
  have d4:c.user=d.user:=congrArg ApiItem.data e4
  have d6:c.name=d.name:=congrArg ApiItem.data e6
  have d8:c.seed=d.seed:=congrArg ApiItem.number e8
  have d10:BitVec.ofInt 64 c.height=BitVec.ofInt 64 d.height:=congrArg ApiItem.number e10
  have d12:(bI c.resident).number=(bI d.resident).number:=congrArg ApiItem.number e12
  have d14:BitVec.ofInt 64 c.protect=BitVec.ofInt 64 d.protect:=congrArg ApiItem.number e14
  have d16:(bI c.shared).number=(bI d.shared).number:=congrArg ApiItem.number e16
  have d18:(bI c.backed).number=(bI d.backed).number:=congrArg ApiItem.number e18
  rw [← reb_eq hc,← reb_eq hd,d2,d4,d6,d8,d10,d12,d14,d16,d18]
theorem bytC_inj {c d:ApiCredential} (hc:valC c=0) (hd:valC d=0) {s t:List UInt8} (h:bytC c ++ s=bytC d ++ t):c=d:=by
  have h1:=bytC_dec hc s
  rw [h,bytC_dec hd t] at h1
  exact items_inj (valC_zero hc) (valC_zero hd) (congrArg Prod.fst h1).symm
def zC:ApiCredential:=⟨[],[],[],0#64,0,false,0,false,false⟩
open Classical in
noncomputable def decC (b:List UInt8):ApiCredential × Int:=if h:∃ c,valC c=0 ∧ bytC c=b then (h.choose,0) else (zC,2)
theorem decC_yes {c:ApiCredential} {b:List UInt8} (h:valC c=0) (hb:bytC c=b):decC b=(c,0):=by
  have he:∃ c,valC c=0 ∧ bytC c=b:=⟨c,h,hb⟩
  unfold decC
  rw [dif_pos he]
  have:=he.choose_spec
  have e:=bytC_inj (s:=[]) (t:=[]) this.1 h (by rw [this.2,hb])
  rw [e]
theorem decC_no {b:List UInt8} (h:∀ c,valC c=0 → bytC c ≠ b):decC b=(zC,2):=by
  unfold decC
  rw [dif_neg]
  rintro ⟨c,h1,h2⟩
  exact h c h1 h2
theorem read_items {b:List UInt8} (h:(decO b).2.2=0):(decO b).1.length < 1000000 ∧ ∀ x ∈ (decO b).1,x.data.length < 100000:=by
  have hv:=(decO_back h).1
  refine ⟨?_,fun x hx=>?_⟩
  · rcases Nat.lt_or_ge 512 (decO b).1.length with q | q
    · exact absurd hv (valO_big q)
    · omega
  · have:=((valO_zero hv).2 x hx).2
    omega
theorem cDecode_ok (b:List UInt8) (hb:b.length < 1000000):Zbl b=some ((),(decC b).1,(decC b).2,()):=by
  unfold Zbl
  rw [Decode_ok b hb]
  simp only [bindS]
  by_cases he:(decO b).2.2=0
  · rw [decide_eq_true he]
    simp only [Bool.not_true,cond_false]
    obtain ⟨hl,hd⟩:=read_items he
    obtain ⟨x1,f1,g1⟩:=field_ok (decO b).1 1#64 hl hd
    obtain ⟨x2,f2,g2⟩:=field_ok (decO b).1 2#64 hl hd
    obtain ⟨x3,f3,g3⟩:=field_ok (decO b).1 3#64 hl hd
    obtain ⟨x4,f4,g4⟩:=field_ok (decO b).1 4#64 hl hd
    obtain ⟨x5,f5,g5⟩:=field_ok (decO b).1 5#64 hl hd
    obtain ⟨x6,f6,g6⟩:=field_ok (decO b).1 6#64 hl hd
    obtain ⟨x7,f7,g7⟩:=field_ok (decO b).1 7#64 hl hd
    obtain ⟨x8,f8,g8⟩:=field_ok (decO b).1 8#64 hl hd
    obtain ⟨x9,f9,g9⟩:=field_ok (decO b).1 9#64 hl hd
    rw [f1,f2,f3,f4,f5,f6,f7,f8,f9]
    simp only [bindS]
    have fix:∀ c,valC c=0 → bytC c=b → (⟨x1.data,x2.data,x3.data,x4.number,IntKind.wrap .i64 (x5.number.toNat:Int),decide (x6.number=1#64),IntKind.wrap .i64 (x7.number.toNat:Int),decide (x8.number=1#64),decide (x9.number=1#64)⟩:ApiCredential)=c:=by
      intro c hc hbc
      have ho:=valC_zero hc
      have e:=bytC_dec hc []
      rw [List.append_nil,hbc] at e
      rw [e] at f1 f2 f3 f4 f5 f6 f7 f8 f9
      have q1:=cfield_ok ho 0 (by omega) (x:=⟨4,0#64,c.rP⟩) rfl
      have q2:=cfield_ok ho 1 (by omega) (x:=⟨3,0#64,c.user⟩) rfl
      have q3:=cfield_ok ho 2 (by omega) (x:=⟨4,0#64,c.name⟩) rfl
      have q4:=cfield_ok ho 3 (by omega) (x:=⟨1,c.seed,[]⟩) rfl
      have q5:=cfield_ok ho 4 (by omega) (x:=⟨1,BitVec.ofInt 64 c.height,[]⟩) rfl
      have q6:=cfield_ok ho 5 (by omega) (x:=bI c.resident) rfl
      have q7:=cfield_ok ho 6 (by omega) (x:=⟨1,BitVec.ofInt 64 c.protect,[]⟩) rfl
      have q8:=cfield_ok ho 7 (by omega) (x:=bI c.shared) rfl
      have q9:=cfield_ok ho 8 (by omega) (x:=bI c.backed) rfl
      dsimp only at f1 f2 f3 f4 f5 f6 f7 f8 f9
      have r1:=(f1.symm.trans q1); have r2:=(f2.symm.trans q2); have r3:=(f3.symm.trans q3)
      have r4:=(f4.symm.trans q4); have r5:=(f5.symm.trans q5); have r6:=(f6.symm.trans q6)
      have r7:=(f7.symm.trans q7); have r8:=(f8.symm.trans q8); have r9:=(f9.symm.trans q9)
      simp only [Option.some.injEq,Prod.mk.injEq,true_and,and_true] at r1 r2 r3 r4 r5 r6 r7 r8 r9
      subst r1; subst r2; subst r3; subst r4; subst r5; subst r6; subst r7; subst r8; subst r9
      have w1:IntKind.wrap .i64 (((BitVec.ofInt 64 c.height).toNat:Nat):Int)=(((BitVec.ofInt 64 c.height).toNat:Nat):Int):=by
        rw [toNat_small ho.ht1 ho.ht]; exact wrap_id (by have:=ho.ht1; omega) (by have:=ho.ht; omega)
      have w2:IntKind.wrap .i64 (((BitVec.ofInt 64 c.protect).toNat:Nat):Int)=(((BitVec.ofInt 64 c.protect).toNat:Nat):Int):=by
        rw [toNat_small ho.pr1 (by have:=ho.pr; omega)]; exact wrap_id (by have:=ho.pr1; omega) (by have:=ho.pr; omega)
      dsimp only
      rw [w1,w2]
      exact reb_eq ho
    have E:=cEncode_ok (⟨x1.data,x2.data,x3.data,x4.number,IntKind.wrap .i64 (x5.number.toNat:Int),decide (x6.number=1#64),IntKind.wrap .i64 (x7.number.toNat:Int),decide (x8.number=1#64),decide (x9.number=1#64)⟩:ApiCredential) (by dsimp only; omega) (by dsimp only; omega)
    rw [E]
    clear E
    generalize (⟨x1.data,x2.data,x3.data,x4.number,IntKind.wrap .i64 (x5.number.toNat:Int),decide (x6.number=1#64),IntKind.wrap .i64 (x7.number.toNat:Int),decide (x8.number=1#64),decide (x9.number=1#64)⟩:ApiCredential)=c' at fix ⊢
    simp only [bindS]
    unfold encP
    by_cases hv:valC c'=0
    · rw [decide_eq_true hv]
      simp only [cond_true,decide_true,Bool.not_true,cond_false,Zda,bindS]
      by_cases hb2:bytC c'=b
      · rw [decide_eq_true hb2,decC_yes hv hb2]
        rfl
      · rw [decide_eq_false hb2,decC_no fun c hc hbc=>by
          have:=fix c hc hbc
          rw [this] at hb2
          exact hb2 hbc]
        rfl
    · rw [decide_eq_false hv]
      simp only [cond_false]
      rw [decide_eq_false hv,decC_no fun c hc hbc=>by
        have:=fix c hc hbc
        rw [this] at hv
        exact hv hc]
      rfl
  · rw [decide_eq_false he]
    simp only [Bool.not_false,cond_true]
    rw [decC_no fun c hc hbc=>he (by rw [← hbc,← List.append_nil (bytC c),bytC_dec hc []])]
    rfl
theorem small_ok (n:BitVec 64):Zbg n=some ((),(((bif decide ((1048576#64).toNat < n.toNat) then 1048576#64 else n):BitVec 64).toNat:Int),()):=by
  unfold Zbg
  dsimp only
  have h:((bif decide ((1048576#64).toNat < n.toNat) then 1048576#64 else n):BitVec 64).toNat ≤ 1048576:=by
    by_cases q:(1048576#64).toNat < n.toNat
    · rw [decide_eq_true q,cond_true]; decide
    · rw [decide_eq_false q,cond_false]
      have:(1048576#64).toNat=1048576:=rfl
      omega
  rw [wrap_id (by omega) (by omega)]
theorem small_id {n:Int} (h1:1 ≤ n) (h2:n ≤ 4):(((bif decide ((1048576#64).toNat < (BitVec.ofInt 64 n).toNat) then 1048576#64 else BitVec.ofInt 64 n):BitVec 64).toNat:Int)=n:=by
  have:n=1 ∨ n=2 ∨ n=3 ∨ n=4:=by omega
  rcases this with rfl | rfl | rfl | rfl <;> rfl
def RdC (b:List UInt8) (r:Unit × (ApiCredential × Int × Bool × Unit)):Prop:=0 ≤ r.2.2.1 ∧ r.2.2.1 ≤ (b.length:Int) ∧
  ((r.2.2.2.1=true ∧ valC r.2.1=0 ∧ ∃ t,b=bytC r.2.1 ++ t ∧ r.2.2.1=((bytC r.2.1).length:Int)) ∨ (r.2.2.2.1=false ∧ ∀ c t,valC c=0 → b ≠ bytC c ++ t))
theorem rRead_ok (b:List UInt8) (hb:b.length < 1000000):Ok (Zbq b) (RdC b):=by
  unfold Zbq
  rw [rDecode_ok b hb]
  simp only [bindS]
  by_cases he:(decO b).2.2=0
  · rw [decide_eq_true he]
    simp only [Bool.not_true,cond_false]
    obtain ⟨hv,t,hbt,hn⟩:=decO_back he
    have hi:∀ c t,valC c=0 → b=bytC c ++ t → (decO b).1=itemsC c:=fun c t hc e=>by rw [e,bytC_dec hc t]
    have hle:(encA (decO b).1).length ≤ b.length:=by
      have:=congrArg List.length hbt
      rw [List.length_append] at this
      omega
    refine Ok.cond (fun h19=>?_) (fun h19=>?_)
    · refine Ok.some ⟨by dsimp only; omega,by dsimp only; omega,.inr ⟨rfl,fun c t hc e=>?_⟩⟩
      rw [hi c t hc e] at h19
      simp [itemsC] at h19
    · simp only [Bool.not_eq_false',decide_eq_true_eq] at h19
      obtain ⟨hl,hd⟩:=read_items he
      generalize hL:(decO b).1=l at *
      have hlen:l.length=19:=by omega
      have g:∀ i,i < 19 → ∃ x,l[i]? = some x ∧ x ∈ l ∧ x=l.getD i default:=fun i h=>⟨l[i],List.getElem?_eq_getElem (by omega),List.getElem_mem (by omega),by rw [List.getD_eq_getElem?_getD,List.getElem?_eq_getElem (by omega)]; rfl⟩
      obtain ⟨x2,f2,m2,d2⟩:=g 2 (by omega)
      obtain ⟨x4,f4,m4,d4⟩:=g 4 (by omega)
      obtain ⟨x6,f6,m6,d6⟩:=g 6 (by omega)
      obtain ⟨x8,f8,m8,d8⟩:=g 8 (by omega)
      obtain ⟨x10,f10,m10,d10⟩:=g 10 (by omega)
      obtain ⟨x12,f12,m12,d12⟩:=g 12 (by omega)
      obtain ⟨x14,f14,m14,d14⟩:=g 14 (by omega)
      obtain ⟨x16,f16,m16,d16⟩:=g 16 (by omega)
      obtain ⟨x18,f18,m18,d18⟩:=g 18 (by omega)
      rw [f2,f4,f6,f8,f10,f12,f14,f16,f18,h19]
      simp only [bindS,small_ok,Int.reduceLT,decide_true,cond_true]
      have E:=rEncodeC_ok (⟨x2.data,x4.data,x6.data,x8.number,(((bif decide ((1048576#64).toNat < x10.number.toNat) then 1048576#64 else x10.number):BitVec 64).toNat:Int),decide (x12.number=1#64),(((bif decide ((1048576#64).toNat < x14.number.toNat) then 1048576#64 else x14.number):BitVec 64).toNat:Int),decide (x16.number=1#64),decide (x18.number=1#64)⟩:ApiCredential) (by have:=hd _ m2; dsimp only; omega) (by have:=hd _ m6; dsimp only; omega)
      rw [E]
      clear E
      simp only [bindS]
      have fix:∀ c t,valC c=0 → b=bytC c ++ t → (⟨x2.data,x4.data,x6.data,x8.number,(((bif decide ((1048576#64).toNat < x10.number.toNat) then 1048576#64 else x10.number):BitVec 64).toNat:Int),decide (x12.number=1#64),(((bif decide ((1048576#64).toNat < x14.number.toNat) then 1048576#64 else x14.number):BitVec 64).toNat:Int),decide (x16.number=1#64),decide (x18.number=1#64)⟩:ApiCredential)=c:=by
        intro c t hc e
        have ho:=valC_zero hc
        have hit:=hi c t hc e
        rw [hit] at d2 d4 d6 d8 d10 d12 d14 d16 d18
        have r2:x2=⟨4,0#64,c.rP⟩:=d2
        have r4:x4=⟨3,0#64,c.user⟩:=d4
        have r6:x6=⟨4,0#64,c.name⟩:=d6
        have r8:x8=⟨1,c.seed,[]⟩:=d8
        have r10:x10=⟨1,BitVec.ofInt 64 c.height,[]⟩:=d10
        have r12:x12=bI c.resident:=d12
        have r14:x14=⟨1,BitVec.ofInt 64 c.protect,[]⟩:=d14
        have r16:x16=bI c.shared:=d16
        have r18:x18=bI c.backed:=d18
        rw [r2,r4,r6,r8,r10,r12,r14,r16,r18]
        dsimp only
        rw [small_id ho.ht1 ho.ht,small_id ho.pr1 (by have:=ho.pr; omega),bI_dec,bI_dec,bI_dec]
      generalize (⟨x2.data,x4.data,x6.data,x8.number,(((bif decide ((1048576#64).toNat < x10.number.toNat) then 1048576#64 else x10.number):BitVec 64).toNat:Int),decide (x12.number=1#64),(((bif decide ((1048576#64).toNat < x14.number.toNat) then 1048576#64 else x14.number):BitVec 64).toNat:Int),decide (x16.number=1#64),decide (x18.number=1#64)⟩:ApiCredential)=c' at fix ⊢
      rw [hn]
      unfold encP
      by_cases hv':valC c'=0
      · rw [decide_eq_true hv']
        simp only [cond_true,decide_true]
        rw [show (decide ((0:Int) ≤ ((encA l).length:Int)) && decide (((encA l).length:Int) ≤ (b.length:Int)))=true by simp; omega,cond_true]
        refine Ok.some ⟨by dsimp only; omega,by dsimp only; omega,?_⟩
        dsimp only
        have htk:List.take ((encA l).length:Int).toNat b=encA l:=by
          rw [hbt]; simp
        rw [htk]
        by_cases hq:bytC c'=encA l
        · exact .inl ⟨decide_eq_true hq,hv',t,by rw [hq]; exact hbt,by rw [hq]⟩
        · refine .inr ⟨decide_eq_false hq,fun c t' hc e=>hq ?_⟩
          rw [fix c t' hc e,hi c t' hc e]
          rfl
      · rw [decide_eq_false hv']
        simp only [cond_false]
        rw [decide_eq_false hv',cond_false]
        refine Ok.some ⟨by dsimp only; omega,by dsimp only; omega,.inr ⟨rfl,fun c t' hc e=>hv' ?_⟩⟩
        rw [fix c t' hc e]
        exact hc
  · rw [decide_eq_false he]
    simp only [Bool.not_false,cond_true]
    refine Ok.some ⟨by dsimp only; omega,by dsimp only; omega,.inr ⟨rfl,fun c t hc e=>he ?_⟩⟩
    rw [e,bytC_dec hc t]
theorem rDecodeC_ok (b:List UInt8) (hb:b.length < 1000000):Zad b=some ((),(decC b).1,(decC b).2,()):=by
  unfold Zad
  obtain ⟨⟨_,c,n,q,_⟩,h1,h2,h3,h4⟩:=rRead_ok b hb
  rw [h1]
  dsimp only at h2 h3 h4
  simp only [bindS]
  rcases h4 with ⟨rfl,hv,t,hbt,hn⟩ | ⟨rfl,hno⟩
  · simp only [Bool.not_true,cond_false]
    by_cases he:n=(b.length:Int)
    · rw [decide_eq_true he]
      have ht:t=[]:=by
        have:=congrArg List.length hbt
        rw [List.length_append] at this
        exact List.length_eq_zero_iff.1 (by omega)
      rw [ht,List.append_nil] at hbt
      rw [decC_yes hv hbt.symm]
      rfl
    · rw [decide_eq_false he,decC_no fun d hd hdb=>he (by
        have e:=bytC_inj (s:=[]) (t:=t) hd hv (by rw [List.append_nil,hdb]; exact hbt)
        rw [hn,← e,hdb])]
      rfl
  · simp only [Bool.not_false,cond_true]
    rw [decC_no fun d hd hdb=>hno d [] hd (by rw [List.append_nil,hdb])]
    rfl
end Go.Proofs.YtghfcfjnfgmkgaaGreatDoor

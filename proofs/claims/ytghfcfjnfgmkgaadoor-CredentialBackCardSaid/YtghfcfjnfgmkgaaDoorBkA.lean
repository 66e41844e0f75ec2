/- Out of the texts of the other seat of this chapter: what the law CredentialBack needs. Written by a program. -/
import Derived.Test.YtghfcfjnfgmkgaaDoorFns
import Derived.Test.YtghfcfjnfgmkgaaDoorLib8
set_option linter.unusedVariables false
set_option linter.unusedSimpArgs false
set_option maxRecDepth 100000
namespace Go.Proofs.YtghfcfjnfgmkgaaDoor
open Go Go.Abs
theorem small1 {n:Nat} (h:n < 1000000000):small n 1=true:=by
  unfold small; simp; omega
theorem small40 {n:Nat} (h:n < 1000000):small n 40=true:=by
  unfold small; simp; omega
theorem small32 {n:Nat} (h:n < 1000000):small n 32=true:=by
  unfold small; simp; omega
theorem ble_of {a b:Nat} (h:a ≤ b):Nat.ble a b=true:=Eq.mpr Nat.ble_eq h
def byt (n:BitVec 64):UInt8:=UInt8.ofBitVec (BitVec.setWidth 8 n)
def beb (n:BitVec 64):Nat → List UInt8
  | 0=>[]
  | k + 1=>byt (n >>> (8 * k)) :: beb n k
def hdr (m:UInt8) (n:BitVec 64):List UInt8:=
  bif decide (n.toNat < 24) then [m + byt n] else bif decide (n.toNat < 256) then (m + 24) :: beb n 1 else bif decide (n.toNat < 65536) then (m + 25) :: beb n 2 else bif decide (n.toNat < 4294967296) then (m + 26) :: beb n 4 else (m + 27) :: beb n 8
def mj (k:Int):UInt8:=bif decide (k=2) then 32 else bif decide (k=3) then 64 else bif decide (k=4) then 96 else bif decide (k=5) then 128 else bif decide (k=6) then 160 else 0
def isD (k:Int):Bool:=decide (k=3) || decide (k=4)
def isN (k:Int):Bool:=decide (k=5) || decide (k=6)
def num (x:ApiItem):BitVec 64:=bif isD x.kind then BitVec.ofInt 64 (x.data.length:Int) else x.number
def hdI (x:ApiItem):List UInt8:=bif decide (x.kind=7) then [244 + byt x.number] else bif decide (x.kind=8) then [246] else hdr (mj x.kind) (num x)
def enc (x:ApiItem):List UInt8:=hdI x ++ x.data
theorem beb_len (n:BitVec 64):∀ k,(beb n k).length=k
  | 0=>rfl
  | k + 1=>by simp [beb,beb_len n k]
theorem hdr_len (m:UInt8) (n:BitVec 64):1 ≤ (hdr m n).length ∧ (hdr m n).length ≤ 9:=by
  unfold hdr
  cases decide (n.toNat < 24) <;> cases decide (n.toNat < 256) <;> cases decide (n.toNat < 65536) <;> cases decide (n.toNat < 4294967296) <;> simp [beb_len]
theorem hdI_len (x:ApiItem):1 ≤ (hdI x).length ∧ (hdI x).length ≤ 9:=by
  unfold hdI
  have:=hdr_len (mj x.kind) (num x)
  cases decide (x.kind=7) <;> cases decide (x.kind=8) <;> simp <;> omega
theorem enc_ne (x:ApiItem):enc x ≠ []:=by
  have h1:=(hdI_len x).1
  intro h
  have h2:=congrArg List.length h
  unfold enc at h2
  rw [List.length_append,List.length_nil] at h2
  omega
theorem headL_ok (out:List UInt8) (n:BitVec 64) (k:Nat) (hk:k ≤ 8) (ho:out.length < 100000000):Zbh_L1 (out,n,(k:Int) - 1,())=some (out ++ beb n k,()):=by
  unfold Zbh_L1
  rw [iter_fun (fun q=>q.2.1=n ∧ -1 ≤ q.2.2.1 ∧ q.2.2.1 ≤ 7 ∧ (q.1.length:Int) + q.2.2.1 ≤ 200000000) (fun q=>(q.2.2.1 + 1).toNat) (fun q=>(q.1 ++ beb q.2.1 (q.2.2.1 + 1).toNat,()))]
  · rw [show ((k:Int) - 1 + 1).toNat=k by omega]
  · rintro ⟨o,m,i,u⟩ ⟨h1,h2,h3,h4⟩
    dsimp only at *
    subst h1
    simp only [Zbh_L1b]
    by_cases hi:0 ≤ i
    · left
      obtain ⟨j,rfl⟩:∃ j:Nat,i=(j:Int):=⟨i.toNat,by omega⟩
      rw [wrap_id (n:=8 * (j:Int)) (by omega) (by omega),wrap_id (n:=(j:Int) - 1) (by omega) (by omega),show decide ((0:Int) ≤ (j:Int))=true by simp,show decide ((0:Int) ≤ 8 * (j:Int))=true by simp; omega,small1 (by simp; omega)]
      refine ⟨_,rfl,⟨rfl,by dsimp only; omega,by dsimp only; omega,by dsimp only; simp; omega⟩,by dsimp only; omega,?_⟩
      dsimp only
      rw [show ((j:Int) + 1).toNat=j + 1 by omega,show ((j:Int) - 1 + 1).toNat=j by omega,show (8 * (j:Int)).toNat=8 * j by omega]
      simp [beb,byt]
    · right
      rw [show decide ((0:Int) ≤ i)=false by simpa using hi,show (i + 1).toNat=0 by omega]
      simp [beb]
  · exact ⟨rfl,by dsimp only; omega,by dsimp only; omega,by dsimp only; omega⟩
  · rw [rounds_eq]; dsimp only; omega
theorem appendHead_ok (out:List UInt8) (m:UInt8) (n:BitVec 64) (ho:out.length < 10000000):Zbh out m n=some ((),out ++ hdr (UInt8.ofBitVec (m.toBitVec <<< 5)) n,()):=by
  unfold Zbh hdr
  have e24:(24#64).toNat=24:=rfl
  have e256:(256#64).toNat=256:=rfl
  have e16:(65536#64).toNat=65536:=rfl
  have e32:(4294967296#64).toNat=4294967296:=rfl
  rw [e24,e256,e16,e32]
  generalize UInt8.ofBitVec (m.toBitVec <<< 5)=f
  by_cases h1:n.toNat < 24
  · simp only [h1,decide_true,cond_true]
    rw [small1 (by simp; omega)]
    rfl
  · by_cases h2:n.toNat < 256
    · simp only [h1,h2,decide_true,decide_false,cond_true,cond_false,bindS,Sum.elim_inl]
      rw [small1 (by simp; omega),wrap_id (n:=(1:Int) - 1) (by omega) (by omega),show (1:Int) - 1=((1:Nat):Int) - 1 from rfl,headL_ok _ _ 1 (by omega) (by simp; omega)]
      simp only [cond_true,bindS,List.append_assoc]
      rfl
    · by_cases h3:n.toNat < 65536
      · simp only [h1,h2,h3,decide_true,decide_false,cond_true,cond_false,bindS,Sum.elim_inl]
        rw [small1 (by simp; omega),wrap_id (n:=(2:Int) - 1) (by omega) (by omega),show (2:Int) - 1=((2:Nat):Int) - 1 from rfl,headL_ok _ _ 2 (by omega) (by simp; omega)]
        simp only [cond_true,bindS,List.append_assoc]
        rfl
      · by_cases h4:n.toNat < 4294967296
        · simp only [h1,h2,h3,h4,decide_true,decide_false,cond_true,cond_false,bindS,Sum.elim_inl]
          rw [small1 (by simp; omega),wrap_id (n:=(4:Int) - 1) (by omega) (by omega),show (4:Int) - 1=((4:Nat):Int) - 1 from rfl,headL_ok _ _ 4 (by omega) (by simp; omega)]
          simp only [cond_true,bindS,List.append_assoc]
          rfl
        · simp only [h1,h2,h3,h4,decide_true,decide_false,cond_true,cond_false,bindS,Sum.elim_inl]
          rw [small1 (by simp; omega),wrap_id (n:=(8:Int) - 1) (by omega) (by omega),show (8:Int) - 1=((8:Nat):Int) - 1 from rfl,headL_ok _ _ 8 (by omega) (by simp; omega)]
          simp only [cond_true,bindS,List.append_assoc]
          rfl
def kin (x:ApiItem):Prop:=1 ≤ x.kind ∧ x.kind ≤ 8 ∧ (isD x.kind=false → x.data=[])
theorem appendItem_ok (out:List UInt8) (x:ApiItem) (hk:kin x) (ho:out.length < 1000000) (hx:x.data.length < 1000000):Zbi out x=some ((),out ++ enc x,()):=by
  obtain ⟨k,n,d⟩:=x
  obtain ⟨h1,h2,h3⟩:=hk
  dsimp only at h1 h2 h3 hx
  unfold Zbi enc hdI num
  dsimp only
  have hl:=fun m n=>(hdr_len m n).2
  have hk:k=1 ∨ k=2 ∨ k=3 ∨ k=4 ∨ k=5 ∨ k=6 ∨ k=7 ∨ k=8:=by omega
  rcases hk with rfl | rfl | rfl | rfl | rfl | rfl | rfl | rfl
  · rw [h3 rfl,List.append_nil]
    exact (congrArg (fun q=>Option.bind q fun r9=>some ((),(r9.2.1,()))) (appendHead_ok out 0 n (by omega))).trans rfl
  · rw [h3 rfl,List.append_nil]
    exact (congrArg (fun q=>Option.bind q fun r9=>some ((),(r9.2.1,()))) (appendHead_ok out 1 n (by omega))).trans rfl
  · have:=appendHead_ok out 2 (BitVec.ofInt 64 (d.length:Int)) (by omega)
    have hs:=small1 (n:=(out ++ hdr 64 (BitVec.ofInt 64 (d.length:Int))).length + d.length) (by have:=hl 64 (BitVec.ofInt 64 (d.length:Int)); rw [List.length_append]; omega)
    have e:(UInt8.ofBitVec ((2:UInt8).toBitVec <<< 5))=64:=by decide
    rw [e] at this
    show ((Zbh out 2 (BitVec.ofInt 64 (d.length:Int))).bind fun r3=>(bif small ((r3.2.1).length + (d:List (UInt8)).length) 1 then (some ((),((r3.2.1 ++ d),()))) else none))=_
    rw [this]
    simp only [bindS]
    rw [hs]
    simp only [cond_true,List.append_assoc]
    rfl
  · have:=appendHead_ok out 3 (BitVec.ofInt 64 (d.length:Int)) (by omega)
    have hs:=small1 (n:=(out ++ hdr 96 (BitVec.ofInt 64 (d.length:Int))).length + d.length) (by have:=hl 96 (BitVec.ofInt 64 (d.length:Int)); rw [List.length_append]; omega)
    have e:(UInt8.ofBitVec ((3:UInt8).toBitVec <<< 5))=96:=by decide
    rw [e] at this
    show ((Zbh out 3 (BitVec.ofInt 64 (d.length:Int))).bind fun r3=>(bif small ((r3.2.1).length + (d:List (UInt8)).length) 1 then (some ((),((r3.2.1 ++ d),()))) else none))=_
    rw [this]
    simp only [bindS]
    rw [hs]
    simp only [cond_true,List.append_assoc]
    rfl
  · rw [h3 rfl,List.append_nil]
    exact (congrArg (fun q=>Option.bind q fun r9=>some ((),(r9.2.1,()))) (appendHead_ok out 4 n (by omega))).trans rfl
  · rw [h3 rfl,List.append_nil]
    exact (congrArg (fun q=>Option.bind q fun r9=>some ((),(r9.2.1,()))) (appendHead_ok out 5 n (by omega))).trans rfl
  · rw [h3 rfl,List.append_nil]
    show (bif small (out.length + 1) 1 then _ else none)=_
    rw [small1 (by omega)]
    rfl
  · rw [h3 rfl,List.append_nil]
    show (bif small (out.length + 1) 1 then _ else none)=_
    rw [small1 (by omega)]
    rfl
def lss (a b:List UInt8):Bool:=bif decide (a.length=b.length) then Op.bytesLess a b else decide (a.length < b.length)
theorem cmp_less:∀ a b:List UInt8,decide (Lib.compareBytes a b < 0)=Op.bytesLess a b
  | [],[]=>rfl
  | [],_ :: _=>rfl
  | _ :: _,[]=>rfl
  | a :: x,b :: y=>by
    unfold Lib.compareBytes Op.bytesLess
    by_cases h1:a < b
    · simp [h1]
    · by_cases h2:b < a
      · have:a ≠ b:=fun e=>by subst e; exact absurd h2 h1
        simp [h1,h2,this]
      · have:a=b:=by
          apply UInt8.toNat_inj.1
          have h1':¬ a.toNat < b.toNat:=h1
          have h2':¬ b.toNat < a.toNat:=h2
          omega
        subst this
        simp [h1,cmp_less x y]
theorem smaller_ok (a b:List UInt8):Zbw a b=some ((),lss a b,()):=by
  unfold Zbw lss Zbp
  by_cases h:a.length=b.length
  · rw [show decide ((a.length:Int)=(b.length:Int))=true by simp [h],show decide (a.length=b.length)=true by simpa using h]
    simp only [Bool.not_true,cond_false,cond_true,bindS]
    rw [cmp_less]
  · rw [show decide ((a.length:Int)=(b.length:Int))=false by simp; omega,show decide (a.length=b.length)=false by simpa using h]
    simp
def isK (k:Int):Bool:=decide (k=1) || (decide (k=2) || decide (k=4))
def bad (x:ApiItem):Bool:=((isD x.kind || decide (x.kind=8)) && !decide (x.number=0#64)) || ((decide (x.kind=7) && decide (1 < x.number.toNat)) || (!isD x.kind && !decide (x.data=[])))
def big (x:ApiItem):Bool:=decide (1024 < x.data.length) || (isN x.kind && decide (512 < x.number.toNat))
def adm (k:Int) (n d:Nat) (key:Bool):Int:=
  bif decide (512 ≤ n) then 8 else bif !(decide (1 ≤ k) && decide (k ≤ 8)) || (key && !isK k) then 3 else bif decide (8 < d) then 5 else 0
def acc (x:ApiItem) (key:Bool) (before:List UInt8):Int:=
  bif decide (x.kind=4) && !Lib.validD x.data then 6 else bif key && (!before.isEmpty && !lss before (enc x)) then 7 else 0
def chk (x:ApiItem) (n d:Nat) (key:Bool) (before:List UInt8):Int:=
  bif !decide (adm x.kind n d key=0) then adm x.kind n d key else bif bad x then 4 else bif big x then 8 else acc x key before
theorem ValidString_ok {l:List UInt8} (h:l.length < 1000000):Zbf l=some ((),Lib.validD l,()):=by
  unfold Zbf
  rw [show decide (l.length ≤ 9223372036854775807)=true by simp; omega]
  rfl
theorem kinds (k:Int):k=3 ∨ k=4 ∨ k=5 ∨ k=6 ∨ k=7 ∨ k=8 ∨ (¬ k=3 ∧ ¬ k=4 ∧ ¬ k=5 ∧ ¬ k=6 ∧ ¬ k=7 ∧ ¬ k=8):=by omega
def atK:List CborFrame → Bool
  | []=>false
  | f :: _=>f.pairs && decide (Int.tmod f.left 2=0)
def lst:List CborFrame → List UInt8
  | []=>[]
  | f :: _=>f.last_
def dcr:List CborFrame → List CborFrame
  | []=>[]
  | f :: r=>⟨f.pairs,f.left - 1,f.last_⟩ :: r
def setl (b:List UInt8):List CborFrame → List CborFrame
  | []=>[]
  | f :: r=>⟨f.pairs,f.left,b⟩ :: r
def psh (x:ApiItem) (S:List CborFrame):List CborFrame:=
  bif decide (0 < x.number.toNat) then (bif decide (x.kind=5) then ⟨false,(x.number.toNat:Int),[]⟩ :: S else bif decide (x.kind=6) then ⟨true,2 * (x.number.toNat:Int),[]⟩ :: S else S) else S
def pop:List CborFrame → List CborFrame
  | []=>[]
  | f :: r=>bif decide (f.left=0) then pop r else f :: r
def mrk (x:ApiItem) (S:List CborFrame):List CborFrame:=bif atK S then setl (enc x) S else S
def nxt (x:ApiItem) (S:List CborFrame):List CborFrame:=pop (psh x (dcr (mrk x S)))
theorem top_get (r:List CborFrame) (f:CborFrame):(r.reverse ++ [f])[r.length]? = some f:=by simp
theorem top_set (r:List CborFrame) (f g:CborFrame):(r.reverse ++ [f]).set r.length g=r.reverse ++ [g]:=by
  rw [List.set_append_right _ _ (by simp)]; simp
theorem top_take (r:List CborFrame) (f:CborFrame):(r.reverse ++ [f]).take r.length=r.reverse:=by
  rw [List.take_append_of_le_length (by simp)]; simp [List.take_of_length_le]
theorem top_idx (r:List CborFrame) (f:CborFrame) (h:r.length < 1000000):IntKind.wrap .i64 (((r.reverse ++ [f]).length:Int) - 1)=(r.length:Int):=by
  rw [wrap_id (by simp <;> omega) (by simp <;> omega)]; simp
theorem atKey_ok (S:List CborFrame) (n:Int) (hl:S.length < 1000000):Zbk ⟨S.reverse,n⟩=some ((),atK S,()):=by
  unfold Zbk
  cases S with
  | nil=>rfl
  | cons f r=>
    simp only [List.reverse_cons]
    rw [top_idx r f (by simp at hl; omega)]
    have eg:getI (r.reverse ++ [f]) (r.length:Int)=some f:=by unfold getI; simp [top_get]
    rw [eg,show decide ((0:Int) < ((r.reverse ++ [f]).length:Int))=true by simp <;> omega]
    simp only [cond_true,bindS,atK]
    cases f.pairs <;> rfl
theorem done_ok (S:List CborFrame) (n:Nat):Zbm ⟨S.reverse,(n:Int)⟩=some ((),decide (0 < n) && S.isEmpty,()):=by
  unfold Zbm
  cases n with
  | zero=>rfl
  | succ n=>
    rw [show decide ((0:Int) < ((n + 1:Nat):Int))=true by simp <;> omega]
    cases S with
    | nil=>rfl
    | cons f r=>
      simp only [cond_true]
      rw [show decide ((((f :: r).reverse).length:Int)=0)=false by simp; omega]
      rfl
theorem admit_ok (S:List CborFrame) (n:Nat) (k:Int) (hl:S.length < 1000000):Zbj ⟨S.reverse,(n:Int)⟩ k=some ((),adm k n S.length (atK S),()):=by
  unfold Zbj adm isK
  simp only [atKey_ok S n hl,bindS]
  rw [show decide ((512:Int) ≤ (n:Int))=decide (512 ≤ n) by rw [decide_eq_decide]; omega,show decide ((8:Int) < ((S.reverse).length:Int))=decide (8 < S.length) by rw [decide_eq_decide]; simp; omega,show decide (k < 1) = !decide (1 ≤ k) by rw [← decide_not,decide_eq_decide]; omega,show decide ((8:Int) < k) = !decide (k ≤ 8) by rw [← decide_not,decide_eq_decide]; omega]
  generalize decide (512 ≤ n)=c1
  generalize decide (8 < S.length)=c2
  generalize decide (1 ≤ k)=c3
  generalize decide (k ≤ 8)=c4
  generalize decide (k=1)=c5
  generalize decide (k=2)=c6
  generalize decide (k=4)=c7
  cases c1 <;> cases c3 <;> cases c4 <;> cases atK S <;> cases c2 <;> first | rfl | (cases c5 <;> cases c6 <;> cases c7 <;> rfl)
theorem shaped_ok (x:ApiItem):Zce x=some ((),!bad x,()):=by
  obtain ⟨k,m,l⟩:=x
  unfold Zce bad isD
  rw [show (1#64).toNat=1 from rfl]
  dsimp only
  rw [show decide (m.toNat ≤ 1) = !decide (1 < m.toNat) by rw [← decide_not,decide_eq_decide]; omega]
  generalize decide (1 < m.toNat)=c5
  generalize decide (m=0#64)=c6
  generalize decide (l=[])=c7
  rcases kinds k with rfl | rfl | rfl | rfl | rfl | rfl | ⟨g1,g2,g3,g4,g5,g6⟩
  all_goals first | (cases c5 <;> cases c6 <;> cases c7 <;> rfl) | skip
  simp only [g1,g2,g3,g4,g5,g6,decide_false,cond_false,Bool.or_false,Bool.false_and,Bool.false_or,Bool.not_false,Bool.true_and]
  cases c7 <;> rfl
theorem pop_ok (S:List CborFrame) (n:Int) (hl:S.length < 1000000):Zbn_L0 ((S.reverse,n,()),(S.length:Int),())=some (((pop S).reverse,n,()),()):=by
  unfold Zbn_L0
  rw [iter_fun (fun q=>∃ R:List CborFrame,q.1.1=R.reverse ∧ q.2.1=(R.length:Int) ∧ R.length < 1000000) (fun q=>q.1.1.length) (fun q=>(((pop q.1.1.reverse).reverse,q.1.2.1,()),()))]
  · simp
  · rintro ⟨⟨L,m,u⟩,i,u2⟩ ⟨R,h1,h2,h3⟩
    dsimp only at *
    subst h1; subst h2
    simp only [Zbn_L0b,List.reverse_reverse]
    cases R with
    | nil=>right; rfl
    | cons f r=>
      simp only [List.length_cons] at h3
      simp only [List.reverse_cons]
      have ei:IntKind.wrap .i64 (((f :: r).length:Int) - 1)=(r.length:Int):=by
        rw [wrap_id (by simp <;> omega) (by simp <;> omega)]; simp
      rw [ei,show decide ((0:Int) < ((f :: r).length:Int))=true by simp <;> omega,show decide ((0:Int) ≤ (r.length:Int))=true by simp,show decide ((r.length:Int) < ((r.reverse ++ [f]).length:Int))=true by simp <;> omega,show decide ((r.length:Int) ≤ ((r.reverse ++ [f]).length:Int))=true by simp <;> omega,Int.toNat_natCast,show decide (r.length ≤ (r.reverse ++ [f]).length)=true by simp,top_get,top_take]
      simp only [Bool.and_self,cond_true,bindS,pop]
      cases hf:decide (f.left=0)
      · right
        simp
      · left
        simp only [cond_true]
        refine ⟨_,rfl,⟨r,rfl,rfl,by omega⟩,by simp,by simp⟩
  · exact ⟨S,rfl,rfl,hl⟩
  · rw [rounds_eq]; dsimp only; simp; omega
theorem step_ok (S:List CborFrame) (n:Nat) (x:ApiItem) (hl:S.length < 100000) (hn:n < 1000000) (hw:∀ f ∈ S,-10 ≤ f.left ∧ f.left ≤ 2000) (hx:isN x.kind=true → x.number.toNat ≤ 512):Zbn (S.reverse,(n:Int),()) x=some ((((pop (psh x (dcr S))).reverse,((n + 1:Nat):Int),()),()),()):=by
  have e1:∀ (L:List CborFrame) (c:Int),L=(dcr S).reverse → c=((n + 1:Nat):Int) → ((some ((L,c,()),(x,()),()):Option (((List (CborFrame)) × Int × Unit) × (ApiItem × Unit) × Unit)).bind (fun (j4:(((List (CborFrame)) × Int × Unit) × (ApiItem × Unit) × Unit))=>((bif (decide (j4.2.1.1.kind=(5:Int))) then (bif (decide ((0#64).toNat < j4.2.1.1.number.toNat)) then (let v5:List (CborFrame):=([(⟨false,(IntKind.wrap .i64 (j4.2.1.1.number.toNat:Int)),[]⟩:CborFrame)]:List (CborFrame))
 (bif small ((j4.1.1).length + (v5:List (CborFrame)).length) 40 then (some (((j4.1.1 ++ v5),j4.1.2.1,()),(j4.2.1.1,()),()))
 else none))
 else (some ((j4.1.1,j4.1.2.1,()),(j4.2.1.1,()),())))
 else (some ((j4.1.1,j4.1.2.1,()),(j4.2.1.1,()),()))).bind (fun (j6:(((List (CborFrame)) × Int × Unit) × (ApiItem × Unit) × Unit))=>((bif (decide (j6.2.1.1.kind=(6:Int))) then (bif (decide ((0#64).toNat < j6.2.1.1.number.toNat)) then (let v7:Int:=(IntKind.wrap .i64 ((2:Int) * (IntKind.wrap .i64 (j6.2.1.1.number.toNat:Int))))
 (bif small ((j6.1.1).length + (([(⟨true,v7,[]⟩:CborFrame)]:List (CborFrame)):List (CborFrame)).length) 40 then (let v8:List (CborFrame):=(j6.1.1 ++ ([(⟨true,v7,[]⟩:CborFrame)]:List (CborFrame)))
 (some ((v8,j6.1.2.1,()),())))
 else none))
 else (some ((j6.1.1,j6.1.2.1,()),())))
 else (some ((j6.1.1,j6.1.2.1,()),()))).bind (fun (j9:(((List (CborFrame)) × Int × Unit) × Unit))=>((Zbn_L0 ((j9.1.1,j9.1.2.1,()),((j9.1.1).length:Int),())).bind (fun (z11:(((List (CborFrame)) × Int × Unit) × Unit))=>(some (((z11.1.1,z11.1.2.1,()),()),()))))))))))=some ((((pop (psh x (dcr S))).reverse,((n + 1:Nat):Int),()),()),()):=by
    intro L c hL hc
    subst hL; subst hc
    simp only [bindS]
    have hdl:(dcr S).length=S.length:=by cases S <;> rfl
    have fin:∀ R:List CborFrame,R.length < 1000000 → ((Zbn_L0 ((R.reverse,((n + 1:Nat):Int),()),((R.reverse).length:Int),())).bind (fun (z11:(((List (CborFrame)) × Int × Unit) × Unit))=>(some (((z11.1.1,z11.1.2.1,()),()),()))))=some ((((pop R).reverse,((n + 1:Nat):Int),()),()),()):=by
      intro R hR
      rw [List.length_reverse,pop_ok R _ hR]
      simp only [bindS]
    rw [show (0#64).toNat=0 from rfl]
    unfold psh
    by_cases h0:0 < x.number.toNat
    · by_cases h5:x.kind=5
      · have hm:=hx (by simp [isN,h5])
        simp only [h0,h5,decide_true,cond_true,Int.reduceEq,decide_false,cond_false]
        rw [small40 (by simp [hdl]; omega),wrap_id (n:=(x.number.toNat:Int)) (by omega) (by omega)]
        simp only [cond_true,bindS,h5,Int.reduceEq,decide_false,cond_false]
        have:=fin (⟨false,(x.number.toNat:Int),[]⟩ :: dcr S) (by simp [hdl]; omega)
        rw [List.reverse_cons] at this
        exact this
      · by_cases h6:x.kind=6
        · have hm:=hx (by simp [isN,h6])
          simp only [h0,h6,decide_true,cond_true,Int.reduceEq,decide_false,cond_false,bindS]
          rw [small40 (by simp [hdl]; omega),wrap_id (n:=(x.number.toNat:Int)) (by omega) (by omega),wrap_id (n:=2 * (x.number.toNat:Int)) (by omega) (by omega)]
          simp only [cond_true,bindS]
          have:=fin (⟨true,2 * (x.number.toNat:Int),[]⟩ :: dcr S) (by simp [hdl]; omega)
          rw [List.reverse_cons] at this
          exact this
        · simp only [h0,h5,h6,decide_true,decide_false,cond_true,cond_false,bindS]
          exact fin _ (by rw [hdl]; omega)
    · simp only [h0,decide_false,cond_false]
      by_cases h5:x.kind=5
      · simp only [h0,h5,decide_true,decide_false,cond_true,cond_false,bindS,Int.reduceEq]
        exact fin _ (by rw [hdl]; omega)
      · by_cases h6:x.kind=6
        · simp only [h0,h6,decide_true,decide_false,cond_true,cond_false,bindS,Int.reduceEq]
          exact fin _ (by rw [hdl]; omega)
        · simp only [h0,h5,h6,decide_true,decide_false,cond_true,cond_false,bindS]
          exact fin _ (by rw [hdl]; omega)
  unfold Zbn
  dsimp only
  rw [wrap_id (n:=(n:Int) + 1) (by omega) (by omega)]
  cases S with
  | nil=>exact e1 [] _ rfl (by omega)
  | cons f r=>
    simp only [List.length_cons] at hl
    have hf:=hw f (by simp)
    simp only [List.reverse_cons]
    rw [top_idx r f (by omega),show decide ((0:Int) < ((r.reverse ++ [f]).length:Int))=true by simp <;> omega,show decide ((0:Int) ≤ (r.length:Int))=true by simp,show decide ((r.length:Int) < ((r.reverse ++ [f]).length:Int))=true by simp <;> omega,Int.toNat_natCast,top_get]
    simp only [Bool.and_self,cond_true,bindS]
    rw [top_set,wrap_id (n:=f.left - 1) (by omega) (by omega)]
    have:=e1 (r.reverse ++ [⟨f.pairs,f.left - 1,f.last_⟩]) ((n:Int) + 1) (by simp [dcr]) (by omega)
    simp only [bindS] at this
    exact this
def accK (a0:((List (CborFrame)) × Int × Unit)) (a1:ApiItem):Option ((((List (CborFrame)) × Int × Unit) × Unit) × (Int × Unit)):=((Zbk (⟨a0.1,a0.2.1⟩:CborWalk)).bind fun r14=>(bif r14.2.1 then (bif (decide ((0:Int) ≤ (IntKind.wrap .i64 (((a0.1).length:Int) - (1:Int)))) && decide ((IntKind.wrap .i64 (((a0.1).length:Int) - (1:Int))) < ((a0.1).length:Int))) then ((Zbi [] a1).bind fun r15=>(((a0.1)[((IntKind.wrap .i64 (((a0.1).length:Int) - (1:Int)))).toNat]?).bind fun x16=>(bif (!(x16.last_).isEmpty) then (((a0.1)[((IntKind.wrap .i64 (((a0.1).length:Int) - (1:Int)))).toNat]?).bind fun x17=>((Zbw x17.last_ r15.2.1).bind fun r18=>(bif (!r18.2.1) then (some (((a0.1,a0.2.1,()),()),((7:Int),())))
 else (((a0.1)[((IntKind.wrap .i64 (((a0.1).length:Int) - (1:Int)))).toNat]?).bind fun x19=>(bif (r15.2.1).isEmpty then none
 else (let v20:List (CborFrame):=(List.set a0.1 ((IntKind.wrap .i64 (((a0.1).length:Int) - (1:Int)))).toNat (⟨x19.pairs,x19.left,r15.2.1⟩:CborFrame))
 ((Zbn (v20,a0.2.1,()) a1).bind fun r21=>(some (((r21.1.1.1,r21.1.1.2.1,()),()),((0:Int),()))))))))))
 else (((a0.1)[((IntKind.wrap .i64 (((a0.1).length:Int) - (1:Int)))).toNat]?).bind fun x22=>(bif (r15.2.1).isEmpty then none
 else (let v23:List (CborFrame):=(List.set a0.1 ((IntKind.wrap .i64 (((a0.1).length:Int) - (1:Int)))).toNat (⟨x22.pairs,x22.left,r15.2.1⟩:CborFrame))
 ((Zbn (v23,a0.2.1,()) a1).bind fun r24=>(some (((r24.1.1.1,r24.1.1.2.1,()),()),((0:Int),()))))))))))
 else none)
 else ((Zbn (a0.1,a0.2.1,()) a1).bind fun r25=>(some (((r25.1.1.1,r25.1.1.2.1,()),()),((0:Int),()))))))
theorem accept_eq (a0:((List (CborFrame)) × Int × Unit)) (a1:ApiItem):Zay a0 a1=bif decide (a1.kind=4) then ((Zbf a1.data).bind fun r1=>bif !r1.2.1 then some (((a0.1,a0.2.1,()),()),((6:Int),())) else accK a0 a1) else accK a0 a1:=rfl
def res (S S':List CborFrame) (n:Nat) (e:Int):(((List (CborFrame)) × Int × Unit) × Unit) × (Int × Unit):=bif decide (e=0) then (((S'.reverse,((n + 1:Nat):Int),()),()),(e,())) else (((S.reverse,(n:Int),()),()),(e,()))
theorem accK_ok (S:List CborFrame) (n:Nat) (x:ApiItem) (hk:kin x) (hd:x.data.length < 100000) (hl:S.length < 100000) (hn:n < 1000000) (hw:∀ f ∈ S,-10 ≤ f.left ∧ f.left ≤ 2000) (hx:isN x.kind=true → x.number.toNat ≤ 512) :
    accK (S.reverse,(n:Int),()) x=some (res S (nxt x S) n (bif atK S && (!(lst S).isEmpty && !lss (lst S) (enc x)) then 7 else 0)):=by
  unfold accK
  dsimp only
  rw [atKey_ok S n (by omega)]
  simp only [bindS]
  cases S with
  | nil=>
    have e:atK ([]:List CborFrame)=false:=rfl
    rw [e]
    have:=step_ok [] n x (by simp) hn (by simp) hx
    simp only [cond_false,Bool.false_and]
    rw [this]
    rfl
  | cons f r=>
    simp only [List.length_cons] at hl
    cases ha:atK (f :: r)
    · simp only [cond_false,Bool.false_and]
      rw [step_ok (f :: r) n x (by simp; omega) hn hw hx]
      simp [res,nxt,mrk,ha]
    · simp only [cond_true,Bool.true_and,List.reverse_cons]
      rw [top_idx r f (by omega),show decide ((0:Int) ≤ (r.length:Int))=true by simp,show decide ((r.length:Int) < ((r.reverse ++ [f]).length:Int))=true by simp <;> omega,Int.toNat_natCast,top_get,appendItem_ok [] x hk (by simp) (by omega)]
      simp only [Bool.and_self,cond_true,bindS,List.nil_append,lst,top_set]
      have he:(enc x).isEmpty=false:=by
        cases h:enc x with
        | nil=>exact absurd h (enc_ne x)
        | cons _ _=>rfl
      have hst:=step_ok (⟨f.pairs,f.left,enc x⟩ :: r) n x (by simp; omega) hn (by
        intro g hg
        rcases List.mem_cons.1 hg with rfl | hg
        · exact hw f (by simp)
        · exact hw g (by simp [hg])) hx
      simp only [List.reverse_cons] at hst
      rw [he,smaller_ok]
      simp only [bindS,cond_false]
      rw [hst]
      have hnx:nxt x (f :: r)=pop (psh x (dcr (⟨f.pairs,f.left,enc x⟩ :: r))):=by
        unfold nxt mrk
        rw [ha]; rfl
      rw [hnx]
      cases f.last_.isEmpty
      · simp only [Bool.not_false,cond_true,Bool.true_and]
        cases lss f.last_ (enc x)
        · simp [res]
        · simp [res]
      · simp [res]
theorem accept_ok (S:List CborFrame) (n:Nat) (x:ApiItem) (hk:kin x) (hd:x.data.length < 100000) (hl:S.length < 100000) (hn:n < 1000000) (hw:∀ f ∈ S,-10 ≤ f.left ∧ f.left ≤ 2000) (hx:isN x.kind=true → x.number.toNat ≤ 512) :
    Zay (S.reverse,(n:Int),()) x=some (res S (nxt x S) n (acc x (atK S) (lst S))):=by
  rw [accept_eq,accK_ok S n x hk hd hl hn hw hx,ValidString_ok (by omega)]
  unfold acc
  simp only [bindS]
  cases decide (x.kind=4)
  · simp
  · cases Lib.validD x.data
    · simp [res]
    · simp
theorem kin_of {x:ApiItem} {n d:Nat} {key:Bool} (h1:adm x.kind n d key=0) (h2:bad x=false):kin x:=by
  unfold adm at h1
  cases hc:decide (512 ≤ n)
  · rw [hc] at h1
    cases hk:(!(decide (1 ≤ x.kind) && decide (x.kind ≤ 8)) || (key && !isK x.kind))
    · simp only [Bool.or_eq_false_iff,Bool.not_eq_false',Bool.and_eq_true,decide_eq_true_eq] at hk
      refine ⟨hk.1.1,hk.1.2,fun h=>?_⟩
      unfold bad at h2
      simp only [h,Bool.or_eq_false_iff,Bool.not_false,Bool.true_and,Bool.not_eq_false',decide_eq_true_eq] at h2
      exact h2.2.2
    · rw [hk] at h1; simp at h1
  · rw [hc] at h1; simp at h1
theorem item_ok (S:List CborFrame) (n:Nat) (x:ApiItem) (hd:x.data.length < 100000) (hl:S.length < 100000) (hn:n < 1000000) (hw:∀ f ∈ S,-10 ≤ f.left ∧ f.left ≤ 2000) :
    Zar (S.reverse,(n:Int),()) x=some (res S (nxt x S) n (bif decide (0 < n) && S.isEmpty then 2 else chk x n S.length (atK S) (lst S))):=by
  unfold Zar
  dsimp only
  rw [done_ok,admit_ok S n x.kind (by omega),shaped_ok]
  simp only [bindS]
  cases decide (0 < n) && S.isEmpty
  · simp only [cond_false]
    unfold chk
    by_cases h1:adm x.kind n S.length (atK S)=0
    · rw [show decide (adm x.kind n S.length (atK S)=0)=true by simpa using h1]
      simp only [Bool.not_true,cond_false,Bool.not_not]
      cases hb:bad x
      · have hk := kin_of h1 hb
        simp only [cond_false]
        unfold big isN
        rw [show decide ((1024:Int) < (x.data.length:Int))=decide (1024 < x.data.length) by rw [decide_eq_decide]; omega,show (512#64).toNat=512 from rfl]
        cases decide (1024 < x.data.length)
        · simp only [cond_false,Bool.false_or]
          by_cases h5:x.kind=5
          · by_cases hm:512 < x.number.toNat
            · simp [h5,hm,res]
            · rw [accept_ok S n x hk hd hl hn hw (fun _=>by omega)]
              simp only [h5,hm,decide_true,decide_false,cond_true,cond_false,bindS,Bool.true_or,Bool.and_false]
          · by_cases h6:x.kind=6
            · by_cases hm:512 < x.number.toNat
              · simp [h6,hm,res]
              · rw [accept_ok S n x hk hd hl hn hw (fun _=>by omega)]
                simp only [h6,hm,decide_true,decide_false,cond_true,cond_false,bindS,Bool.or_true,Bool.and_false,Int.reduceEq]
            · rw [accept_ok S n x hk hd hl hn hw (fun h=>by simp [isN,h5,h6] at h)]
              simp only [h5,h6,decide_true,decide_false,cond_true,cond_false,bindS,Bool.or_self,Bool.false_and]
        · simp [res]
      · simp [res]
    · rw [show decide (adm x.kind n S.length (atK S)=0)=false by simpa using h1]
      simp [res,h1]
  · simp [res]
def mach {σ:Type} (get:Nat → Nat → Bool → List UInt8 → σ → Int × ApiItem × σ):Nat → List CborFrame → Nat → σ → Int × List ApiItem × σ
  | 0,_,_,s=>(99,[],s)
  | f + 1,S,n,s=>bif decide (0 < n) && S.isEmpty then (0,[],s) else bif decide ((get n S.length (atK S) (lst S) s).1=0) then ((mach get f (nxt (get n S.length (atK S) (lst S) s).2.1 S) (n + 1) (get n S.length (atK S) (lst S) s).2.2).1,(get n S.length (atK S) (lst S) s).2.1 :: (mach get f (nxt (get n S.length (atK S) (lst S) s).2.1 S) (n + 1) (get n S.length (atK S) (lst S) s).2.2).2.1,(mach get f (nxt (get n S.length (atK S) (lst S) s).2.1 S) (n + 1) (get n S.length (atK S) (lst S) s).2.2).2.2) else ((get n S.length (atK S) (lst S) s).1,[],s)
theorem mach_done {σ:Type} {get:Nat → Nat → Bool → List UInt8 → σ → Int × ApiItem × σ} {f n:Nat} {s:σ} (hn:0 < n):mach get (f + 1) [] n s=(0,[],s):=by
  unfold mach
  simp [hn]
theorem mach_err {σ:Type} {get:Nat → Nat → Bool → List UInt8 → σ → Int × ApiItem × σ} {f n:Nat} {s:σ} {S:List CborFrame} {e:Int} {x:ApiItem} {t:σ} (hS:(decide (0 < n) && S.isEmpty)=false) (hg:get n S.length (atK S) (lst S) s=(e,x,t)) (he:e ≠ 0):mach get (f + 1) S n s=(e,[],s):=by
  unfold mach
  rw [hS,hg]
  simp [he]
theorem mach_step {σ:Type} {get:Nat → Nat → Bool → List UInt8 → σ → Int × ApiItem × σ} {f n:Nat} {s:σ} {S:List CborFrame} {x:ApiItem} {t:σ} (hS:(decide (0 < n) && S.isEmpty)=false) (hg:get n S.length (atK S) (lst S) s=(0,x,t)):mach get (f + 1) S n s=((mach get f (nxt x S) (n + 1) t).1,x :: (mach get f (nxt x S) (n + 1) t).2.1,(mach get f (nxt x S) (n + 1) t).2.2):=by
  conv=>lhs; unfold mach
  rw [hS,hg]
  simp
def getL (n d:Nat) (key:Bool) (before:List UInt8):List ApiItem → Int × ApiItem × List ApiItem
  | []=>(1,default,[])
  | x :: r=>(chk x n d key before,x,r)
def top:List CborFrame → Prop
  | []=>True
  | f :: _=>0 < f.left
def WS (S:List CborFrame):Prop:=(∀ f ∈ S,0 ≤ f.left ∧ f.left ≤ 1024) ∧ top S ∧ S.length ≤ 9
theorem pop_sub:∀ {S:List CborFrame} {f:CborFrame},f ∈ pop S → f ∈ S
  | g :: r,f,h=>by
    unfold pop at h
    cases hg:decide (g.left=0)
    · rw [hg] at h; exact h
    · rw [hg] at h; exact List.mem_cons_of_mem _ (pop_sub h)
theorem pop_len:∀ S:List CborFrame,(pop S).length ≤ S.length
  | []=>Nat.le_refl _
  | g :: r=>by
    unfold pop
    cases decide (g.left=0)
    · exact Nat.le_refl _
    · exact Nat.le_trans (pop_len r) (Nat.le_succ _)
theorem pop_top:∀ {S:List CborFrame},(∀ f ∈ S,0 ≤ f.left) → top (pop S)
  | [],_=>trivial
  | g :: r,h=>by
    unfold pop
    by_cases hg:g.left=0
    · simp only [hg,decide_true,cond_true]
      exact pop_top fun f hf=>h f (by simp [hf])
    · simp only [hg,decide_false,cond_false]
      have:=h g (by simp)
      show 0 < g.left
      omega
theorem chk_zero {x:ApiItem} {n d:Nat} {key:Bool} {before:List UInt8} (h:chk x n d key before=0):adm x.kind n d key=0 ∧ bad x=false ∧ big x=false ∧ acc x key before=0:=by
  unfold chk at h
  by_cases h1:adm x.kind n d key=0
  · rw [show decide (adm x.kind n d key=0)=true by simpa using h1] at h
    cases h2:bad x
    · rw [h2] at h
      cases h3:big x
      · rw [h3] at h
        exact ⟨h1,rfl,rfl,h⟩
      · rw [h3] at h; simp at h
    · rw [h2] at h; simp at h
  · rw [show decide (adm x.kind n d key=0)=false by simpa using h1] at h
    exact absurd h h1
theorem adm_zero {k:Int} {n d:Nat} {key:Bool} (h:adm k n d key=0):n < 512 ∧ 1 ≤ k ∧ k ≤ 8 ∧ (key=true → isK k=true) ∧ d ≤ 8:=by
  unfold adm at h
  by_cases h1:512 ≤ n
  · rw [show decide (512 ≤ n)=true by simpa using h1] at h; simp at h
  · rw [show decide (512 ≤ n)=false by simpa using h1] at h
    cases h2:(!(decide (1 ≤ k) && decide (k ≤ 8)) || (key && !isK k))
    · rw [h2] at h
      simp only [Bool.or_eq_false_iff,Bool.not_eq_false',Bool.and_eq_true,decide_eq_true_eq,Bool.and_eq_false_iff] at h2
      by_cases h3:8 < d
      · rw [show decide (8 < d)=true by simpa using h3] at h; simp at h
      · refine ⟨by omega,h2.1.1,h2.1.2,fun hk=>?_,by omega⟩
        rcases h2.2 with q | q
        · rw [hk] at q; cases q
        · exact q
    · rw [h2] at h; simp at h
theorem nxt_WS {S:List CborFrame} {x:ApiItem} (h:WS S) (hd:S.length ≤ 8) (hx:isN x.kind=true → x.number.toNat ≤ 512):WS (nxt x S):=by
  obtain ⟨h1,h2,h3⟩:=h
  have hm:(∀ f ∈ mrk x S,0 ≤ f.left ∧ f.left ≤ 1024) ∧ top (mrk x S) ∧ (mrk x S).length=S.length:=by
    unfold mrk
    cases atK S
    · exact ⟨h1,h2,rfl⟩
    · cases S with
      | nil=>exact ⟨h1,h2,rfl⟩
      | cons f r=>
        refine ⟨?_,h2,rfl⟩
        intro g hg
        rcases List.mem_cons.1 hg with rfl | hg
        · exact h1 f (by simp)
        · exact h1 g (by simp [hg])
  unfold nxt
  generalize mrk x S=M at hm ⊢
  obtain ⟨m1,m2,m3⟩:=hm
  have hdc:(∀ f ∈ dcr M,0 ≤ f.left ∧ f.left ≤ 1024) ∧ (dcr M).length=S.length:=by
    cases M with
    | nil=>exact ⟨m1,m3⟩
    | cons f r=>
      refine ⟨?_,m3⟩
      intro g hg
      rcases List.mem_cons.1 hg with rfl | hg
      · have:=m1 f (by simp)
        have h0:0 < f.left:=m2
        dsimp only
        omega
      · exact m1 g (by simp [hg])
  have hp : (∀ f ∈ psh x (dcr M), 0 ≤ f.left ∧ f.left ≤ 1024) ∧ (psh x (dcr M)).length ≤ 9 := by
    unfold psh
    by_cases h0:0 < x.number.toNat
    · rw [show decide (0 < x.number.toNat)=true by simpa using h0]
      by_cases h5:x.kind=5
      · have:=hx (by simp [isN,h5])
        rw [show decide (x.kind=5)=true by simpa using h5]
        refine ⟨?_,by simp [hdc.2]; omega⟩
        intro g hg
        rcases List.mem_cons.1 hg with rfl | hg
        · dsimp only; omega
        · exact hdc.1 g hg
      · rw [show decide (x.kind=5)=false by simpa using h5]
        by_cases h6:x.kind=6
        · have:=hx (by simp [isN,h6])
          rw [show decide (x.kind=6)=true by simpa using h6]
          refine ⟨?_,by simp [hdc.2]; omega⟩
          intro g hg
          rcases List.mem_cons.1 hg with rfl | hg
          · dsimp only; omega
          · exact hdc.1 g hg
        · rw [show decide (x.kind=6)=false by simpa using h6]
          exact ⟨hdc.1,by simp [hdc.2]; omega⟩
    · rw [show decide (0 < x.number.toNat)=false by simpa using h0]
      exact ⟨hdc.1,by simp [hdc.2]; omega⟩
  exact ⟨fun f hf=>hp.1 f (pop_sub hf),pop_top fun f hf=>(hp.1 f hf).1,Nat.le_trans (pop_len _) hp.2⟩
theorem big_false {x:ApiItem} (h:big x=false):x.data.length ≤ 1024 ∧ (isN x.kind=true → x.number.toNat ≤ 512):=by
  unfold big at h
  simp only [Bool.or_eq_false_iff,decide_eq_false_iff_not,Bool.and_eq_false_iff] at h
  refine ⟨by omega,fun hk=>?_⟩
  rcases h.2 with q | q
  · rw [hk] at q; cases q
  · omega
theorem chk_WS {S:List CborFrame} {x:ApiItem} {n:Nat} (h:WS S) (hc:chk x n S.length (atK S) (lst S)=0):WS (nxt x S):=by
  obtain ⟨c1,c2,c3,c4⟩:=chk_zero hc
  exact nxt_WS h (adm_zero c1).2.2.2.2 (big_false c3).2
def valE (m:Int × List ApiItem × List ApiItem):Int:=bif !decide (m.1=0) then m.1 else bif m.2.2.isEmpty then 0 else 2
def valO (l:List ApiItem):Int:=valE (mach getL 600 [] 0 l)
theorem Validate_ok (l:List ApiItem) (hl:l.length < 1000000) (hd:∀ x ∈ l,x.data.length < 100000):Zbq l=some ((),valO l,()):=by
  have key:∀ (r:List ApiItem) (S:List CborFrame) (n f fuel:Nat),l.drop n=r → n ≤ l.length → WS S → r.length < f → 600 ≤ fuel + n → 0 < fuel →
      (iter (fun (y:(((List (CborFrame)) × Int × Unit) × (List (ApiItem)) × Int × Int × Unit))=>Zbq_L0b y.1 y.2.1 y.2.2.1 y.2.2.2.1) f ((S.reverse,(n:Int),()),l,(l.length:Int),(n:Int),())).bind (Sum.elim (fun (z3:(Int × Unit))=>(some ((),(z3.1,())))) (fun (z4:(((List (CborFrame)) × Int × Unit) × Unit))=>((Zbm (⟨z4.1.1,z4.1.2.1⟩:CborWalk)).bind fun r5=>(bif (!r5.2.1) then (some ((),((1:Int),()))) else (some ((),((0:Int),())))))))=some ((),valE (mach getL fuel S n r),()):=by
    intro r
    induction r with
    | nil=>
      intro S n f fuel hr hn hS hf hfu hfu0
      have hnl:n=l.length:=by
        have:=congrArg List.length hr
        simp at this
        omega
      obtain ⟨f,rfl⟩:∃ g,f=g + 1:=⟨f - 1,by omega⟩
      obtain ⟨fuel,rfl⟩:∃ g,fuel=g + 1:=⟨fuel - 1,by omega⟩
      rw [iter_succ]
      have e1:Zbq_L0b (S.reverse,(n:Int),()) l (l.length:Int) (n:Int)=some (.inr (.inr ((S.reverse,(n:Int),()),()))):=by
        unfold Zbq_L0b
        rw [show decide ((n:Int) < (l.length:Int))=false by simp; omega]
        rfl
      dsimp only
      rw [e1,bindS,Sum.elim_inr,bindS,Sum.elim_inr]
      dsimp only
      rw [done_ok,bindS]
      dsimp only
      cases hS2:(decide (0 < n) && S.isEmpty)
      · rw [mach_err hS2 (show getL n S.length (atK S) (lst S) []=(1,default,[]) from rfl) (by decide)]
        rfl
      · simp only [Bool.and_eq_true,decide_eq_true_eq,List.isEmpty_iff] at hS2
        obtain ⟨q1,rfl⟩:=hS2
        rw [mach_done q1]
        rfl
    | cons x r ih=>
      intro S n f fuel hr hn hS hf hfu hfu0
      have hnl:n < l.length:=by
        have:=congrArg List.length hr
        simp at this
        omega
      have hx:l[n]? = some x:=by
        have:=congrArg (·[0]?) hr
        simpa using this
      have hr2:l.drop (n + 1)=r:=by
        have:=congrArg (List.drop 1) hr
        simpa [List.drop_drop] using this
      obtain ⟨f,rfl⟩:∃ g,f=g + 1:=⟨f - 1,by omega⟩
      obtain ⟨fuel,rfl⟩:∃ g,fuel=g + 1:=⟨fuel - 1,by omega⟩
      rw [iter_succ]
      have hit:=item_ok S n x (hd x (List.mem_of_getElem? hx)) (by have:=hS.2.2; omega) (by omega) (fun g hg=>by have:=hS.1 g hg; omega)
      have eg:getI l (n:Int)=some x:=by unfold getI; simp [hx]
      have e1:Zbq_L0b (S.reverse,(n:Int),()) l (l.length:Int) (n:Int)=(bif (!decide ((res S (nxt x S) n (bif decide (0 < n) && S.isEmpty then 2 else chk x n S.length (atK S) (lst S))).2.1=(0:Int))) then (some (Sum.inr (Sum.inl ((res S (nxt x S) n (bif decide (0 < n) && S.isEmpty then 2 else chk x n S.length (atK S) (lst S))).2.1,()))))
 else (some (Sum.inl (((res S (nxt x S) n (bif decide (0 < n) && S.isEmpty then 2 else chk x n S.length (atK S) (lst S))).1.1.1,(res S (nxt x S) n (bif decide (0 < n) && S.isEmpty then 2 else chk x n S.length (atK S) (lst S))).1.1.2.1,()),l,(l.length:Int),(n:Int) + 1,())))):=by
        unfold Zbq_L0b
        rw [show decide ((n:Int) < (l.length:Int))=true by simp; omega,eg,wrap_id (n:=(n:Int) + 1) (by omega) (by omega)]
        simp only [cond_true,bindS]
        rw [hit]
        simp only [bindS]
      dsimp only
      rw [e1]
      cases hS2:(decide (0 < n) && S.isEmpty)
      · simp only [cond_false]
        by_cases hc:chk x n S.length (atK S) (lst S)=0
        · have em:mach getL (fuel + 1) S n (x :: r)=_:=mach_step hS2 (show getL n S.length (atK S) (lst S) (x :: r)=(0,x,r) by simp [getL,hc])
          rw [em]
          have hn512:=(adm_zero (chk_zero hc).1).1
          have:=ih (nxt x S) (n + 1) f fuel hr2 (by omega) (chk_WS hS hc) (by simp at hf; omega) (by omega) (by omega)
          unfold res
          rw [hc]
          simp only [decide_true,cond_true,Bool.not_true,cond_false,bindS,Sum.elim_inl]
          rw [show ((n:Int) + 1)=((n + 1:Nat):Int) by omega]
          exact this
        · rw [mach_err hS2 (show getL n S.length (atK S) (lst S) (x :: r)=(chk x n S.length (atK S) (lst S),x,r) from rfl) hc]
          unfold res valE
          simp [hc]
      · simp only [cond_true]
        have hS3:=hS2
        simp only [Bool.and_eq_true,decide_eq_true_eq,List.isEmpty_iff] at hS3
        obtain ⟨q1,rfl⟩:=hS3
        rw [mach_done q1]
        rfl
  unfold Zbq Zbq_L0 valO
  exact key l [] 0 rounds 600 (by simp) (by simp) ⟨by simp,trivial,by simp⟩ (by rw [rounds_eq]; omega) (by omega) (by omega)
abbrev Res (σ:Type):=Int × List ApiItem × σ
def LA {σ:Type} (rec:σ → Nat → Res σ):Nat → σ → Nat → Res σ
  | 0,s,_=>(0,[],s)
  | k + 1,s,n=>bif decide ((rec s n).1=0) then ((LA rec k (rec s n).2.2 (n + (rec s n).2.1.length)).1,(rec s n).2.1 ++ (LA rec k (rec s n).2.2 (n + (rec s n).2.1.length)).2.1,(LA rec k (rec s n).2.2 (n + (rec s n).2.1.length)).2.2) else ((rec s n).1,[],s)
def LM {σ:Type} (recK:σ → Nat → List UInt8 → Res σ) (recV:σ → Nat → Res σ):Nat → σ → Nat → List UInt8 → Res σ
  | 0,s,_,_=>(0,[],s)
  | k + 1,s,n,last=>
    let a:=recK s n last
    bif decide (a.1=0) then
      let b:=recV a.2.2 (n + a.2.1.length)
      bif decide (b.1=0) then
        let q:=LM recK recV k b.2.2 (n + a.2.1.length + b.2.1.length) (enc (a.2.1.headD default))
        (q.1,a.2.1 ++ (b.2.1 ++ q.2.1),q.2.2)
      else (b.1,[],s)
    else (a.1,[],s)
def W {σ:Type} (get:Nat → Nat → Bool → List UInt8 → σ → Int × ApiItem × σ):Nat → σ → Nat → Nat → Bool → List UInt8 → Res σ
  | 0,s,_,_,_,_=>(99,[],s)
  | f + 1,s,n,d,key,before=>
    let g:=get n d key before s
    bif decide (g.1=0) then
      let q:=bif decide (g.2.1.kind=5) then LA (fun s n=>W get f s n (d + 1) false []) g.2.1.number.toNat g.2.2 (n + 1)
        else bif decide (g.2.1.kind=6) then LM (fun s n last=>W get f s n (d + 1) true last) (fun s n=>W get f s n (d + 1) false []) g.2.1.number.toNat g.2.2 (n + 1) []
        else (0,[],g.2.2)
      (q.1,g.2.1 :: q.2.1,q.2.2)
    else (g.1,[],s)
structure GetOk {σ:Type} (get:Nat → Nat → Bool → List UInt8 → σ → Int × ApiItem × σ):Prop where
  small:∀ {n d:Nat} {k:Bool} {b:List UInt8} {s:σ} {x:ApiItem} {t:σ},get n d k b s=(0,x,t) → n < 512 ∧ d ≤ 8 ∧ (isN x.kind=true → x.number.toNat ≤ 512)
  free:∀ (n d:Nat) (b b':List UInt8) (s:σ),get n d false b s=get n d false b' s
def Goes {σ:Type} (get:Nat → Nat → Bool → List UInt8 → σ → Int × ApiItem × σ) (m:Nat) (S:List CborFrame) (n:Nat) (s:σ) (w:Res σ) (T:List CborFrame):Prop:=
  (w.1 ≠ 0 → (mach get m S n s).1=w.1) ∧
  (w.1=0 → n + w.2.1.length ≤ 512 ∧ mach get m S n s=((mach get (m - w.2.1.length) T (n + w.2.1.length) w.2.2).1,w.2.1 ++ (mach get (m - w.2.1.length) T (n + w.2.1.length) w.2.2).2.1,(mach get (m - w.2.1.length) T (n + w.2.1.length) w.2.2).2.2))
theorem Goes.trans {σ:Type} {get:Nat → Nat → Bool → List UInt8 → σ → Int × ApiItem × σ} {m n:Nat} {S T U:List CborFrame} {s:σ} {a b:Res σ} (h1:Goes get m S n s a T) (ha:a.1=0) (h2:Goes get (m - a.2.1.length) T (n + a.2.1.length) a.2.2 b U):Goes get m S n s (b.1,a.2.1 ++ b.2.1,b.2.2) U:=by
  obtain ⟨_,h1⟩:=h1
  obtain ⟨i1,i2⟩:=h1 ha
  refine ⟨fun hb=>?_,fun hb=>?_⟩
  · rw [i2]; exact h2.1 hb
  · obtain ⟨j1,j2⟩:=h2.2 hb
    dsimp only at *
    refine ⟨by rw [List.length_append]; omega,?_⟩
    rw [i2,j2,List.length_append,Nat.sub_sub,Nat.add_assoc,List.append_assoc]
theorem Goes.fail {σ:Type} {get:Nat → Nat → Bool → List UInt8 → σ → Int × ApiItem × σ} {m n:Nat} {S T U:List CborFrame} {s:σ} {a:Res σ} {e:Int} {o:List ApiItem} {t:σ} (h1:Goes get m S n s a T) (ha:a.1 ≠ 0) (he:e=a.1):Goes get m S n s (e,o,t) U:=by
  subst he
  exact ⟨fun _=>h1.1 ha,fun h=>absurd h ha⟩
theorem Goes.fail2 {σ:Type} {get:Nat → Nat → Bool → List UInt8 → σ → Int × ApiItem × σ} {m n:Nat} {S T U V:List CborFrame} {s:σ} {a b:Res σ} {o:List ApiItem} {t:σ} (h1:Goes get m S n s a T) (ha:a.1=0) (h2:Goes get (m - a.2.1.length) T (n + a.2.1.length) a.2.2 b U) (hb:b.1 ≠ 0):Goes get m S n s (b.1,o,t) V:=by
  obtain ⟨i1,i2⟩:=h1.2 ha
  refine ⟨fun _=>?_,fun h=>absurd h hb⟩
  rw [i2]; exact h2.1 hb
theorem Goes.nil {σ:Type} {get:Nat → Nat → Bool → List UInt8 → σ → Int × ApiItem × σ} {m n:Nat} {S:List CborFrame} {s:σ} (hn:n ≤ 512):Goes get m S n s (0,[],s) S:=
  ⟨fun h=>absurd rfl h,fun _=>⟨by simpa using hn,by simp⟩⟩
theorem W_ne {σ:Type} {get:Nat → Nat → Bool → List UInt8 → σ → Int × ApiItem × σ} {f:Nat} {s:σ} {n d:Nat} {key:Bool} {b:List UInt8} (h:(W get f s n d key b).1=0):∃ x r,(W get f s n d key b).2.1=x :: r:=by
  cases f with
  | zero=>simp [W] at h
  | succ f=>
    unfold W at h ⊢
    dsimp only at h ⊢
    by_cases hg:(get n d key b s).1=0
    · rw [show decide ((get n d key b s).1=0)=true by simpa using hg]
      exact ⟨_,_,rfl⟩
    · rw [show decide ((get n d key b s).1=0)=false by simpa using hg] at h
      exact absurd h hg
theorem tmod2 (j:Nat):Int.tmod (2 * ((j + 1:Nat):Int)) 2=0 ∧ Int.tmod (2 * ((j + 1:Nat):Int) - 1) 2=1:=by
  constructor
  · rw [show (2 * ((j + 1:Nat):Int))=((2 * (j + 1):Nat):Int) by omega]
    show (((2 * (j + 1)) % 2:Nat):Int)=0
    omega
  · rw [show (2 * ((j + 1:Nat):Int) - 1)=((2 * j + 1:Nat):Int) by omega]
    show (((2 * j + 1) % 2:Nat):Int)=1
    omega
theorem W_goes {σ : Type} {get : Nat → Nat → Bool → List UInt8 → σ → Int × ApiItem × σ} (G : GetOk get) : ∀ (f : Nat) (S : List CborFrame) (n m : Nat) (s : σ), WS S → (S = [] → n = 0) → 10 ≤ f + S.length → 600 ≤ m + n → n ≤ 512 →
    Goes get m S n s (W get f s n S.length (atK S) (lst S)) (pop (dcr (mrk ((W get f s n S.length (atK S) (lst S)).2.1.headD default) S)))
  | 0,S,n,m,s,hS,_,hf,_,_=>by have:=hS.2.2; omega
  | f + 1, S, n, m, s, hS, hS0, hf, hm, hn => by
    have ih:=W_goes G f
    have hSe:(decide (0 < n) && S.isEmpty)=false:=by
      cases S with
      | nil=>rw [hS0 rfl]; rfl
      | cons _ _=>simp
    obtain ⟨m,rfl⟩:∃ q,m=q + 1:=⟨m - 1,by omega⟩
    unfold W
    dsimp only
    rcases hg:get n S.length (atK S) (lst S) s with ⟨e,x,t⟩
    dsimp only
    by_cases he:e=0
    · subst he
      simp only [decide_true,cond_true,List.headD_cons]
      obtain ⟨g1,g2,g3⟩:=G.small hg
      have hstep:=mach_step (f:=m) hSe hg
      have hM:(∀ f ∈ dcr (mrk x S),0 ≤ f.left ∧ f.left ≤ 1024) ∧ (dcr (mrk x S)).length=S.length:=by
        cases S with
        | nil=>exact ⟨by simp [mrk,atK,dcr],rfl⟩
        | cons f r=>
          have h0:0 < f.left:=hS.2.1
          have h1:=hS.1 f (by simp)
          have h2:∀ g ∈ r,0 ≤ g.left ∧ g.left ≤ 1024:=fun g hg=>hS.1 g (by simp [hg])
          unfold mrk
          cases atK (f :: r)
          · refine ⟨?_,rfl⟩
            intro g hg
            rcases List.mem_cons.1 hg with rfl | hg
            · dsimp only; omega
            · exact h2 g hg
          · refine ⟨?_,rfl⟩
            intro g hg
            rcases List.mem_cons.1 hg with rfl | hg
            · dsimp only; omega
            · exact h2 g hg
      generalize hD:dcr (mrk x S)=D at hM
      obtain ⟨D1,D2⟩:=hM
      have hnx:nxt x S=pop (psh x D):=by unfold nxt; rw [hD]
      rw [hnx] at hstep
      -- the first item is taken
      have h1:Goes get (m + 1) S n s (0,[x],t) (pop (psh x D)):=⟨fun h=>absurd rfl h,fun _=>⟨by simp; omega,by
        dsimp only
        rw [hstep]; rfl⟩⟩
      -- a frame over D
      have wsF:∀ (p:Bool) (j:Int) (l:List UInt8),0 < j → j ≤ 1024 → WS (⟨p,j,l⟩ :: D):=fun p j l hj hj2=>⟨fun g hg=>by
        rcases List.mem_cons.1 hg with rfl | hg
        · dsimp only; omega
        · exact D1 g hg,hj,by simp [D2]; omega⟩
      have popF:∀ (p:Bool) (j:Int) (l:List UInt8),j ≠ 0 → pop (⟨p,j,l⟩ :: D)=⟨p,j,l⟩ :: D:=fun p j l hj=>by
        conv=>lhs; unfold pop
        simp [hj]
      have popZ:∀ (p:Bool) (l:List UInt8),pop (⟨p,0,l⟩ :: D)=pop D:=fun p l=>by
        conv=>lhs; unfold pop
        simp
      have fin:∀ q:Res σ,Goes get m (pop (psh x D)) (n + 1) t q (pop D) → Goes get (m + 1) S n s (q.1,x :: q.2.1,q.2.2) (pop D):=fun q hq=>h1.trans rfl hq
      refine fin _ ?_
      by_cases hk0:0 < x.number.toNat
      · by_cases h5 : x.kind = 5
        · have hk := g3 (by simp [isN, h5])
          have hp:pop (psh x D)=⟨false,(x.number.toNat:Int),[]⟩ :: D:=by
            unfold psh
            simp only [h5,hk0,decide_true,cond_true]
            exact popF _ _ _ (by omega)
          rw [hp]
          simp only [h5,decide_true,cond_true]
          have loop:∀ (k:Nat) (s:σ) (n m:Nat),0 < k → k ≤ 512 → 600 ≤ m + n → 0 < n → n ≤ 512 → Goes get m (⟨false,(k:Int),[]⟩ :: D) n s (LA (fun s n=>W get f s n (S.length + 1) false []) k s n) (pop D):=by
            intro k
            induction k with
            | zero=>intro s n m h; omega
            | succ k ihk=>
              intro s n m _ hk2 hm2 hn0 hn2
              have hr:=ih (⟨false,((k + 1:Nat):Int),[]⟩ :: D) n m s (wsF _ _ _ (by omega) (by omega)) (by simp) (by simp [D2]; omega) hm2 hn2
              have ea:atK (⟨false,((k + 1:Nat):Int),[]⟩ :: D)=false:=rfl
              have el:(⟨false,((k + 1:Nat):Int),[]⟩ :: D:List CborFrame).length=S.length + 1:=by simp [D2]
              have elst:lst (⟨false,((k + 1:Nat):Int),[]⟩ :: D)=[]:=rfl
              have em:∀ y,pop (dcr (mrk y (⟨false,((k + 1:Nat):Int),[]⟩ :: D)))=pop (⟨false,(k:Int),[]⟩ :: D):=fun y=>by
                unfold mrk
                rw [ea]
                show pop (⟨false,((k + 1:Nat):Int) - 1,[]⟩ :: D)=_
                rw [show ((k + 1:Nat):Int) - 1=(k:Int) by omega]
              rw [ea,el,elst,em] at hr
              unfold LA
              generalize hw:W get f s n (S.length + 1) false []=w at hr
              by_cases hw0:w.1=0
              · rw [show decide (w.1=0)=true by simpa using hw0]
                simp only [cond_true]
                obtain ⟨i1,i2⟩:=hr.2 hw0
                obtain ⟨y,r,hy⟩:=W_ne (get:=get) (f:=f) (s:=s) (n:=n) (d:=S.length + 1) (key:=false) (b:=[]) (by rw [hw]; exact hw0)
                rw [hw] at hy
                have hl1:1 ≤ w.2.1.length:=by rw [hy]; simp
                refine hr.trans hw0 ?_
                by_cases hk1:0 < k
                · rw [popF _ _ _ (by omega)]
                  exact ihk w.2.2 (n + w.2.1.length) (m - w.2.1.length) hk1 (by omega) (by omega) (by omega) (by omega)
                · have:k=0:=by omega
                  subst this
                  rw [show ((0:Nat):Int)=0 from rfl,popZ]
                  exact Goes.nil (by omega)
              · rw [show decide (w.1=0)=false by simpa using hw0]
                exact hr.fail hw0 rfl
          exact loop _ t (n + 1) m hk0 hk (by omega) (by omega) (by omega)
        · by_cases h6 : x.kind = 6
          · have hk := g3 (by simp [isN, h6])
            have hp:pop (psh x D)=⟨true,2 * (x.number.toNat:Int),[]⟩ :: D:=by
              unfold psh
              simp only [h6,hk0,decide_true,cond_true,Int.reduceEq,decide_false,cond_false]
              exact popF _ _ _ (by omega)
            rw [hp]
            simp only [h6,decide_true,cond_true,Int.reduceEq,decide_false,cond_false]
            have loop : ∀ (k : Nat) (s : σ) (n m : Nat) (l : List UInt8), 0 < k → k ≤ 512 → 600 ≤ m + n → 0 < n → n ≤ 512 → Goes get m (⟨true, 2 * (k : Int), l⟩ :: D) n s (LM (fun s n last => W get f s n (S.length + 1) true last) (fun s n => W get f s n (S.length + 1) false []) k s n l) (pop D) := by
              intro k
              induction k with
              | zero=>intro s n m l h; omega
              | succ k ihk=>
                intro s n m l _ hk2 hm2 hn0 hn2
                obtain ⟨t0,t1⟩:=tmod2 k
                -- the key
                have hr:=ih (⟨true,2 * ((k + 1:Nat):Int),l⟩ :: D) n m s (wsF _ _ _ (by omega) (by omega)) (by simp) (by simp [D2]; omega) hm2 hn2
                have ea:atK (⟨true,2 * ((k + 1:Nat):Int),l⟩ :: D)=true:=by simp only [atK,t0]; rfl
                have el:∀ g:CborFrame,(g :: D).length=S.length + 1:=fun g=>by simp [D2]
                have elst:lst (⟨true,2 * ((k + 1:Nat):Int),l⟩ :: D)=l:=rfl
                have em:∀ y,pop (dcr (mrk y (⟨true,2 * ((k + 1:Nat):Int),l⟩ :: D)))=⟨true,2 * ((k + 1:Nat):Int) - 1,enc y⟩ :: D:=fun y=>by
                  unfold mrk
                  rw [ea]
                  exact popF true (2 * ((k + 1:Nat):Int) - 1) (enc y) (by omega)
                rw [ea,el,elst,em] at hr
                unfold LM
                dsimp only
                generalize hw:W get f s n (S.length + 1) true l=w at hr
                by_cases hw0:w.1=0
                · rw [show decide (w.1=0)=true by simpa using hw0]
                  simp only [cond_true]
                  obtain ⟨i1,i2⟩:=hr.2 hw0
                  obtain ⟨y,r,hy⟩:=W_ne (get:=get) (f:=f) (s:=s) (n:=n) (d:=S.length + 1) (key:=true) (b:=l) (by rw [hw]; exact hw0)
                  rw [hw] at hy
                  have hl1:1 ≤ w.2.1.length:=by rw [hy]; simp
                  generalize hky:enc (w.2.1.headD default)=ky at hr
                  -- the value
                  have hv:=ih (⟨true,2 * ((k + 1:Nat):Int) - 1,ky⟩ :: D) (n + w.2.1.length) (m - w.2.1.length) w.2.2 (wsF _ _ _ (by omega) (by omega)) (by simp) (by simp [D2]; omega) (by omega) (by omega)
                  have eb:atK (⟨true,2 * ((k + 1:Nat):Int) - 1,ky⟩ :: D)=false:=by simp only [atK,t1]; rfl
                  have eWf:∀ (s:σ) (n:Nat) (b:List UInt8),W get f s n (S.length + 1) false b=W get f s n (S.length + 1) false []:=fun s n b=>by
                    cases f with
                    | zero=>rfl
                    | succ f=>
                      unfold W
                      rw [G.free n (S.length + 1) b []]
                  have em2:∀ y,pop (dcr (mrk y (⟨true,2 * ((k + 1:Nat):Int) - 1,ky⟩ :: D)))=pop (⟨true,2 * (k:Int),ky⟩ :: D):=fun y=>by
                    unfold mrk
                    rw [eb]
                    show pop (⟨true,2 * ((k + 1:Nat):Int) - 1 - 1,ky⟩ :: D)=_
                    rw [show 2 * ((k + 1:Nat):Int) - 1 - 1=2 * (k:Int) by omega]
                  rw [eb,el,eWf,em2] at hv
                  generalize hw2:W get f w.2.2 (n + w.2.1.length) (S.length + 1) false []=v at hv
                  by_cases hv0:v.1=0
                  · rw [show decide (v.1=0)=true by simpa using hv0]
                    simp only [cond_true]
                    obtain ⟨p1,p2⟩:=hv.2 hv0
                    refine hr.trans hw0 (hv.trans hv0 ?_)
                    by_cases hk1:0 < k
                    · rw [popF _ _ _ (by omega)]
                      exact ihk v.2.2 (n + w.2.1.length + v.2.1.length) (m - w.2.1.length - v.2.1.length) ky hk1 (by omega) (by omega) (by omega) (by omega)
                    · have:k=0:=by omega
                      subst this
                      rw [show (2 * ((0:Nat):Int))=0 from rfl,popZ]
                      exact Goes.nil (by omega)
                  · rw [show decide (v.1=0)=false by simpa using hv0]
                    exact hr.fail2 hw0 hv hv0
                · rw [show decide (w.1=0)=false by simpa using hw0]
                  exact hr.fail hw0 rfl
            exact loop _ t (n + 1) m [] hk0 hk (by omega) (by omega) (by omega)
          · have hp:psh x D=D:=by
              unfold psh
              simp only [h5,h6,decide_false,cond_false]
              cases decide (0 < x.number.toNat) <;> rfl
            rw [hp]
            simp only [h5,h6,decide_false,cond_false]
            exact Goes.nil (by omega)
      · have hk1:x.number.toNat=0:=by omega
        have hp:psh x D=D:=by
          unfold psh
          simp [hk1]
        rw [hp,hk1]
        have:(bif decide (x.kind=5) then LA (fun s n=>W get f s n (S.length + 1) false []) 0 t (n + 1) else bif decide (x.kind=6) then LM (fun s n last=>W get f s n (S.length + 1) true last) (fun s n=>W get f s n (S.length + 1) false []) 0 t (n + 1) [] else ((0:Int),([]:List ApiItem),t))=(0,[],t):=by
          cases decide (x.kind=5) <;> cases decide (x.kind=6) <;> rfl
        rw [this]
        exact Goes.nil (by omega)
    · rw [show decide (e=0)=false by simpa using he]
      simp only [cond_false]
      refine ⟨fun _=>?_,fun h=>absurd h he⟩
      rw [mach_err hSe hg he]
theorem W_mach {σ:Type} {get:Nat → Nat → Bool → List UInt8 → σ → Int × ApiItem × σ} (G:GetOk get) (f:Nat) (hf:10 ≤ f) (s:σ):((W get f s 0 0 false []).1 ≠ 0 → (mach get 600 [] 0 s).1=(W get f s 0 0 false []).1) ∧ ((W get f s 0 0 false []).1=0 → mach get 600 [] 0 s=W get f s 0 0 false []):=by
  have h:=W_goes G f [] 0 600 s ⟨by simp,trivial,by simp⟩ (fun _=>rfl) (by simpa using hf) (by omega) (by omega)
  refine ⟨fun hw=>h.1 hw,fun hw=>?_⟩
  obtain ⟨h1,h2⟩:=h.2 hw
  obtain ⟨x,r,hx⟩:=W_ne hw
  have:mach get 600 [] 0 s=_:=h2
  rw [this]
  have e:pop (dcr (mrk ((W get f s 0 ([]:List CborFrame).length (atK []) (lst [])).2.1.headD default) []))=[]:=rfl
  rw [e]
  have hl:0 < (W get f s 0 0 false []).2.1.length:=by rw [hx]; simp
  have hl2:0 + (W get f s 0 0 false []).2.1.length ≤ 512:=h1
  show (_,_,_)=_
  have hd:=mach_done (get:=get) (f:=600 - (W get f s 0 0 false []).2.1.length - 1) (n:=0 + (W get f s 0 0 false []).2.1.length) (s:=(W get f s 0 0 false []).2.2) (by omega)
  rw [show 600 - (W get f s 0 0 false []).2.1.length - 1 + 1=600 - (W get f s 0 0 false []).2.1.length by omega] at hd
  have e2:(W get f s 0 ([]:List CborFrame).length (atK []) (lst []))=W get f s 0 0 false []:=rfl
  rw [e2,hd]
  simp only [List.append_nil]
  rw [← hw]
theorem getL_ok:GetOk getL:=by
  constructor
  · intro n d k b s x t h
    cases s with
    | nil=>simp [getL] at h
    | cons y r=>
      simp only [getL,Prod.mk.injEq] at h
      obtain ⟨h1,rfl,rfl⟩:=h
      obtain ⟨c1,c2,c3,c4⟩:=chk_zero h1
      exact ⟨(adm_zero c1).1,(adm_zero c1).2.2.2.2,(big_false c3).2⟩
  · intro n d b b' s
    cases s with
    | nil=>rfl
    | cons y r=>
      have:chk y n d false b=chk y n d false b':=by unfold chk acc; simp
      simp [getL,this]
theorem W_list:∀ (f:Nat) (s:List ApiItem) (n d:Nat) (key:Bool) (b:List UInt8),(W getL f s n d key b).1=0 → s=(W getL f s n d key b).2.1 ++ (W getL f s n d key b).2.2
  | 0,s,n,d,key,b,h=>by simp [W] at h
  | f + 1, s, n, d, key, b, h => by
    have ih:=W_list f
    unfold W at h ⊢
    dsimp only at h ⊢
    rcases hg:getL n d key b s with ⟨e,x,t⟩
    rw [hg] at h
    dsimp only at h ⊢
    by_cases he:e=0
    · subst he
      simp only [decide_true,cond_true] at h ⊢
      have hs:s=x :: t:=by
        cases s with
        | nil=>simp [getL] at hg
        | cons y r=>
          simp only [getL,Prod.mk.injEq] at hg
          rw [hg.2.1,hg.2.2]
      rw [hs,List.cons_append]
      congr 1
      by_cases h5:x.kind=5
      · simp only [h5,decide_true,cond_true] at h ⊢
        have loop:∀ (k:Nat) (t:List ApiItem) (n:Nat),(LA (fun s n=>W getL f s n (d + 1) false []) k t n).1=0 → t=(LA (fun s n=>W getL f s n (d + 1) false []) k t n).2.1 ++ (LA (fun s n=>W getL f s n (d + 1) false []) k t n).2.2:=by
          intro k
          induction k with
          | zero=>intro t n _; rfl
          | succ k ihk=>
            intro t n h
            unfold LA at h ⊢
            have i1:=ih t n (d + 1) false []
            generalize W getL f t n (d + 1) false []=w at h i1 ⊢
            by_cases hw:w.1=0
            · rw [show decide (w.1=0)=true by simpa using hw] at h ⊢
              simp only [cond_true] at h ⊢
              rw [List.append_assoc,← ihk _ _ h]
              exact i1 hw
            · rw [show decide (w.1=0)=false by simpa using hw] at h
              exact absurd h hw
        exact loop _ _ _ h
      · by_cases h6:x.kind=6
        · simp only [h6,decide_true,cond_true,Int.reduceEq,decide_false,cond_false] at h ⊢
          have loop:∀ (k:Nat) (t:List ApiItem) (n:Nat) (l:List UInt8),(LM (fun s n last=>W getL f s n (d + 1) true last) (fun s n=>W getL f s n (d + 1) false []) k t n l).1=0 → t=(LM (fun s n last=>W getL f s n (d + 1) true last) (fun s n=>W getL f s n (d + 1) false []) k t n l).2.1 ++ (LM (fun s n last=>W getL f s n (d + 1) true last) (fun s n=>W getL f s n (d + 1) false []) k t n l).2.2:=by
            intro k
            induction k with
            | zero=>intro t n l _; rfl
            | succ k ihk=>
              intro t n l h
              unfold LM at h ⊢
              dsimp only at h ⊢
              have i1:=ih t n (d + 1) true l
              generalize W getL f t n (d + 1) true l=w at h i1 ⊢
              by_cases hw:w.1=0
              · rw [show decide (w.1=0)=true by simpa using hw] at h ⊢
                simp only [cond_true] at h ⊢
                have i2:=ih w.2.2 (n + w.2.1.length) (d + 1) false []
                generalize W getL f w.2.2 (n + w.2.1.length) (d + 1) false []=v at h i2 ⊢
                by_cases hv:v.1=0
                · rw [show decide (v.1=0)=true by simpa using hv] at h ⊢
                  simp only [cond_true] at h ⊢
                  rw [List.append_assoc,List.append_assoc,← ihk _ _ _ h,← i2 hv]
                  exact i1 hw
                · rw [show decide (v.1=0)=false by simpa using hv] at h
                  exact absurd h hv
              · rw [show decide (w.1=0)=false by simpa using hw] at h
                exact absurd h hw
          exact loop _ _ _ _ h
        · simp only [h5,h6,decide_false,cond_false]
          rfl
    · rw [show decide (e=0)=false by simpa using he] at h
      exact absurd h he
theorem mach_items:∀ (f:Nat) (S:List CborFrame) (n:Nat) (l:List ApiItem),(mach getL f S n l).1=0 → l=(mach getL f S n l).2.1 ++ (mach getL f S n l).2.2 ∧ ∀ x ∈ (mach getL f S n l).2.1,∃ n d k b,chk x n d k b=0
  | 0,S,n,l,h=>by simp [mach] at h
  | f + 1,S,n,l,h=>by
    cases hS:(decide (0 < n) && S.isEmpty)
    · rcases hg:getL n S.length (atK S) (lst S) l with ⟨e,x,t⟩
      by_cases he:e=0
      · subst he
        rw [mach_step hS hg] at h ⊢
        obtain ⟨i1,i2⟩:=mach_items f (nxt x S) (n + 1) t h
        have hs:l=x :: t ∧ chk x n S.length (atK S) (lst S)=0:=by
          cases l with
          | nil=>simp [getL] at hg
          | cons y r=>
            simp only [getL,Prod.mk.injEq] at hg
            obtain ⟨q1,rfl,rfl⟩:=hg
            exact ⟨rfl,q1⟩
        refine ⟨by rw [hs.1,List.cons_append,← i1],fun y hy=>?_⟩
        rcases List.mem_cons.1 hy with rfl | hy
        · exact ⟨_,_,_,_,hs.2⟩
        · exact i2 y hy
      · rw [mach_err hS hg he] at h
        exact absurd h he
    · simp only [Bool.and_eq_true,decide_eq_true_eq,List.isEmpty_iff] at hS
      obtain ⟨q1,rfl⟩:=hS
      rw [mach_done q1]
      exact ⟨rfl,by simp⟩
theorem valO_zero {l:List ApiItem} (h:valO l=0):mach getL 600 [] 0 l=(0,l,[]) ∧ ∀ x ∈ l,kin x ∧ x.data.length ≤ 1024:=by
  unfold valO valE at h
  have hm:=mach_items 600 [] 0 l
  generalize mach getL 600 [] 0 l=m at h hm ⊢
  obtain ⟨e,o,t⟩:=m
  dsimp only at h hm ⊢
  by_cases he:e=0
  · subst he
    cases t with
    | nil=>
      obtain ⟨h1,h2⟩:=hm rfl
      rw [List.append_nil] at h1
      subst h1
      refine ⟨rfl,fun x hx=>?_⟩
      obtain ⟨n,d,k,b,hc⟩:=h2 x hx
      obtain ⟨c1,c2,c3,c4⟩:=chk_zero hc
      exact ⟨kin_of c1 c2,(big_false c3).1⟩
    | cons y r=>simp at h
  · simp [he] at h
def encA (l:List ApiItem):List UInt8:=l.flatMap enc
def encO (l:List ApiItem):List UInt8 × Int:=bif decide (valO l=0) then (encA l,0) else ([],valO l)
theorem enc_len {x:ApiItem} (h:x.data.length ≤ 1024):(enc x).length ≤ 1033:=by
  have:=(hdI_len x).2
  unfold enc
  rw [List.length_append]
  omega
theorem foldl_enc:∀ (l:List ApiItem) (o:List UInt8),l.foldl (fun o x=>o ++ enc x) o=o ++ encA l
  | [],o=>by simp [encA]
  | x :: r,o=>by
    rw [List.foldl_cons,foldl_enc r,List.append_assoc]
    simp [encA]
theorem Encode_ok (l:List ApiItem) (hl:l.length ≤ 600) (hd:∀ x ∈ l,x.data.length < 100000):Zcb l=some ((),(encO l).1,(encO l).2,()):=by
  unfold Zcb encO
  rw [Validate_ok l (by omega) hd]
  simp only [bindS]
  by_cases h:valO l=0
  · obtain ⟨_,hk⟩:=valO_zero h
    simp only [h,decide_true,Bool.not_true,cond_false,cond_true]
    unfold Zcb_L0
    have:=iter_scan (f:=fun (y:((List (UInt8)) × (List (ApiItem)) × Int × Int × Unit))=>Zcb_L0b y.1 y.2.1 y.2.2.1 y.2.2.2.1) (fun i (o:List UInt8)=>(o,l,(l.length:Int),i,())) l (fun _ x o=>.inl (o ++ enc x)) (fun o=>(o,())) (fun i o=>o.length ≤ 1033 * i) ?_ ?_ [] (by simp) rounds (by rw [rounds_eq]; omega)
    · rw [this,scan_fold,foldl_enc]
      rfl
    · intro i x o hx ho
      have hi:i < l.length:=(List.getElem?_eq_some_iff.1 hx).1
      obtain ⟨k1,k2⟩:=hk x (List.mem_of_getElem? hx)
      have he:=enc_len k2
      refine ⟨?_,fun a' ha=>?_⟩
      · dsimp only
        unfold Zcb_L0b
        have eg:getI l (i:Int)=some x:=by unfold getI; simp [hx]
        rw [show decide ((i:Int) < (l.length:Int))=true by simp; omega,eg,wrap_id (n:=(i:Int) + 1) (by omega) (by omega)]
        simp only [cond_true,bindS]
        rw [appendItem_ok o x k1 (by omega) (by omega)]
        rfl
      · cases ha
        rw [List.length_append]
        omega
    · intro o _
      dsimp only
      unfold Zcb_L0b
      rw [show decide ((l.length:Int) < (l.length:Int))=false by simp]
      rfl
  · simp [h]
theorem mask (a:Int) (m:Nat) (hm:m < 10000000):∃ k:Nat,k ≤ m ∧ IntKind.wrap .i64 ((BitVec.ofInt (IntKind.bits .i64) a &&& BitVec.ofInt (IntKind.bits .i64) (m:Int)).toNat:Int)=(k:Int):=by
  have e:(BitVec.ofInt 64 (m:Int)).toNat=m:=by rw [BitVec.ofInt_natCast,BitVec.toNat_ofNat,Nat.mod_eq_of_lt (by omega)]
  have h:(BitVec.ofInt 64 a &&& BitVec.ofInt 64 (m:Int)).toNat ≤ m:=by
    rw [BitVec.toNat_and,e]; exact Nat.and_le_right
  refine ⟨_,h,?_⟩
  show IntKind.wrap .i64 ((BitVec.ofInt 64 a &&& BitVec.ofInt 64 (m:Int)).toNat:Int)=_
  exact wrap_id (by omega) (by omega)
def VT (h:Nat) (o:List ApiItem):Prop:=∀ (g n dd:Nat) (r:List ApiItem) (b:List UInt8),h ≤ g → n + o.length ≤ 512 → dd + h ≤ 9 → W getL g (o ++ r) n dd false b=(0,o,r)
theorem VT_leaf {x:ApiItem} (h5:x.kind ≠ 5) (h6:x.kind ≠ 6) (hc:∀ n d b,n < 512 → d ≤ 8 → chk x n d false b=0):VT 1 [x]:=by
  intro g n dd r b hg hn hd
  obtain ⟨g,rfl⟩:∃ q,g=q + 1:=⟨g - 1,by omega⟩
  unfold W
  have:=hc n dd b (by simp at hn; omega) (by omega)
  simp [getL,this,h5,h6]
def keysOk:List UInt8 → List ApiItem → Prop
  | _,[]=>True
  | last,x :: r=>isN x.kind=false ∧ (∀ n d,n < 512 → d ≤ 8 → chk x n d true last=0) ∧ keysOk (enc x) r
theorem LM_ok {h g dd:Nat} (hg:h ≤ g) (hg1:1 ≤ g) (hd:dd + 1 + h ≤ 9) (hd8:dd + 1 ≤ 8):∀ (ks:List ApiItem) (os:List (List ApiItem)) (r:List ApiItem) (n:Nat) (last:List UInt8),ks.length=os.length → keysOk last ks → (∀ o ∈ os,VT h o) → n + ((ks.zip os).flatMap fun p=>p.1 :: p.2).length ≤ 512 → LM (fun s n last=>W getL g s n (dd + 1) true last) (fun s n=>W getL g s n (dd + 1) false []) ks.length (((ks.zip os).flatMap fun p=>p.1 :: p.2) ++ r) n last=(0,(ks.zip os).flatMap fun p=>p.1 :: p.2,r)
  | [],os,r,n,last,_,_,_,_=>rfl
  | x :: ks,[],r,n,last,hl,_,_,_=>by cases hl
  | x :: ks,o :: os,r,n,last,hl,hk,H,hn=>by
    obtain ⟨k1,k2,k3⟩:=hk
    simp only [List.zip_cons_cons,List.flatMap_cons,List.length_append,List.length_cons] at hn
    obtain ⟨g,rfl⟩:∃ q,g=q + 1:=⟨g - 1,by omega⟩
    have hkey:∀ s,W getL (g + 1) (x :: s) n (dd + 1) true last=(0,[x],s):=by
      intro s
      unfold W
      simp only [isN,Bool.or_eq_false_iff,decide_eq_false_iff_not] at k1
      simp [getL,k2 n (dd + 1) (by omega) hd8,k1.1,k1.2]
    have h1:=H o (by simp) (g + 1) (n + 1) (dd + 1) (((ks.zip os).flatMap fun p=>p.1 :: p.2) ++ r) [] hg (by omega) (by omega)
    have h2:=LM_ok hg hg1 hd hd8 ks os r (n + 1 + o.length) (enc x) (by simpa using hl) k3 (fun p hp=>H p (by simp [hp])) (by omega)
    simp only [List.length_cons,List.zip_cons_cons,List.flatMap_cons,List.cons_append,List.append_assoc]
    unfold LM
    dsimp only
    rw [hkey]
    simp only [decide_true,cond_true,List.length_cons,List.length_nil,List.headD_cons,Nat.zero_add]
    rw [h1]
    simp only [decide_true,cond_true]
    rw [h2]
    rfl
theorem VT_map {h k:Nat} {ks:List ApiItem} {os:List (List ApiItem)} (hk:ks.length=k) (hl:ks.length=os.length) (hk3:k ≤ 512) (h1:1 ≤ h) (hK:keysOk [] ks) (H:∀ o ∈ os,VT h o):VT (h + 1) (⟨6,BitVec.ofNat 64 k,[]⟩ :: (ks.zip os).flatMap fun p=>p.1 :: p.2):=by
  intro g n dd r b hg hn hd
  obtain ⟨g,rfl⟩:∃ q,g=q + 1:=⟨g - 1,by omega⟩
  simp only [List.length_cons] at hn
  have hkn:(BitVec.ofNat 64 k).toNat=k:=by rw [BitVec.toNat_ofNat,Nat.mod_eq_of_lt (by omega)]
  have hc:chk ⟨6,BitVec.ofNat 64 k,[]⟩ n dd false b=0:=by
    unfold chk adm bad big acc
    dsimp only
    rw [hkn,show decide (512 ≤ n)=false by simp; omega,show decide (8 < dd)=false by simp; omega,show decide (512 < k)=false by simp; omega]
    rfl
  have:=LM_ok (g:=g) (dd:=dd) (by omega) (by omega) (by omega) (by omega) ks os r (n + 1) [] hl hK H (by omega)
  rw [hk] at this
  unfold W
  simp only [List.cons_append,getL,hc,decide_true,decide_false,cond_true,cond_false,hkn,this,Int.reduceEq]
def words:List (List UInt8):=[([]:List UInt8),([97]:List UInt8),([98]:List UInt8),([108,111,103,105,110]:List UInt8),([107,101,121]:List UInt8),([101,120,97,109,112,108,101,46,111,114,103]:List UInt8),([195,169]:List UInt8),([48,49,50,51,52,53,54,55,56,57,48,49,50,51,52,53]:List UInt8)]
theorem words_len:∀ a:Fin 8,(words[a.val]'(by have:=a.isLt; simp only [words,List.length_cons,List.length_nil]; omega)).length ≤ 16:=by decide
theorem Text_ok (n:Int):∃ a b:Fin 8,Zbd n=some ((),words.getD a.val [] ++ words.getD b.val [],()):=by
  obtain ⟨a,ha,ea⟩:=mask n 7 (by omega)
  obtain ⟨b,hb,eb⟩:=mask (Int.fdiv n (2 ^ (min 3 (IntKind.bits .i64)))) 7 (by omega)
  refine ⟨⟨a,by omega⟩,⟨b,by omega⟩,?_⟩
  unfold Zbd
  dsimp only
  rw [show ((7:Nat):Int)=7 from rfl] at ea eb
  rw [ea,eb]
  rw [show (decide ((0:Int) ≤ (a:Int)) && decide ((a:Int) < 8))=true by simp; omega,show (decide ((0:Int) ≤ (b:Int)) && decide ((b:Int) < 8))=true by simp; omega,Int.toNat_natCast,Int.toNat_natCast]
  have w8:∀ c:Nat,c ≤ 7 → ∃ w,words[c]? = some w ∧ w.length ≤ 16:=by
    intro c hc
    have:c < words.length:=by simp [words]; omega
    exact ⟨words[c],by simp [this],words_len ⟨c,by omega⟩⟩
  obtain ⟨wa,qa,la⟩:=w8 a ha
  obtain ⟨wb,qb,lb⟩:=w8 b hb
  have qa':([([]:List UInt8),([97]:List UInt8),([98]:List UInt8),([108,111,103,105,110]:List UInt8),([107,101,121]:List UInt8),([101,120,97,109,112,108,101,46,111,114,103]:List UInt8),([195,169]:List UInt8),([48,49,50,51,52,53,54,55,56,57,48,49,50,51,52,53]:List UInt8)]:List (List UInt8))[a]? = some wa:=qa
  have qb':([([]:List UInt8),([97]:List UInt8),([98]:List UInt8),([108,111,103,105,110]:List UInt8),([107,101,121]:List UInt8),([101,120,97,109,112,108,101,46,111,114,103]:List UInt8),([195,169]:List UInt8),([48,49,50,51,52,53,54,55,56,57,48,49,50,51,52,53]:List UInt8)]:List (List UInt8))[b]? = some wb:=qb
  rw [qa',qb']
  simp only [cond_true,bindS]
  rw [ble_of (by omega),List.getD_eq_getElem?_getD,List.getD_eq_getElem?_getD,qa,qb]
  rfl
theorem text_valid:∀ a b:Fin 8,Lib.validD (words.getD a.val [] ++ words.getD b.val [])=true ∧ (words.getD a.val [] ++ words.getD b.val []).length ≤ 32:=by decide +kernel
theorem chk_leaf {x:ApiItem} {n d:Nat} {b:List UInt8} (h1:1 ≤ x.kind) (h2:x.kind ≤ 8) (h3:bad x=false) (h4:big x=false) (h5:x.kind=4 → Lib.validD x.data=true) (hn:n < 512) (hd:d ≤ 8):chk x n d false b=0:=by
  unfold chk adm acc
  rw [h3,h4,show decide (512 ≤ n)=false by simp; omega,show decide (8 < d)=false by simp; omega,show (decide (1 ≤ x.kind) && decide (x.kind ≤ 8))=true by simp [h1,h2]]
  by_cases hk:x.kind=4
  · rw [h5 hk]; simp
  · simp [hk]
theorem chk_key {x:ApiItem} {n d:Nat} {last:List UInt8} (h1:x.kind=1 ∨ x.kind=4) (h3:bad x=false) (h4:big x=false) (h5:x.kind=4 → Lib.validD x.data=true) (h6:last=[] ∨ lss last (enc x)=true) (hn:n < 512) (hd:d ≤ 8):chk x n d true last=0:=by
  have e6:(true && (!last.isEmpty && !lss last (enc x)))=false:=by
    rcases h6 with rfl | h
    · rfl
    · rw [h]; cases last.isEmpty <;> rfl
  unfold chk adm acc
  rw [h3,h4,show decide (512 ≤ n)=false from decide_eq_false (by omega),show decide (8 < d)=false from decide_eq_false (by omega),e6]
  rcases h1 with hk | hk
  · rw [hk]; rfl
  · rw [h5 hk,hk]; rfl
end Go.Proofs.YtghfcfjnfgmkgaaDoor

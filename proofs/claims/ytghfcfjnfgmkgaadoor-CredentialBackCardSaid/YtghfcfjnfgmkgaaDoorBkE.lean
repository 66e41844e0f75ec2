/- Out of the texts of the other seat of this chapter: the law CredentialBack, plainly; what the law CredentialBack needs. Written by a program. -/
import Derived.Test.YtghfcfjnfgmkgaaDoorBkD
set_option linter.unusedVariables false
set_option linter.unusedSimpArgs false
set_option maxRecDepth 100000
namespace Go.Proofs.YtghfcfjnfgmkgaaDoor
open Go Go.Abs
theorem dW1 (a:BitVec 64):Zbx [a]=some ((),beb a 8,()):=by kernel_rfl
theorem dW2 (a b:BitVec 64):Zbx [a,b]=some ((),beb a 8 ++ beb b 8,()):=by kernel_rfl
def mac (k:BitVec 64) (d:Int) (l:List UInt8):BitVec 64:=Sip.sip k (1#64 + BitVec.ofInt 64 d) l
theorem dMac (k:BitVec 64) (d:Int) (l:List UInt8) (h:l.length < 1000000000):Zcl k d l=some ((),mac k d l,()):=by
  unfold Zcl; rw [Sip.sum_ok _ _ _ h]; rfl
theorem dHash (d:Int) (l:List UInt8) (h:l.length < 1000000000):Zcf d l=some ((),Sip.sip (BitVec.ofInt 64 d) 0#64 l,()):=by
  unfold Zcf; rw [Sip.sum_ok _ _ _ h]; rfl
def drv (k:BitVec 64) (l:List UInt8) (n:Int):BitVec 64:=mac k 4 ((l ++ [0]) ++ beb (BitVec.ofInt 64 n) 8)
theorem drv_len (l:List UInt8) (n:Int):((l ++ [0]) ++ beb (BitVec.ofInt 64 n) 8).length=l.length + 9:=by
  rw [List.length_append,List.length_append,beb_len]; rfl
theorem dDerive (k:BitVec 64) (l:List UInt8) (n:Int) (h:l.length < 1000):Zbs k l n=some ((),drv k l n,()):=by
  unfold Zbs
  rw [show small _ 1=true from small1 (by simp only [List.length_cons,List.length_nil]; omega),cond_true,dW1]
  simp only [bindS]
  rw [show small _ 1=true from small1 (by rw [List.length_append,beb_len]; simp only [List.length_cons,List.length_nil]; omega),cond_true,dMac _ _ _ (by rw [drv_len]; omega)]
  rfl
theorem streamL (k no:BitVec 64) (n:Int) (hn:n ≤ 1024):∀ (m i:Nat) (out:List UInt8) (f:Nat),n ≤ (out.length:Int) + 8 * (m:Int) → out.length ≤ 2000 → i + m ≤ 1000 → m < f →
    ∃ r:List UInt8,iter (fun (y:((BitVec 64) × (BitVec 64) × Int × (List (UInt8)) × (BitVec 64) × Unit))=>Zcg_L0b y.1 y.2.1 y.2.2.1 y.2.2.2.1 y.2.2.2.2.1) f (k,no,n,out,BitVec.ofInt 64 (i:Int),())=some (n,r,()) ∧ n ≤ (r.length:Int):=by
  intro m
  induction m with
  | zero=>
    intro i out f h1 h2 h3 hf
    obtain ⟨f,rfl⟩:∃ g,f=g + 1:=⟨f - 1,by omega⟩
    rw [iter_succ]
    unfold Zcg_L0b
    rw [show decide ((out.length:Int) < n)=false from decide_eq_false (by omega)]
    exact ⟨out,rfl,by omega⟩
  | succ m ih=>
    intro i out f h1 h2 h3 hf
    obtain ⟨f,rfl⟩:∃ g,f=g + 1:=⟨f - 1,by omega⟩
    by_cases hd:(out.length:Int) < n
    · rw [iter_succ]
      obtain ⟨r,r1,r3⟩:=ih (i + 1) (out ++ beb (mac k 5 (beb no 8 ++ beb (BitVec.ofInt 64 (i:Int)) 8)) 8) f (by rw [List.length_append,beb_len]; omega) (by rw [List.length_append,beb_len]; omega) (by omega) (by omega)
      have hb:BitVec.ofInt 64 (i:Int) + 1#64=BitVec.ofInt 64 ((i + 1:Nat):Int):=by
        rw [show ((i + 1:Nat):Int)=(i:Int) + 1 by omega,BitVec.ofInt_add]; rfl
      have e1:Zcg_L0b k no n out (BitVec.ofInt 64 (i:Int))=some (Sum.inl (k,no,n,out ++ beb (mac k 5 (beb no 8 ++ beb (BitVec.ofInt 64 (i:Int)) 8)) 8,BitVec.ofInt 64 ((i + 1:Nat):Int),())):=by
        unfold Zcg_L0b
        rw [decide_eq_true hd,cond_true,dW2]
        simp only [bindS]
        rw [dMac _ _ _ (by rw [List.length_append,beb_len,beb_len]; omega)]
        simp only [bindS]
        rw [dW1]
        simp only [bindS]
        rw [show small _ 1=true from small1 (by rw [beb_len]; omega),cond_true,hb]
      refine ⟨r,?_,r3⟩
      dsimp only
      rw [e1]
      exact r1
    · rw [iter_succ]
      unfold Zcg_L0b
      rw [show decide ((out.length:Int) < n)=false from decide_eq_false hd]
      exact ⟨out,rfl,by omega⟩
def strm (k no:BitVec 64) (n:Nat):List UInt8:=match Zcg k no (n:Int) with
  | some r=>r.2.1
  | none=>[]
theorem Stream_ok (k no:BitVec 64) (n:Nat) (hn:n ≤ 1024):Zcg k no (n:Int)=some ((),strm k no n,()) ∧ (strm k no n).length=n:=by
  obtain ⟨r,r1,r3⟩:=streamL k no (n:Int) (by omega) 128 0 [] rounds (by simp only [List.length_nil]; omega) (by simp) (by omega) (by rw [rounds_eq]; omega)
  have ec:(bif decide ((1024:Int) < (bif decide ((n:Int) < (0:Int)) then (0:Int) else (n:Int))) then (1024:Int) else (bif decide ((n:Int) < (0:Int)) then (0:Int) else (n:Int)))=(n:Int):=by
    rw [decide_eq_false (by omega:¬ (n:Int) < 0),cond_false,decide_eq_false (by omega:¬ (1024:Int) < (n:Int)),cond_false]
  have p1:Zcg k no (n:Int)=some ((),List.take n r,()):=by
    unfold Zcg
    rw [ec]
    dsimp only
    have hw:IntKind.wrap .i64 ((n:Int) + 8)=(n:Int) + 8:=wrap_id (by omega) (by omega)
    rw [hw,show (decide ((0:Int) ≤ (0:Int)) && (decide ((0:Int) ≤ (n:Int) + 8) && decide ((1:Int) * ((n:Int) + 8) ≤ 281474976710656 ∧ (n:Int) + 8 ≤ 9223372036854775807)))=true by simp; omega,cond_true]
    have r1':Zcg_L0 (k,no,(n:Int),List.replicate 0 (0:UInt8),0#64,())=some ((n:Int),r,()):=r1
    rw [r1']
    simp only [bindS]
    rw [decide_eq_true (by omega:(0:Int) ≤ (n:Int)),decide_eq_true r3,Bool.and_self,cond_true,show (n:Int).toNat=n by omega,decide_eq_true (by omega:n ≤ r.length),cond_true]
  have es:strm k no n=List.take n r:=by unfold strm; rw [p1]
  refine ⟨by rw [es]; exact p1,by rw [es,List.length_take]; omega⟩
def xr (a b:UInt8):UInt8:=UInt8.ofBitVec (a.toBitVec ^^^ b.toBitVec)
def mixO (k no:BitVec 64) (l:List UInt8):List UInt8:=List.zipWith xr (strm k no l.length) l
theorem mixL (t:List UInt8) (ht:t.length ≤ 2000):∀ (m i:Nat) (s:List UInt8) (f:Nat),i + m=t.length → s.length=t.length → m < f →
    iter (fun (y:((List (UInt8)) × (List (UInt8)) × Int × Int × Unit))=>Zcs_L0b y.1 y.2.1 y.2.2.1 y.2.2.2.1) f (t,s,(t.length:Int),(i:Int),())=some (s.take i ++ List.zipWith xr (s.drop i) (t.drop i),()):=by
  intro m
  induction m with
  | zero=>
    intro i s f h1 h2 hf
    obtain ⟨f,rfl⟩:∃ g,f=g + 1:=⟨f - 1,by omega⟩
    rw [iter_succ]
    unfold Zcs_L0b
    dsimp only
    rw [decide_eq_false (by omega:¬ (i:Int) < (t.length:Int)),cond_false,List.drop_eq_nil_of_le (by omega:t.length ≤ i),List.take_of_length_le (by omega:s.length ≤ i)]
    simp
  | succ m ih=>
    intro i s f h1 h2 hf
    obtain ⟨f,rfl⟩:∃ g,f=g + 1:=⟨f - 1,by omega⟩
    rw [iter_succ]
    have hs:i < s.length:=by omega
    have ht':i < t.length:=by omega
    have e1:Zcs_L0b t s (t.length:Int) (i:Int)=some (Sum.inl (t,s.set i (xr s[i] t[i]),(t.length:Int),((i + 1:Nat):Int),())):=by
      unfold Zcs_L0b
      rw [decide_eq_true (by omega:(i:Int) < (t.length:Int)),cond_true,decide_eq_true (by omega:(0:Int) ≤ (i:Int)),decide_eq_true (by omega:(i:Int) < (s.length:Int)),Bool.and_self,cond_true,show (i:Int).toNat=i by omega,List.getElem?_eq_getElem hs,getI_nat (List.getElem?_eq_getElem ht')]
      simp only [bindS,cond_true]
      rw [wrap_id (by omega) (by omega)]
      rfl
    dsimp only
    rw [e1]
    have:=ih (i + 1) (s.set i (xr s[i] t[i])) f (by omega) (by rw [List.length_set]; exact h2) (by omega)
    have e2:(s.set i (xr s[i] t[i])).take (i + 1) ++ List.zipWith xr ((s.set i (xr s[i] t[i])).drop (i + 1)) (t.drop (i + 1))=s.take i ++ List.zipWith xr (s.drop i) (t.drop i):=by
      rw [List.drop_set_of_lt (by omega),List.drop_eq_getElem_cons hs,List.drop_eq_getElem_cons ht',List.zipWith_cons_cons]
      have e3:(s.set i (xr s[i] t[i])).take (i + 1)=s.take i ++ [xr s[i] t[i]]:=by
        rw [List.take_add_one,List.take_set_of_le (Nat.le_refl i),List.getElem?_set_self hs]
        rfl
      rw [e3,List.append_assoc]
      rfl
    rw [e2] at this
    exact this
theorem mix_ok (k no:BitVec 64) (l:List UInt8) (hl:l.length ≤ 1024):Zcs k no l=some ((),mixO k no l,()) ∧ (mixO k no l).length=l.length:=by
  obtain ⟨s1,s3⟩:=Stream_ok k no l.length hl
  have m1:Zcs_L0 (l,strm k no l.length,(l.length:Int),((0:Nat):Int),())=some (mixO k no l,()):=by
    have:=mixL l (by omega) l.length 0 (strm k no l.length) rounds (by omega) s3 (by rw [rounds_eq]; omega)
    unfold Zcs_L0
    simpa [mixO] using this
  refine ⟨?_,?_⟩
  · unfold Zcs
    rw [s1]
    simp only [bindS]
    rw [s3]
    exact congrArg (fun q=>Option.bind q _) m1
  · unfold mixO
    rw [List.length_zipWith,s3]
    omega
theorem Concat3 (a b c:List UInt8) (ha:a.length < 100000) (hb:b.length < 100000) (hc:c.length < 100000):Zad [a,b,c]=some ((),a ++ b ++ c,()):=by
  have hr:rounds=1180591620717411303420 + 4:=rfl
  have w:∀ n:Int,0 ≤ n → n < 1000000 → IntKind.wrap .i64 n=n:=fun n h1 h2=>wrap_id (by omega) (by omega)
  have e0:Zad_L0 ([a,b,c],(0:Int),[a,b,c],(3:Int),(0:Int),())=some ([a,b,c],(a.length:Int) + (b.length:Int) + (c.length:Int),()):=by
    unfold Zad_L0
    rw [hr,iter_succ]
    have s1:Zad_L0b [a,b,c] 0 [a,b,c] 3 0=some (Sum.inl ([a,b,c],(a.length:Int),[a,b,c],3,1,())):=by
      unfold Zad_L0b
      rw [show decide ((0:Int) < 3)=true from rfl,cond_true,show getI [a,b,c] (0:Int)=some a from rfl]
      simp only [bindS]
      rw [w _ (by omega) (by omega),decide_eq_false (by omega),cond_false,show IntKind.wrap .i64 ((0:Int) + 1)=1 from rfl,show (0:Int) + (a.length:Int)=(a.length:Int) by omega]
    have s2:Zad_L0b [a,b,c] (a.length:Int) [a,b,c] 3 1=some (Sum.inl ([a,b,c],(a.length:Int) + (b.length:Int),[a,b,c],3,2,())):=by
      unfold Zad_L0b
      rw [show decide ((1:Int) < 3)=true from rfl,cond_true,show getI [a,b,c] (1:Int)=some b from rfl]
      simp only [bindS]
      rw [w _ (by omega) (by omega),decide_eq_false (by omega),cond_false,show IntKind.wrap .i64 ((1:Int) + 1)=2 from rfl]
    have s3:Zad_L0b [a,b,c] ((a.length:Int) + (b.length:Int)) [a,b,c] 3 2=some (Sum.inl ([a,b,c],(a.length:Int) + (b.length:Int) + (c.length:Int),[a,b,c],3,3,())):=by
      unfold Zad_L0b
      rw [show decide ((2:Int) < 3)=true from rfl,cond_true,show getI [a,b,c] (2:Int)=some c from rfl]
      simp only [bindS]
      rw [w _ (by omega) (by omega),decide_eq_false (by omega),cond_false,show IntKind.wrap .i64 ((2:Int) + 1)=3 from rfl]
    dsimp only
    rw [s1]
    simp only [bindS,Sum.elim_inl]
    rw [iter_succ]
    dsimp only
    rw [s2]
    simp only [bindS,Sum.elim_inl]
    rw [iter_succ]
    dsimp only
    rw [s3]
    simp only [bindS,Sum.elim_inl]
    rw [iter_succ]
    have s4:Zad_L0b [a,b,c] ((a.length:Int) + (b.length:Int) + (c.length:Int)) [a,b,c] 3 3=some (Sum.inr ([a,b,c],(a.length:Int) + (b.length:Int) + (c.length:Int),())):=by
      unfold Zad_L0b
      rw [show decide ((3:Int) < 3)=false from rfl,cond_false]
    dsimp only
    rw [s4]
    simp only [bindS,Sum.elim_inr]
  have eg:Zah () ((a.length:Int) + (b.length:Int) + (c.length:Int))=some ((),[],()):=by
    unfold Zah
    rw [decide_eq_false (by omega),cond_false,show (a.length:Int) + (b.length:Int) + (c.length:Int) - 0=(a.length:Int) + (b.length:Int) + (c.length:Int) by omega,w _ (by omega) (by omega)]
    by_cases h:(0:Int) < (a.length:Int) + (b.length:Int) + (c.length:Int)
    · rw [decide_eq_true h,decide_eq_true (by omega),show small _ 1=true from small1 (by omega),decide_eq_true (by omega),decide_eq_true (Nat.zero_le _)]
      rfl
    · rw [decide_eq_false h]
      rfl
  have e2:Zad_L2 ([],[a,b,c],(3:Int),(0:Int),())=some (a ++ b ++ c,()):=by
    unfold Zad_L2
    rw [hr,iter_succ]
    have s1:Zad_L2b [] [a,b,c] 3 0=some (Sum.inl (a,[a,b,c],3,1,())):=by
      unfold Zad_L2b
      rw [show decide ((0:Int) < 3)=true from rfl,cond_true,show getI [a,b,c] (0:Int)=some a from rfl]
      simp only [bindS]
      rw [show small _ 1=true from small1 (by simp only [List.length_nil]; omega),cond_true]
      rfl
    have s2:Zad_L2b a [a,b,c] 3 1=some (Sum.inl (a ++ b,[a,b,c],3,2,())):=by
      unfold Zad_L2b
      rw [show decide ((1:Int) < 3)=true from rfl,cond_true,show getI [a,b,c] (1:Int)=some b from rfl]
      simp only [bindS]
      rw [show small _ 1=true from small1 (by omega),cond_true]
      rfl
    have s3:Zad_L2b (a ++ b) [a,b,c] 3 2=some (Sum.inl (a ++ b ++ c,[a,b,c],3,3,())):=by
      unfold Zad_L2b
      rw [show decide ((2:Int) < 3)=true from rfl,cond_true,show getI [a,b,c] (2:Int)=some c from rfl]
      simp only [bindS]
      rw [show small _ 1=true from small1 (by rw [List.length_append]; omega),cond_true]
      rfl
    dsimp only
    rw [s1]
    simp only [bindS,Sum.elim_inl]
    rw [iter_succ]
    dsimp only
    rw [s2]
    simp only [bindS,Sum.elim_inl]
    rw [iter_succ]
    dsimp only
    rw [s3]
    simp only [bindS,Sum.elim_inl]
    rw [iter_succ]
    have s4:Zad_L2b (a ++ b ++ c) [a,b,c] 3 3=some (Sum.inr (a ++ b ++ c,())):=by
      unfold Zad_L2b
      rw [show decide ((3:Int) < 3)=false from rfl,cond_false]
    dsimp only
    rw [s4]
    simp only [bindS,Sum.elim_inr]
  unfold Zad
  rw [show (([a,b,c]:List (List UInt8)).length:Int)=3 from rfl,e0]
  simp only [bindS]
  rw [eg]
  simp only [bindS]
  rw [show (([a,b,c]:List (List UInt8)).length:Int)=3 from rfl,e2]
  rfl
def tagM (k no:BitVec 64) (bd hid:List UInt8):BitVec 64:=mac k 6 (beb no 8 ++ beb (BitVec.ofInt 64 (bd.length:Int)) 8 ++ bd ++ hid)
def arr8 (m:BitVec 64):Arr8_UInt8:=⟨byt (m >>> 56),byt (m >>> 48),byt (m >>> 40),byt (m >>> 32),byt (m >>> 24),byt (m >>> 16),byt (m >>> 8),byt (m >>> 0)⟩
theorem beb8 (m:BitVec 64):beb m 8=[byt (m >>> 56),byt (m >>> 48),byt (m >>> 40),byt (m >>> 32),byt (m >>> 24),byt (m >>> 16),byt (m >>> 8),byt (m >>> 0)]:=rfl
theorem tag_len (no:BitVec 64) (bd hid:List UInt8):(beb no 8 ++ beb (BitVec.ofInt 64 (bd.length:Int)) 8 ++ bd ++ hid).length=16 + bd.length + hid.length:=by
  rw [List.length_append,List.length_append,List.length_append,beb_len,beb_len]
theorem tag_ok (k no:BitVec 64) (bd hid:List UInt8) (hb:bd.length < 100000) (hh:hid.length < 100000):Zct k no bd hid=some ((),arr8 (tagM k no bd hid),()):=by
  unfold Zct
  dsimp only
  rw [dW2]
  simp only [bindS]
  rw [Concat3 _ _ _ (by rw [List.length_append,beb_len,beb_len]; omega) hb hh]
  simp only [bindS]
  rw [dMac _ _ _ (by rw [tag_len]; omega)]
  simp only [bindS]
  rw [dW1,beb8]
  rfl
def sealO (k no:BitVec 64) (bd l:List UInt8):List UInt8:=beb no 8 ++ mixO k no l ++ beb (tagM k no bd (mixO k no l)) 8
theorem Seal_ok (k no:BitVec 64) (bd l:List UInt8) (hb:bd.length ≤ 1024) (hl:l.length ≤ 1024):Zcr k no bd l=some ((),sealO k no bd l,0,()):=by
  obtain ⟨m1,m3⟩:=mix_ok k no l hl
  unfold Zcr
  rw [decide_eq_false (by omega),cond_false,decide_eq_false (by omega),cond_false,m1]
  simp only [bindS]
  rw [tag_ok _ _ _ _ (by omega) (by omega)]
  simp only [bindS]
  rw [dW1]
  simp only [bindS]
  have ha:([(arr8 (tagM k no bd (mixO k no l))).a0,(arr8 (tagM k no bd (mixO k no l))).a1,(arr8 (tagM k no bd (mixO k no l))).a2,(arr8 (tagM k no bd (mixO k no l))).a3,(arr8 (tagM k no bd (mixO k no l))).a4,(arr8 (tagM k no bd (mixO k no l))).a5,(arr8 (tagM k no bd (mixO k no l))).a6,(arr8 (tagM k no bd (mixO k no l))).a7]:List UInt8)=beb (tagM k no bd (mixO k no l)) 8:=rfl
  rw [ha,Concat3 _ _ _ (by rw [beb_len]; omega) (by omega) (by rw [beb_len]; omega)]
  rfl
def wrp:List UInt8:=[119,114,97,112]
def wkey (master:BitVec 64):BitVec 64:=drv master wrp 0
def rpH (rp:List UInt8):BitVec 64:=Sip.sip (BitVec.ofInt 64 9) 0#64 rp
def bnd (rp:List UInt8):List UInt8:=beb (rpH rp) 8
theorem wrapKey_ok (m:BitVec 64):Zap m=some ((),wkey m,()):=by
  unfold Zap
  rw [dDerive _ _ _ (by simp)]
  rfl
theorem bound_ok (rp:List UInt8) (h:rp.length < 1000000):Zbb rp=some ((),bnd rp,()):=by
  unfold Zbb Zbg
  rw [dHash _ _ (by omega)]
  simp only [bindS]
  rw [dW1]
  rfl
theorem bnd_len (rp:List UInt8):(bnd rp).length=8:=beb_len _ 8
def plainC (c:ApiCredential):List UInt8:=bytC c ++ List.drop (bytC c).length (List.replicate 160 (0:UInt8))
theorem plainC_len {c:ApiCredential} (h:OkC c):(plainC c).length=160:=by
  have:=bytC_len h
  unfold plainC
  rw [List.length_append,List.length_drop,List.length_replicate]
  omega
def idO (master no:BitVec 64) (c:ApiCredential):List UInt8 × Int:=
  bif decide (valC c=0) then (bif c.resident then (strm (drv c.seed [105,100] 0) 0#64 176,0) else (sealO (wkey master) no (bnd c.rP) (plainC c),0)) else ([],valC c)
theorem ID_ok (master no:BitVec 64) (c:ApiCredential) (h1:c.rP.length < 1000000) (h2:c.name.length < 1000000):Zbr master no c=some ((),(idO master no c).1,(idO master no c).2,()):=by
  unfold Zbr idO
  rw [cEncode_ok c h1 h2]
  simp only [bindS]
  unfold encP
  by_cases hv:valC c=0
  · have ho:=valC_zero hv
    have hlen:=bytC_len ho
    rw [decide_eq_true hv]
    simp only [cond_true,decide_true,Bool.not_true,cond_false]
    cases hr:c.resident with
    | true=>
      simp only [cond_true]
      obtain ⟨s1,s3⟩:=Stream_ok (drv c.seed [105,100] 0) 0#64 176 (by omega)
      rw [dDerive _ _ _ (by simp)]
      simp only [bindS]
      rw [show (176:Int)=((176:Nat):Int) from rfl,s1]
      simp only [bindS]
    | false=>
      simp only [cond_false]
      rw [List.length_replicate,decide_eq_true hlen,cond_true,wrapKey_ok master]
      simp only [bindS]
      rw [bound_ok _ h1]
      simp only [bindS]
      have q1:=Seal_ok (wkey master) no (bnd c.rP) (plainC c) (by rw [bnd_len]; omega) (by rw [plainC_len ho]; omega)
      have p1:Zcr (wkey master) no (bnd c.rP) (bytC c ++ List.drop (bytC c).length (List.replicate 160 (0:UInt8)))=_:=q1
      rw [p1]
      rfl
  · rw [decide_eq_false hv]
    simp only [cond_false,decide_false,Bool.not_false,cond_true]
    rw [decide_eq_false hv]
    rfl
theorem sealO_len {k no:BitVec 64} {bd l:List UInt8} (hl:l.length ≤ 1024):(sealO k no bd l).length=16 + l.length:=by
  unfold sealO
  rw [List.length_append,List.length_append,beb_len,beb_len,(mix_ok k no l hl).2]
  omega
theorem list8 {l:List UInt8} (h:l.length=8):∃ a b c d e f g i,l=[a,b,c,d,e,f,g,i]:=by
  match l,h with
  | [a,b,c,d,e,f,g,i],_=>exact ⟨a,b,c,d,e,f,g,i,rfl⟩
theorem openL (k:BitVec 64) (bd box:List UInt8) (a b c d e f g i:UInt8):Zcq_L0 (k,bd,box,0#64,[a,b,c,d,e,f,g,i],(8:Int),(0:Int),())=some (k,bd,box,bev 0#64 [a,b,c,d,e,f,g,i],()):=by kernel_rfl
theorem OpenL_ok (k:BitVec 64) (bd box:List UInt8) {l:List UInt8} (h:l.length=8):Zcq_L0 (k,bd,box,0#64,l,(l.length:Int),(0:Int),())=some (k,bd,box,bev 0#64 l,()):=by
  obtain ⟨a,b,c,d,e,f,g,i,rfl⟩:=list8 h
  exact openL k bd box a b c d e f g i
theorem bev_beb8 (m:BitVec 64):bev 0#64 (beb m 8)=m:=bev_beb m 8 (by omega) (by have:=m.isLt; omega)
def openO (k:BitVec 64) (bd box:List UInt8):List UInt8 × Int:=
  bif decide (box.drop (box.length - 8)=beb (tagM k (bev 0#64 (box.take 8)) bd ((box.take (box.length - 8)).drop 8)) 8) then (mixO k (bev 0#64 (box.take 8)) ((box.take (box.length - 8)).drop 8),0) else ([],14)
theorem Open_ok (k:BitVec 64) (bd box:List UInt8) (hb:bd.length ≤ 1024) (h1:16 ≤ box.length) (h2:box.length ≤ 1040):Zcq k bd box=some ((),(openO k bd box).1,(openO k bd box).2,()):=by
  have hw:IntKind.wrap .i64 ((box.length:Int) - 8)=((box.length - 8:Nat):Int):=by rw [wrap_id (by omega) (by omega)]; omega
  have ht:(((box.length - 8:Nat):Int)).toNat=box.length - 8:=by omega
  have l8:(box.take 8).length=8:=by rw [List.length_take]; omega
  have d8:(box.drop (box.length - 8)).length=8:=by rw [List.length_drop]; omega
  have c1:decide ((0:Int) ≤ ((box.length - 8:Nat):Int))=true:=decide_eq_true (by omega)
  have c2:decide (((box.length - 8:Nat):Int) ≤ (box.length:Int))=true:=decide_eq_true (by omega)
  have c3:decide ((8:Int) ≤ ((box.length - 8:Nat):Int))=true:=decide_eq_true (by omega)
  have hm:((box.take (box.length - 8)).drop 8).length ≤ 1024:=by rw [List.length_drop,List.length_take]; omega
  obtain ⟨m1,m3⟩:=mix_ok k (bev 0#64 (box.take 8)) ((box.take (box.length - 8)).drop 8) hm
  unfold Zcq
  rw [decide_eq_false (by omega),cond_false,decide_eq_false (by omega),cond_false,decide_eq_false (by omega),cond_false,decide_eq_true (by omega),cond_true,OpenL_ok k bd box l8]
  simp only [bindS,hw,ht,c1,c2,c3,Bool.and_self,cond_true]
  obtain ⟨a,b,c,d,e,f,g,i,hd⟩:=list8 d8
  unfold openO
  rw [hd]
  simp only [List.getElem?_cons_zero,List.getElem?_cons_succ,bindS]
  rw [tag_ok _ _ _ _ (by omega) (by omega)]
  simp only [bindS]
  rw [m1]
  generalize tagM k (bev 0#64 (box.take 8)) bd ((box.take (box.length - 8)).drop 8)=t
  have hq:(decide (a=(arr8 t).a0) && (decide (b=(arr8 t).a1) && (decide (c=(arr8 t).a2) && (decide (d=(arr8 t).a3) && (decide (e=(arr8 t).a4) && (decide (f=(arr8 t).a5) && (decide (g=(arr8 t).a6) && (decide (i=(arr8 t).a7) && true))))))))=decide ([a,b,c,d,e,f,g,i]=beb t 8):=by
    rw [Bool.eq_iff_iff]
    simp only [Bool.and_eq_true,decide_eq_true_eq,and_true]
    rw [beb8]
    simp only [List.cons.injEq,and_true]
    exact Iff.rfl
  rw [hq]
  cases decide ([a,b,c,d,e,f,g,i]=beb t 8) with
  | true=>rfl
  | false=>rfl
def zs (l:List UInt8):Bool:=l.all fun x=>decide (x=0)
theorem zs_app (a b:List UInt8):zs (a ++ b)=(zs a && zs b):=List.all_append
theorem trimR:∀ (n:Nat) (l:List UInt8) (f:Nat),l.length=n → n < 100000 → n < f → ∃ r t,iter (fun (y:((List (UInt8)) × UInt8 × Unit))=>Zai_L0b y.1 y.2.1) f (l,0,())=some (r,()) ∧ l=r ++ t ∧ zs t=true ∧ r.length ≤ n ∧ (r ≠ [] → zs r=false):=by
  intro n
  induction n with
  | zero=>
    intro l f h _ hf
    obtain ⟨f,rfl⟩:∃ g,f=g + 1:=⟨f - 1,by omega⟩
    have:l=[]:=List.length_eq_zero_iff.1 h
    subst this
    exact ⟨[],[],rfl,rfl,rfl,Nat.le_refl _,fun h=>absurd rfl h⟩
  | succ n ih=>
    intro l f h hn hf
    obtain ⟨f,rfl⟩:∃ g,f=g + 1:=⟨f - 1,by omega⟩
    rw [iter_succ]
    unfold Zai_L0b
    dsimp only
    have hw:IntKind.wrap .i64 ((l.length:Int) - 1)=((n:Nat):Int):=by rw [wrap_id (by omega) (by omega)]; omega
    have hlt:n < l.length:=by omega
    rw [decide_eq_true (by omega:(0:Int) < (l.length:Int)),cond_true,hw,getI_nat (List.getElem?_eq_getElem hlt)]
    simp only [bindS]
    have hspl:l=l.take n ++ [l[n]]:=by
      have h1:=(List.take_append_drop n l).symm
      rw [List.drop_eq_getElem_cons hlt,List.drop_eq_nil_of_le (by omega)] at h1
      exact h1
    by_cases hz:l[n].toBitVec=(0:UInt8).toBitVec
    · have hz':l[n]=0:=UInt8.toBitVec_inj.1 hz
      rw [decide_eq_true hz,cond_true,decide_eq_true (by omega:(0:Int) ≤ ((n:Nat):Int)),decide_eq_true (by omega:((n:Nat):Int) ≤ (l.length:Int)),Bool.and_self,cond_true,show (((n:Nat):Int)).toNat=n by omega]
      obtain ⟨r,t,h1,h2,h3,h4,h5⟩:=ih (l.take n) f (by rw [List.length_take]; omega) (by omega) (by omega)
      refine ⟨r,t ++ [0],?_,?_,?_,by omega,h5⟩
      · simp only [bindS,Sum.elim_inl]
        exact h1
      · rw [hz'] at hspl
        rw [← List.append_assoc,← h2]
        exact hspl
      · rw [zs_app,h3]; rfl
    · rw [decide_eq_false hz,cond_false]
      refine ⟨l,[],rfl,by simp,rfl,by omega,fun _=>?_⟩
      rw [hspl,zs_app]
      have:zs [l[n]]=false:=by
        unfold zs
        simp only [List.all_cons,List.all_nil,Bool.and_true]
        exact decide_eq_false fun e=>hz (by rw [e])
      rw [this,Bool.and_false]
theorem trimL:∀ (n:Nat) (l:List UInt8) (f:Nat),l.length=n → n < 100000 → n < f → ∃ r,iter (fun (y:((List (UInt8)) × UInt8 × Unit))=>Zam_L0b y.1 y.2.1) f (l,0,())=some (r,()) ∧ (r=[] ↔ zs l=true):=by
  intro n
  induction n with
  | zero=>
    intro l f h _ hf
    obtain ⟨f,rfl⟩:∃ g,f=g + 1:=⟨f - 1,by omega⟩
    have:l=[]:=List.length_eq_zero_iff.1 h
    subst this
    exact ⟨[],rfl,by simp [zs]⟩
  | succ n ih=>
    intro l f h hn hf
    obtain ⟨f,rfl⟩:∃ g,f=g + 1:=⟨f - 1,by omega⟩
    cases l with
    | nil=>cases h
    | cons x r=>
      rw [iter_succ]
      unfold Zam_L0b
      dsimp only
      rw [decide_eq_true (by simp only [List.length_cons]; omega:(0:Int) < ((x :: r).length:Int)),cond_true,show getI (x :: r) (0:Int)=some x from rfl]
      simp only [bindS]
      by_cases hz:x.toBitVec=(0:UInt8).toBitVec
      · have hz':x=0:=UInt8.toBitVec_inj.1 hz
        rw [decide_eq_true hz,cond_true,decide_eq_true (by simp only [List.length_cons]; omega:(1:Int) ≤ ((x :: r).length:Int)),cond_true]
        obtain ⟨q,h1,h2⟩:=ih r f (by simpa using h) (by omega) (by omega)
        refine ⟨q,?_,?_⟩
        · simp only [bindS,Sum.elim_inl]
          exact h1
        · rw [h2,hz']
          simp [zs]
      · rw [decide_eq_false hz,cond_false]
        refine ⟨x :: r,rfl,?_⟩
        have:¬ x=0:=fun e=>hz (by rw [e])
        simp [zs,this]
theorem Trim_ok (l:List UInt8) (hl:l.length < 100000):∃ r,Zch l [0]=some ((),r,()) ∧ (decide ((0:Int) < (r.length:Int)) = !zs l):=by
  unfold Zch
  by_cases h0:l=[]
  · subst h0
    exact ⟨[],rfl,rfl⟩
  · have hp:0 < l.length:=List.length_pos_iff.2 h0
    rw [decide_eq_false (by omega),cond_false,show decide (([0]:List UInt8)=[])=false from rfl,cond_false,show decide ((([0]:List UInt8).length:Int)=1)=true from rfl,cond_true,show getI ([0]:List UInt8) (0:Int)=some 0 from rfl]
    simp only [bindS]
    rw [show decide ((0:UInt8).toBitVec.toNat < (128:UInt8).toBitVec.toNat)=true from rfl,cond_true]
    obtain ⟨r,t,h1,h2,h3,h4,h5⟩:=trimR l.length l rounds rfl hl (by rw [rounds_eq]; omega)
    have e1:Zai l 0=some ((),r,()):=by
      unfold Zai
      have:Zai_L0 (l,0,())=some (r,()):=h1
      rw [this]
      rfl
    rw [e1]
    simp only [bindS]
    obtain ⟨q,g1,g2⟩:=trimL r.length r rounds rfl (by omega) (by rw [rounds_eq]; omega)
    have e2:Zam r 0=some ((),q,()):=by
      unfold Zam
      have:Zam_L0 (r,0,())=some (q,()):=g1
      rw [this]
      simp only [bindS]
      cases q with
      | nil=>rfl
      | cons x q=>rw [decide_eq_false (by simp only [List.length_cons]; omega),cond_false]
    rw [e2]
    refine ⟨q,rfl,?_⟩
    have hz:zs l=zs r:=by rw [h2,zs_app,h3,Bool.and_true]
    rw [hz]
    cases hq:zs r with
    | true=>
      rw [g2.2 hq]
      rfl
    | false=>
      refine decide_eq_true ?_
      have:q ≠ []:=fun e=>by rw [g2.1 e] at hq; cases hq
      have:=List.length_pos_iff.2 this
      omega
open Classical in
noncomputable def padC (p:List UInt8):Option ApiCredential:=if h:∃ c,valC c=0 ∧ ∃ t,p=bytC c ++ t ∧ zs t=true then some h.choose else none
theorem padC_yes {c:ApiCredential} {p t:List UInt8} (h:valC c=0) (hp:p=bytC c ++ t) (ht:zs t=true):padC p=some c:=by
  have he:∃ c,valC c=0 ∧ ∃ t,p=bytC c ++ t ∧ zs t=true:=⟨c,h,t,hp,ht⟩
  unfold padC
  rw [dif_pos he]
  obtain ⟨h1,t2,h2,_⟩:=he.choose_spec
  exact congrArg some (bytC_inj h1 h (h2.symm.trans hp))
theorem padC_no {p:List UInt8} (h:∀ c t,valC c=0 → p=bytC c ++ t → zs t=false):padC p=none:=by
  unfold padC
  rw [dif_neg]
  rintro ⟨c,h1,t,h2,h3⟩
  rw [h c t h1 h2] at h3
  cases h3
def finO (rp:List UInt8):Option ApiCredential → ApiCredential × Int
  | none=>(zC,2)
  | some c=>bif c.resident then (zC,11) else bif !decide (c.rP=rp) then (zC,11) else (c,0)
noncomputable def unwO (master:BitVec 64) (rp id:List UInt8):ApiCredential × Int:=
  bif !decide ((id.length:Int)=176) then (zC,4) else bif !decide ((openO (wkey master) (bnd rp) id).2=0) then (zC,(openO (wkey master) (bnd rp) id).2) else finO rp (padC (openO (wkey master) (bnd rp) id).1)
theorem openO_len {k:BitVec 64} {bd box:List UInt8} (h:box.length=176) (h0:(openO k bd box).2=0):(openO k bd box).1.length=160:=by
  unfold openO at h0 ⊢
  cases hq:decide (box.drop (box.length - 8)=beb (tagM k (bev 0#64 (box.take 8)) bd ((box.take (box.length - 8)).drop 8)) 8) with
  | false=>rw [hq] at h0; cases h0
  | true=>
    rw [cond_true]
    have hl:((box.take (box.length - 8)).drop 8).length=160:=by rw [List.length_drop,List.length_take]; omega
    have:=(mix_ok k (bev 0#64 (box.take 8)) ((box.take (box.length - 8)).drop 8) (by omega)).2
    dsimp only
    omega
theorem cUnwrap_ok (master:BitVec 64) (rp id:List UInt8) (hr:rp.length < 1000000):Zau master rp id=some ((),(unwO master rp id).1,(unwO master rp id).2,()):=by
  unfold Zau unwO
  by_cases h:(id.length:Int)=176
  · rw [decide_eq_true h]
    simp only [Bool.not_true,cond_false]
    rw [wrapKey_ok master]
    simp only [bindS]
    rw [bound_ok rp hr]
    simp only [bindS]
    rw [Open_ok (wkey master) (bnd rp) id (by rw [bnd_len]; omega) (by omega) (by omega)]
    simp only [bindS]
    by_cases he:(openO (wkey master) (bnd rp) id).2=0
    · have hl := openO_len (by omega) he
      rw [decide_eq_true he]
      simp only [Bool.not_true,cond_false]
      generalize (openO (wkey master) (bnd rp) id).1=p at hl ⊢
      rw [Decode_ok p (by omega)]
      simp only [bindS]
      by_cases hd:(decO p).2.2=0
      · obtain ⟨hv,t,hpt,hn⟩:=decO_back hd
        have hle:(encA (decO p).1).length ≤ p.length:=by
          have:=congrArg List.length hpt
          rw [List.length_append] at this
          omega
        have hi:∀ c t',valC c=0 → p=bytC c ++ t' → encA (decO p).1=bytC c:=fun c t' hc e=>by rw [e,bytC_dec hc t']; rfl
        rw [decide_eq_true hd]
        simp only [Bool.not_true,cond_false]
        rw [hn,decide_eq_false (by omega),cond_false,decide_eq_false (by omega),cond_false,decide_eq_true (by omega),decide_eq_true (by omega),Bool.and_self,cond_true,show (((encA (decO p).1).length:Nat):Int).toNat=(encA (decO p).1).length by omega,decide_eq_true hle,cond_true]
        have htk':∀ E:List UInt8,p=E ++ t → List.take E.length p=E ∧ List.drop E.length p=t:=fun E h=>by rw [h]; simp
        obtain ⟨htk,hdr'⟩:=htk' _ hpt
        have hdr:List.take (p.length - (encA (decO p).1).length) (List.drop (encA (decO p).1).length p)=t:=by
          rw [List.take_of_length_le (by rw [List.length_drop]; omega)]
          exact hdr'
        rw [htk,cDecode_ok _ (by omega)]
        simp only [bindS]
        by_cases hc:∃ c,valC c=0 ∧ bytC c=encA (decO p).1
        · obtain ⟨c,hc1,hc2⟩:=hc
          rw [decC_yes hc1 hc2]
          simp only [decide_true,Bool.not_true,cond_false]
          rw [decide_eq_true (by omega:(p.length:Int)=160)]
          simp only [Bool.not_true,cond_false,cond_true]
          rw [decide_eq_true (by omega),cond_true,hdr]
          obtain ⟨r,r1,r2⟩:=Trim_ok t (by
            have:=congrArg List.length hpt
            rw [List.length_append] at this
            omega)
          rw [r1]
          simp only [bindS,r2]
          cases hz:zs t with
          | true=>
            rw [padC_yes hc1 (by rw [hc2]; exact hpt) hz]
            simp only [Bool.not_true,cond_false,finO]
            cases c.resident with
            | true=>rfl
            | false=>
              simp only [cond_false]
              cases decide (c.rP=rp) <;> rfl
          | false=>
            simp only [Bool.not_false,cond_true]
            rw [padC_no fun c' t' h1 h2=>by
              have e1:=hi c' t' h1 h2
              have e2:p=encA (decO p).1 ++ t':=by rw [e1]; exact h2
              have:t'=t:=List.append_cancel_left (e2.symm.trans hpt)
              rw [this]; exact hz]
            rfl
        · rw [decC_no fun c h1 h2=>hc ⟨c,h1,h2⟩]
          rw [padC_no fun c' t' h1 h2=>absurd ⟨c',h1,(hi c' t' h1 h2).symm⟩ hc]
          rfl
      · rw [decide_eq_false hd]
        simp only [Bool.not_false,cond_true]
        rw [padC_no fun c' t' h1 h2=>absurd (by rw [h2,bytC_dec h1 t']) hd]
        rfl
    · rw [decide_eq_false he]
      rfl
  · rw [decide_eq_false h]
    rfl
theorem idO_176 {master no:BitVec 64} {c:ApiCredential} (h:valC c=0):(idO master no c).1.length=176:=by
  unfold idO
  rw [decide_eq_true h,cond_true]
  cases hr:c.resident with
  | true=>
    rw [cond_true]
    have:=(Stream_ok (drv c.seed [105,100] 0) 0#64 176 (by omega)).2
    dsimp only
    omega
  | false=>
    rw [cond_false]
    dsimp only
    rw [sealO_len (by rw [plainC_len (valC_zero h)]; omega),plainC_len (valC_zero h)]
theorem xr_xr (a b:UInt8):xr a (xr a b)=b:=by
  unfold xr
  rw [← UInt8.toBitVec_inj]
  show a.toBitVec ^^^ (a.toBitVec ^^^ b.toBitVec)=b.toBitVec
  rw [← BitVec.xor_assoc,BitVec.xor_self,BitVec.zero_xor]
theorem zip_zip:∀ (s l:List UInt8),s.length=l.length → List.zipWith xr s (List.zipWith xr s l)=l
  | [],[],_=>rfl
  | [],_ :: _,h=>by cases h
  | _ :: _,[],h=>by cases h
  | a :: s,b :: l,h=>by
    simp only [List.zipWith_cons_cons,xr_xr]
    rw [zip_zip s l (by simpa using h)]
theorem mixO_mixO (k no:BitVec 64) (l:List UInt8) (hl:l.length ≤ 1024):mixO k no (mixO k no l)=l:=by
  have h1:=(mix_ok k no l hl).2
  have h2:=(Stream_ok k no l.length hl).2
  unfold mixO at h1 ⊢
  rw [h1]
  exact zip_zip _ _ h2
theorem open_seal (k no:BitVec 64) (bd l:List UInt8) (hl:l.length ≤ 1024):openO k bd (sealO k no bd l)=(l,0):=by
  have hm:=(mix_ok k no l hl).2
  have e:∀ (a m t:List UInt8),a.length=8 → t.length=8 → (a ++ m ++ t).take 8=a ∧ (a ++ m ++ t).drop ((a ++ m ++ t).length - 8)=t ∧ ((a ++ m ++ t).take ((a ++ m ++ t).length - 8)).drop 8=m:=by
    intro a m t ha ht
    have h1:(a ++ m ++ t).length - 8=(a ++ m).length:=by rw [List.length_append,ht]; omega
    refine ⟨?_,?_,?_⟩
    · rw [List.append_assoc,← ha,List.take_left]
    · rw [h1,List.drop_left]
    · rw [h1,List.take_left,← ha,List.drop_left]
  obtain ⟨e1,e2,e3⟩:=e (beb no 8) (mixO k no l) (beb (tagM k no bd (mixO k no l)) 8) (beb_len _ 8) (beb_len _ 8)
  unfold openO sealO
  rw [e1,e2,e3,bev_beb8,decide_eq_true rfl,cond_true,mixO_mixO k no l hl]
theorem zs_rep (n:Nat):zs (List.replicate n 0)=true:=by
  unfold zs
  rw [List.all_eq_true]
  intro x hx
  rw [List.eq_of_mem_replicate hx]
  rfl
theorem CredentialBack_plain (a0 a1:BitVec 64) (a2:Int) (hd:CredentialBack_dom a0 a1 a2):Ok (Zab a0 a1 a2) fun r=>r.2.1=true:=by
  unfold Zab
  obtain ⟨k,hk,e⟩:=mask a2 1048575 (by omega)
  rw [show ((1048575:Nat):Int)=(1048575:Int) from rfl] at e
  rw [e]
  dsimp only
  refine Ok.bind (Ok.mono (Cred_ok k hk) ?_)
  rintro ⟨_,x,_⟩ hx
  dsimp only at *
  have ho:=valC_zero hx
  have hr1:x.rP.length < 1000000:=by have:=ho.rp; omega
  have hr2:x.name.length < 1000000:=by have:=ho.nm; omega
  have h0:∀ m n,(idO m n x).2=0:=by
    intro m n
    unfold idO
    rw [decide_eq_true hx,cond_true]
    cases x.resident <;> rfl
  rw [ID_ok a0 a1 x hr1 hr2]
  simp only [bindS,h0,decide_true,Bool.not_true,cond_false,idO_176 hx]
  rw [show decide (((176:Nat):Int)=176)=true from rfl]
  simp only [Bool.not_true,cond_false]
  cases hres:x.resident with
  | true=>
    simp only [cond_true]
    rw [ID_ok _ _ x hr1 hr2]
    simp only [bindS,h0,decide_true,cond_true]
    have he:(idO a0 a1 x).1=(idO (a0 + 1#64) (a1 + 1#64) x).1:=by
      unfold idO
      rw [decide_eq_true hx,hres]
      simp only [cond_true]
    rw [decide_eq_true he,cond_true]
    exact awakeC
  | false=>
    simp only [cond_false]
    rw [cUnwrap_ok a0 x.rP _ hr1]
    have hu:unwO a0 x.rP (idO a0 a1 x).1=(x,0):=by
      unfold unwO
      rw [idO_176 hx]
      rw [show decide (((176:Nat):Int)=176)=true from rfl]
      simp only [Bool.not_true,cond_false]
      have hi:(idO a0 a1 x).1=sealO (wkey a0) a1 (bnd x.rP) (plainC x):=by
        unfold idO
        rw [decide_eq_true hx,hres]
        rfl
      rw [hi,open_seal _ _ _ _ (by rw [plainC_len ho]; omega)]
      simp only [decide_true,Bool.not_true,cond_false]
      have hp:padC (plainC x)=some x:=by
        refine padC_yes (t:=List.drop (bytC x).length (List.replicate 160 (0:UInt8))) hx rfl ?_
        rw [List.drop_replicate]
        exact zs_rep _
      rw [hp]
      unfold finO
      simp [hres]
    rw [hu]
    simp only [bindS,hres,decide_true,cond_true,beq_self_eq_true,Bool.and_self,Bool.and_true,Bool.true_and]
    exact awakeC
end Go.Proofs.YtghfcfjnfgmkgaaDoor

/- the stream, the mixing and the sealing of both; identifiers; the law CredentialIDs, plainly. No condition. -/
import Derived.Test.YtghfcfjnfgmkgaaGreatDoorCredC
import Derived.Test.YtghfcfjnfgmkgaaGreatDoorCrH
set_option linter.unusedVariables false
set_option linter.unusedSimpArgs false
set_option maxRecDepth 100000
namespace Go.Proofs.YtghfcfjnfgmkgaaGreatDoor
open Go Go.Abs
theorem dW1 (a:BitVec 64):Zdi [a]=some ((),beb a 8,()):=by kernel_rfl
theorem rW1 (a:BitVec 64):passkeyref1_Words [a]=some ((),beb a 8,()):=by kernel_rfl
theorem dW2 (a b:BitVec 64):Zdi [a,b]=some ((),beb a 8 ++ beb b 8,()):=by kernel_rfl
theorem rW2 (a b:BitVec 64):passkeyref1_Words [a,b]=some ((),beb a 8 ++ beb b 8,()):=by kernel_rfl
def mac (k:BitVec 64) (d:Int) (l:List UInt8):BitVec 64:=Sip.sip k (1#64 + BitVec.ofInt 64 d) l
theorem dMac (k:BitVec 64) (d:Int) (l:List UInt8) (h:l.length < 1000000000):Zdw k d l=some ((),mac k d l,()):=by
  unfold Zdw; rw [Sip.sum_ok _ _ _ h]; rfl
theorem rMac (k:BitVec 64) (d:Int) (l:List UInt8) (h:l.length < 1000000000):Zct k d l=some ((),mac k d l,()):=by
  unfold Zct; rw [Sip.refsum_ok _ _ _ h]; rfl
theorem dHash (d:Int) (l:List UInt8) (h:l.length < 1000000000):Zdq d l=some ((),Sip.sip (BitVec.ofInt 64 d) 0#64 l,()):=by
  unfold Zdq; rw [Sip.sum_ok _ _ _ h]; rfl
theorem rHash (d:Int) (l:List UInt8) (h:l.length < 1000000000):Zce d l=some ((),Sip.sip (BitVec.ofInt 64 d) 0#64 l,()):=by
  unfold Zce; rw [Sip.refsum_ok _ _ _ h]; rfl
def drv (k:BitVec 64) (l:List UInt8) (n:Int):BitVec 64:=mac k 4 ((l ++ [0]) ++ beb (BitVec.ofInt 64 n) 8)
theorem drv_len (l:List UInt8) (n:Int):((l ++ [0]) ++ beb (BitVec.ofInt 64 n) 8).length=l.length + 9:=by
  rw [List.length_append,List.length_append,beb_len]; rfl
theorem dDerive (k:BitVec 64) (l:List UInt8) (n:Int) (h:l.length < 1000):Zdd k l n=some ((),drv k l n,()):=by
  unfold Zdd
  rw [show small _ 1=true from small1 (by simp only [List.length_cons,List.length_nil]; omega),cond_true,dW1]
  simp only [bindS]
  rw [show small _ 1=true from small1 (by rw [List.length_append,beb_len]; simp only [List.length_cons,List.length_nil]; omega),cond_true,dMac _ _ _ (by rw [drv_len]; omega)]
  rfl
theorem rDerive (k:BitVec 64) (l:List UInt8) (n:Int) (h:l.length < 1000):Zbf k l n=some ((),drv k l n,()):=by
  unfold Zbf
  rw [show small _ 1=true from small1 (by simp only [List.length_cons,List.length_nil]; omega),cond_true,rW1]
  simp only [bindS]
  rw [show small _ 1=true from small1 (by rw [List.length_append,beb_len]; simp only [List.length_cons,List.length_nil]; omega),cond_true,rMac _ _ _ (by rw [drv_len]; omega)]
  rfl
theorem streamL (k no:BitVec 64) (n:Int) (hn:n ≤ 1024):∀ (m i:Nat) (out:List UInt8) (f:Nat),n ≤ (out.length:Int) + 8 * (m:Int) → out.length ≤ 2000 → i + m ≤ 1000 → m < f →
    ∃ r:List UInt8,iter (fun (y:((BitVec 64) × (BitVec 64) × Int × (List (UInt8)) × (BitVec 64) × Unit))=>Zdr_L0b y.1 y.2.1 y.2.2.1 y.2.2.2.1 y.2.2.2.2.1) f (k,no,n,out,BitVec.ofInt 64 (i:Int),())=some (n,r,()) ∧ iter (fun (y:((BitVec 64) × (BitVec 64) × Int × (List (UInt8)) × Int × Unit))=>Zbi_L0b y.1 y.2.1 y.2.2.1 y.2.2.2.1 y.2.2.2.2.1) f (k,no,n,out,(i:Int),())=some (n,r,()) ∧ n ≤ (r.length:Int):=by
  intro m
  induction m with
  | zero=>
    intro i out f h1 h2 h3 hf
    obtain ⟨f,rfl⟩:∃ g,f=g + 1:=⟨f - 1,by omega⟩
    rw [iter_succ,iter_succ]
    unfold Zdr_L0b Zbi_L0b
    rw [show decide ((out.length:Int) < n)=false from decide_eq_false (by omega)]
    exact ⟨out,rfl,rfl,by omega⟩
  | succ m ih=>
    intro i out f h1 h2 h3 hf
    obtain ⟨f,rfl⟩:∃ g,f=g + 1:=⟨f - 1,by omega⟩
    by_cases hd:(out.length:Int) < n
    · rw [iter_succ,iter_succ]
      obtain ⟨r,r1,r2,r3⟩:=ih (i + 1) (out ++ beb (mac k 5 (beb no 8 ++ beb (BitVec.ofInt 64 (i:Int)) 8)) 8) f (by rw [List.length_append,beb_len]; omega) (by rw [List.length_append,beb_len]; omega) (by omega) (by omega)
      have hw:IntKind.wrap .i64 ((i:Int) + 1)=((i + 1:Nat):Int):=by rw [wrap_id (by omega) (by omega)]; omega
      have hb:BitVec.ofInt 64 (i:Int) + 1#64=BitVec.ofInt 64 ((i + 1:Nat):Int):=by
        rw [show ((i + 1:Nat):Int)=(i:Int) + 1 by omega,BitVec.ofInt_add]; rfl
      have e1:Zdr_L0b k no n out (BitVec.ofInt 64 (i:Int))=some (Sum.inl (k,no,n,out ++ beb (mac k 5 (beb no 8 ++ beb (BitVec.ofInt 64 (i:Int)) 8)) 8,BitVec.ofInt 64 ((i + 1:Nat):Int),())):=by
        unfold Zdr_L0b
        rw [decide_eq_true hd,cond_true,dW2]
        simp only [bindS]
        rw [dMac _ _ _ (by rw [List.length_append,beb_len,beb_len]; omega)]
        simp only [bindS]
        rw [dW1]
        simp only [bindS]
        rw [show small _ 1=true from small1 (by rw [beb_len]; omega),cond_true,hb]
      have e2:Zbi_L0b k no n out (i:Int)=some (Sum.inl (k,no,n,out ++ beb (mac k 5 (beb no 8 ++ beb (BitVec.ofInt 64 (i:Int)) 8)) 8,((i + 1:Nat):Int),())):=by
        unfold Zbi_L0b
        rw [decide_eq_true hd,cond_true,rW2]
        simp only [bindS]
        rw [rMac _ _ _ (by rw [List.length_append,beb_len,beb_len]; omega)]
        simp only [bindS]
        rw [rW1]
        simp only [bindS]
        rw [show small _ 1=true from small1 (by rw [beb_len]; omega),cond_true,hw]
      refine ⟨r,?_,?_,r3⟩
      · dsimp only
        rw [e1]
        exact r1
      · dsimp only
        rw [e2]
        exact r2
    · rw [iter_succ,iter_succ]
      unfold Zdr_L0b Zbi_L0b
      rw [show decide ((out.length:Int) < n)=false from decide_eq_false hd]
      exact ⟨out,rfl,rfl,by omega⟩
def strm (k no:BitVec 64) (n:Nat):List UInt8:=match Zdr k no (n:Int) with
  | some r=>r.2.1
  | none=>[]
theorem Stream_ok (k no:BitVec 64) (n:Nat) (hn:n ≤ 1024):Zdr k no (n:Int)=some ((),strm k no n,()) ∧ Zbi k no (n:Int)=some ((),strm k no n,()) ∧ (strm k no n).length=n:=by
  obtain ⟨r,r1,r2,r3⟩:=streamL k no (n:Int) (by omega) 128 0 [] rounds (by simp only [List.length_nil]; omega) (by simp) (by omega) (by rw [rounds_eq]; omega)
  have ec:(bif decide ((1024:Int) < (bif decide ((n:Int) < (0:Int)) then (0:Int) else (n:Int))) then (1024:Int) else (bif decide ((n:Int) < (0:Int)) then (0:Int) else (n:Int)))=(n:Int):=by
    rw [decide_eq_false (by omega:¬ (n:Int) < 0),cond_false,decide_eq_false (by omega:¬ (1024:Int) < (n:Int)),cond_false]
  have p1:Zdr k no (n:Int)=some ((),List.take n r,()):=by
    unfold Zdr
    rw [ec]
    dsimp only
    have hw:IntKind.wrap .i64 ((n:Int) + 8)=(n:Int) + 8:=wrap_id (by omega) (by omega)
    rw [hw,show (decide ((0:Int) ≤ (0:Int)) && (decide ((0:Int) ≤ (n:Int) + 8) && decide ((1:Int) * ((n:Int) + 8) ≤ 281474976710656 ∧ (n:Int) + 8 ≤ 9223372036854775807)))=true by simp; omega,cond_true]
    have r1':Zdr_L0 (k,no,(n:Int),List.replicate 0 (0:UInt8),0#64,())=some ((n:Int),r,()):=r1
    rw [r1']
    simp only [bindS]
    rw [decide_eq_true (by omega:(0:Int) ≤ (n:Int)),decide_eq_true r3,Bool.and_self,cond_true,show (n:Int).toNat=n by omega,decide_eq_true (by omega:n ≤ r.length),cond_true]
  have p2:Zbi k no (n:Int)=some ((),List.take n r,()):=by
    unfold Zbi
    rw [ec]
    dsimp only
    have r2':Zbi_L0 (k,no,(n:Int),[],0,())=some ((n:Int),r,()):=r2
    rw [r2']
    simp only [bindS]
    rw [decide_eq_true (by omega:(0:Int) ≤ (n:Int)),decide_eq_true r3,Bool.and_self,cond_true,show (n:Int).toNat=n by omega,decide_eq_true (by omega:n ≤ r.length),cond_true]
  have es:strm k no n=List.take n r:=by unfold strm; rw [p1]
  refine ⟨by rw [es]; exact p1,by rw [es]; exact p2,by rw [es,List.length_take]; omega⟩
def xr (a b:UInt8):UInt8:=UInt8.ofBitVec (a.toBitVec ^^^ b.toBitVec)
def mixO (k no:BitVec 64) (l:List UInt8):List UInt8:=List.zipWith xr (strm k no l.length) l
theorem xr_comm (a b:UInt8):xr a b=xr b a:=by unfold xr; rw [BitVec.xor_comm]
theorem mixL (t:List UInt8) (ht:t.length ≤ 2000):∀ (m i:Nat) (s:List UInt8) (f:Nat),i + m=t.length → s.length=t.length → m < f →
    iter (fun (y:((List (UInt8)) × (List (UInt8)) × Int × Int × Unit))=>Zed_L0b y.1 y.2.1 y.2.2.1 y.2.2.2.1) f (t,s,(t.length:Int),(i:Int),())=some (s.take i ++ List.zipWith xr (s.drop i) (t.drop i),()):=by
  intro m
  induction m with
  | zero=>
    intro i s f h1 h2 hf
    obtain ⟨f,rfl⟩:∃ g,f=g + 1:=⟨f - 1,by omega⟩
    rw [iter_succ]
    unfold Zed_L0b
    dsimp only
    rw [decide_eq_false (by omega:¬ (i:Int) < (t.length:Int)),cond_false,List.drop_eq_nil_of_le (by omega:t.length ≤ i),List.take_of_length_le (by omega:s.length ≤ i)]
    simp
  | succ m ih=>
    intro i s f h1 h2 hf
    obtain ⟨f,rfl⟩:∃ g,f=g + 1:=⟨f - 1,by omega⟩
    rw [iter_succ]
    have hs:i < s.length:=by omega
    have ht':i < t.length:=by omega
    have e1:Zed_L0b t s (t.length:Int) (i:Int)=some (Sum.inl (t,s.set i (xr s[i] t[i]),(t.length:Int),((i + 1:Nat):Int),())):=by
      unfold Zed_L0b
      rw [decide_eq_true (by omega:(i:Int) < (t.length:Int)),cond_true,decide_eq_true (by omega:(0:Int) ≤ (i:Int)),decide_eq_true (by omega:(i:Int) < (s.length:Int)),Bool.and_self,cond_true,show (i:Int).toNat=i by omega,List.getElem?_eq_getElem hs,getI_nat (List.getElem?_eq_getElem ht')]
      simp only [bindS,cond_true]
      rw [wrap_id (by omega) (by omega)]
      rfl
    dsimp only
    rw [e1]
    have:=ih (i + 1) (s.set i (xr s[i] t[i])) f (by omega) (by rw [List.length_set]; exact h2) (by omega)
    have e2:(s.set i (xr s[i] t[i])).take (i + 1) ++ List.zipWith xr ((s.set i (xr s[i] t[i])).drop (i + 1)) (t.drop (i + 1))=s.take i ++ List.zipWith xr (s.drop i) (t.drop i):=by
      rw [List.drop_set_of_lt (by omega),List.drop_eq_getElem_cons hs,List.drop_eq_getElem_cons ht',List.zipWith_cons_cons]
      have e3:(s.set i (xr s[i] t[i])).take (i + 1)=s.take i ++ [xr s[i] t[i]]:=by
        rw [List.take_add_one,List.take_set_of_le (Nat.le_refl i),List.getElem?_set_self hs]
        rfl
      rw [e3,List.append_assoc]
      rfl
    rw [e2] at this
    exact this
theorem rmixL (t s:List UInt8) (ht:t.length ≤ 2000) (h2:s.length=t.length):∀ (m i:Nat) (out:List UInt8) (f:Nat),i + m=t.length → out.length=i → m < f →
    iter (fun (y:((List (UInt8)) × (List (UInt8)) × (List (UInt8)) × Int × Unit))=>Zcv_L0b y.1 y.2.1 y.2.2.1 y.2.2.2.1) f (t,s,out,(i:Int),())=some (out ++ List.zipWith xr (s.drop i) (t.drop i),()):=by
  intro m
  induction m with
  | zero=>
    intro i out f h1 h3 hf
    obtain ⟨f,rfl⟩:∃ g,f=g + 1:=⟨f - 1,by omega⟩
    rw [iter_succ]
    unfold Zcv_L0b
    dsimp only
    rw [decide_eq_false (by omega:¬ (i:Int) < (t.length:Int)),cond_false,List.drop_eq_nil_of_le (by omega:t.length ≤ i)]
    simp
  | succ m ih=>
    intro i out f h1 h3 hf
    obtain ⟨f,rfl⟩:∃ g,f=g + 1:=⟨f - 1,by omega⟩
    rw [iter_succ]
    have hs:i < s.length:=by omega
    have ht':i < t.length:=by omega
    have e1:Zcv_L0b t s out (i:Int)=some (Sum.inl (t,s,out ++ [xr s[i] t[i]],((i + 1:Nat):Int),())):=by
      unfold Zcv_L0b
      rw [decide_eq_true (by omega:(i:Int) < (t.length:Int)),cond_true,getI_nat (List.getElem?_eq_getElem ht')]
      simp only [bindS]
      rw [decide_eq_true (by omega:(0:Int) ≤ (i:Int)),decide_eq_true (by omega:(i:Int) < (s.length:Int)),Bool.and_self,cond_true,show (i:Int).toNat=i by omega,List.getElem?_eq_getElem hs]
      simp only [bindS]
      rw [show small _ 1=true from small1 (by simp only [List.length_cons,List.length_nil]; omega),cond_true,wrap_id (by omega) (by omega),xr_comm]
      rfl
    dsimp only
    rw [e1]
    have:=ih (i + 1) (out ++ [xr s[i] t[i]]) f (by omega) (by rw [List.length_append]; simp only [List.length_cons,List.length_nil]; omega) (by omega)
    rw [List.drop_eq_getElem_cons hs,List.drop_eq_getElem_cons ht',List.zipWith_cons_cons]
    rw [List.append_assoc] at this
    exact this
theorem mix_ok (k no:BitVec 64) (l:List UInt8) (hl:l.length ≤ 1024):Zed k no l=some ((),mixO k no l,()) ∧ Zcv k no l=some ((),mixO k no l,()) ∧ (mixO k no l).length=l.length:=by
  obtain ⟨s1,s2,s3⟩:=Stream_ok k no l.length hl
  have m1:Zed_L0 (l,strm k no l.length,(l.length:Int),((0:Nat):Int),())=some (mixO k no l,()):=by
    have:=mixL l (by omega) l.length 0 (strm k no l.length) rounds (by omega) s3 (by rw [rounds_eq]; omega)
    unfold Zed_L0
    simpa [mixO] using this
  have m2:Zcv_L0 (l,strm k no l.length,[],((0:Nat):Int),())=some (mixO k no l,()):=by
    have:=rmixL l (strm k no l.length) (by omega) s3 l.length 0 [] rounds (by omega) rfl (by rw [rounds_eq]; omega)
    unfold Zcv_L0
    simpa [mixO] using this
  refine ⟨?_,?_,?_⟩
  · unfold Zed
    rw [s1]
    simp only [bindS]
    rw [s3]
    exact congrArg (fun q=>Option.bind q _) m1
  · unfold Zcv
    rw [s2]
    simp only [bindS]
    exact congrArg (fun q=>Option.bind q _) m2
  · unfold mixO
    rw [List.length_zipWith,s3]
    omega
theorem Concat3 (a b c:List UInt8) (ha:a.length < 100000) (hb:b.length < 100000) (hc:c.length < 100000):Zah [a,b,c]=some ((),a ++ b ++ c,()):=by
  have hr:rounds=1180591620717411303420 + 4:=rfl
  have w:∀ n:Int,0 ≤ n → n < 1000000 → IntKind.wrap .i64 n=n:=fun n h1 h2=>wrap_id (by omega) (by omega)
  have e0:Zah_L0 ([a,b,c],(0:Int),[a,b,c],(3:Int),(0:Int),())=some ([a,b,c],(a.length:Int) + (b.length:Int) + (c.length:Int),()):=by
    unfold Zah_L0
    rw [hr,iter_succ]
    have s1:Zah_L0b [a,b,c] 0 [a,b,c] 3 0=some (Sum.inl ([a,b,c],(a.length:Int),[a,b,c],3,1,())):=by
      unfold Zah_L0b
      rw [show decide ((0:Int) < 3)=true from rfl,cond_true,show getI [a,b,c] (0:Int)=some a from rfl]
      simp only [bindS]
      rw [w _ (by omega) (by omega),decide_eq_false (by omega),cond_false,show IntKind.wrap .i64 ((0:Int) + 1)=1 from rfl,show (0:Int) + (a.length:Int)=(a.length:Int) by omega]
    have s2:Zah_L0b [a,b,c] (a.length:Int) [a,b,c] 3 1=some (Sum.inl ([a,b,c],(a.length:Int) + (b.length:Int),[a,b,c],3,2,())):=by
      unfold Zah_L0b
      rw [show decide ((1:Int) < 3)=true from rfl,cond_true,show getI [a,b,c] (1:Int)=some b from rfl]
      simp only [bindS]
      rw [w _ (by omega) (by omega),decide_eq_false (by omega),cond_false,show IntKind.wrap .i64 ((1:Int) + 1)=2 from rfl]
    have s3:Zah_L0b [a,b,c] ((a.length:Int) + (b.length:Int)) [a,b,c] 3 2=some (Sum.inl ([a,b,c],(a.length:Int) + (b.length:Int) + (c.length:Int),[a,b,c],3,3,())):=by
      unfold Zah_L0b
      rw [show decide ((2:Int) < 3)=true from rfl,cond_true,show getI [a,b,c] (2:Int)=some c from rfl]
      simp only [bindS]
      rw [w _ (by omega) (by omega),decide_eq_false (by omega),cond_false,show IntKind.wrap .i64 ((2:Int) + 1)=3 from rfl]
    dsimp only
    rw [s1]
    simp only [bindS,Sum.elim_inl]
    rw [iter_succ]
    dsimp only
    rw [s2]
    simp only [bindS,Sum.elim_inl]
    rw [iter_succ]
    dsimp only
    rw [s3]
    simp only [bindS,Sum.elim_inl]
    rw [iter_succ]
    have s4:Zah_L0b [a,b,c] ((a.length:Int) + (b.length:Int) + (c.length:Int)) [a,b,c] 3 3=some (Sum.inr ([a,b,c],(a.length:Int) + (b.length:Int) + (c.length:Int),())):=by
      unfold Zah_L0b
      rw [show decide ((3:Int) < 3)=false from rfl,cond_false]
    dsimp only
    rw [s4]
    simp only [bindS,Sum.elim_inr]
  have eg:Zal () ((a.length:Int) + (b.length:Int) + (c.length:Int))=some ((),[],()):=by
    unfold Zal
    rw [decide_eq_false (by omega),cond_false,show (a.length:Int) + (b.length:Int) + (c.length:Int) - 0=(a.length:Int) + (b.length:Int) + (c.length:Int) by omega,w _ (by omega) (by omega)]
    by_cases h:(0:Int) < (a.length:Int) + (b.length:Int) + (c.length:Int)
    · rw [decide_eq_true h,decide_eq_true (by omega),show small _ 1=true from small1 (by omega),decide_eq_true (by omega),decide_eq_true (Nat.zero_le _)]
      rfl
    · rw [decide_eq_false h]
      rfl
  have e2:Zah_L2 ([],[a,b,c],(3:Int),(0:Int),())=some (a ++ b ++ c,()):=by
    unfold Zah_L2
    rw [hr,iter_succ]
    have s1:Zah_L2b [] [a,b,c] 3 0=some (Sum.inl (a,[a,b,c],3,1,())):=by
      unfold Zah_L2b
      rw [show decide ((0:Int) < 3)=true from rfl,cond_true,show getI [a,b,c] (0:Int)=some a from rfl]
      simp only [bindS]
      rw [show small _ 1=true from small1 (by simp only [List.length_nil]; omega),cond_true]
      rfl
    have s2:Zah_L2b a [a,b,c] 3 1=some (Sum.inl (a ++ b,[a,b,c],3,2,())):=by
      unfold Zah_L2b
      rw [show decide ((1:Int) < 3)=true from rfl,cond_true,show getI [a,b,c] (1:Int)=some b from rfl]
      simp only [bindS]
      rw [show small _ 1=true from small1 (by omega),cond_true]
      rfl
    have s3:Zah_L2b (a ++ b) [a,b,c] 3 2=some (Sum.inl (a ++ b ++ c,[a,b,c],3,3,())):=by
      unfold Zah_L2b
      rw [show decide ((2:Int) < 3)=true from rfl,cond_true,show getI [a,b,c] (2:Int)=some c from rfl]
      simp only [bindS]
      rw [show small _ 1=true from small1 (by rw [List.length_append]; omega),cond_true]
      rfl
    dsimp only
    rw [s1]
    simp only [bindS,Sum.elim_inl]
    rw [iter_succ]
    dsimp only
    rw [s2]
    simp only [bindS,Sum.elim_inl]
    rw [iter_succ]
    dsimp only
    rw [s3]
    simp only [bindS,Sum.elim_inl]
    rw [iter_succ]
    have s4:Zah_L2b (a ++ b ++ c) [a,b,c] 3 3=some (Sum.inr (a ++ b ++ c,())):=by
      unfold Zah_L2b
      rw [show decide ((3:Int) < 3)=false from rfl,cond_false]
    dsimp only
    rw [s4]
    simp only [bindS,Sum.elim_inr]
  unfold Zah
  rw [show (([a,b,c]:List (List UInt8)).length:Int)=3 from rfl,e0]
  simp only [bindS]
  rw [eg]
  simp only [bindS]
  rw [show (([a,b,c]:List (List UInt8)).length:Int)=3 from rfl,e2]
  rfl
def tagM (k no:BitVec 64) (bd hid:List UInt8):BitVec 64:=mac k 6 (beb no 8 ++ beb (BitVec.ofInt 64 (bd.length:Int)) 8 ++ bd ++ hid)
def arr8 (m:BitVec 64):Arr8_UInt8:=⟨byt (m >>> 56),byt (m >>> 48),byt (m >>> 40),byt (m >>> 32),byt (m >>> 24),byt (m >>> 16),byt (m >>> 8),byt (m >>> 0)⟩
theorem beb8 (m:BitVec 64):beb m 8=[byt (m >>> 56),byt (m >>> 48),byt (m >>> 40),byt (m >>> 32),byt (m >>> 24),byt (m >>> 16),byt (m >>> 8),byt (m >>> 0)]:=rfl
theorem tag_len (no:BitVec 64) (bd hid:List UInt8):(beb no 8 ++ beb (BitVec.ofInt 64 (bd.length:Int)) 8 ++ bd ++ hid).length=16 + bd.length + hid.length:=by
  rw [List.length_append,List.length_append,List.length_append,beb_len,beb_len]
theorem tag_ok (k no:BitVec 64) (bd hid:List UInt8) (hb:bd.length < 100000) (hh:hid.length < 100000):Zee k no bd hid=some ((),arr8 (tagM k no bd hid),()):=by
  unfold Zee
  dsimp only
  rw [dW2]
  simp only [bindS]
  rw [Concat3 _ _ _ (by rw [List.length_append,beb_len,beb_len]; omega) hb hh]
  simp only [bindS]
  rw [dMac _ _ _ (by rw [tag_len]; omega)]
  simp only [bindS]
  rw [dW1,beb8]
  rfl
theorem rtag_ok (k no:BitVec 64) (bd hid:List UInt8) (hb:bd.length < 100000) (hh:hid.length < 100000):Zcw k no bd hid=some ((),tagM k no bd hid,()):=by
  unfold Zcw
  dsimp only
  rw [rW2]
  simp only [bindS]
  rw [show small _ 1=true from small1 (by rw [List.length_append,beb_len,beb_len]; omega),cond_true,show small _ 1=true from small1 (by rw [List.length_append,List.length_append,beb_len,beb_len]; omega),cond_true,rMac _ _ _ (by rw [tag_len]; omega)]
  rfl
def sealO (k no:BitVec 64) (bd l:List UInt8):List UInt8:=beb no 8 ++ mixO k no l ++ beb (tagM k no bd (mixO k no l)) 8
theorem Seal_ok (k no:BitVec 64) (bd l:List UInt8) (hb:bd.length ≤ 1024) (hl:l.length ≤ 1024):Zec k no bd l=some ((),sealO k no bd l,0,()) ∧ Zck k no bd l=some ((),sealO k no bd l,0,()):=by
  obtain ⟨m1,m2,m3⟩:=mix_ok k no l hl
  constructor
  · unfold Zec
    rw [decide_eq_false (by omega),cond_false,decide_eq_false (by omega),cond_false,m1]
    simp only [bindS]
    rw [tag_ok _ _ _ _ (by omega) (by omega)]
    simp only [bindS]
    rw [dW1]
    simp only [bindS]
    have ha:([(arr8 (tagM k no bd (mixO k no l))).a0,(arr8 (tagM k no bd (mixO k no l))).a1,(arr8 (tagM k no bd (mixO k no l))).a2,(arr8 (tagM k no bd (mixO k no l))).a3,(arr8 (tagM k no bd (mixO k no l))).a4,(arr8 (tagM k no bd (mixO k no l))).a5,(arr8 (tagM k no bd (mixO k no l))).a6,(arr8 (tagM k no bd (mixO k no l))).a7]:List UInt8)=beb (tagM k no bd (mixO k no l)) 8:=rfl
    rw [ha,Concat3 _ _ _ (by rw [beb_len]; omega) (by omega) (by rw [beb_len]; omega)]
    rfl
  · unfold Zck
    rw [decide_eq_false (by omega),cond_false,decide_eq_false (by omega),cond_false,m2]
    simp only [bindS]
    rw [rW1]
    simp only [bindS]
    rw [show small _ 1=true from small1 (by rw [beb_len]; omega),cond_true,rtag_ok _ _ _ _ (by omega) (by omega)]
    simp only [bindS]
    rw [rW1]
    simp only [bindS]
    rw [show small _ 1=true from small1 (by rw [List.length_append,beb_len,beb_len]; omega),cond_true]
    rfl
def wrp:List UInt8:=[119,114,97,112]
def wkey (master:BitVec 64):BitVec 64:=drv master wrp 0
def rpH (rp:List UInt8):BitVec 64:=Sip.sip (BitVec.ofInt 64 9) 0#64 rp
def bnd (rp:List UInt8):List UInt8:=beb (rpH rp) 8
theorem wrapKey_ok (m:BitVec 64):Zbb m=some ((),wkey m,()) ∧ Zao m=some ((),wkey m,()):=by
  unfold Zbb Zao
  rw [dDerive _ _ _ (by simp),rDerive _ _ _ (by simp)]
  exact ⟨rfl,rfl⟩
theorem bound_ok (rp:List UInt8) (h:rp.length < 1000000):Zca rp=some ((),bnd rp,()):=by
  unfold Zca Zcm
  rw [dHash _ _ (by omega)]
  simp only [bindS]
  rw [dW1]
  rfl
theorem rRPHash_ok (rp:List UInt8) (h:rp.length < 1000000):Zau rp=some ((),rpH rp,()):=by
  unfold Zau
  rw [rHash _ _ (by omega)]
  rfl
theorem bnd_len (rp:List UInt8):(bnd rp).length=8:=beb_len _ 8
def plainC (c:ApiCredential):List UInt8:=bytC c ++ List.drop (bytC c).length (List.replicate 160 (0:UInt8))
theorem plainC_len {c:ApiCredential} (h:OkC c):(plainC c).length=160:=by
  have:=bytC_len h
  unfold plainC
  rw [List.length_append,List.length_drop,List.length_replicate]
  omega
def idO (master no:BitVec 64) (c:ApiCredential):List UInt8 × Int:=
  bif decide (valC c=0) then (bif c.resident then (strm (drv c.seed [105,100] 0) 0#64 176,0) else (sealO (wkey master) no (bnd c.rP) (plainC c),0)) else ([],valC c)
theorem ID_ok (master no:BitVec 64) (c:ApiCredential) (h1:c.rP.length < 1000000) (h2:c.name.length < 1000000):Zdc master no c=some ((),(idO master no c).1,(idO master no c).2,()) ∧ Zcs master no c=some ((),(idO master no c).1,(idO master no c).2,()):=by
  unfold Zdc Zcs idO
  rw [cEncode_ok c h1 h2,rEncodeC_ok c h1 h2]
  simp only [bindS]
  unfold encP
  by_cases hv:valC c=0
  · have ho:=valC_zero hv
    have hlen:=bytC_len ho
    rw [decide_eq_true hv]
    simp only [cond_true,decide_true,Bool.not_true,cond_false]
    cases hr:c.resident with
    | true=>
      simp only [cond_true]
      obtain ⟨s1,s2,s3⟩:=Stream_ok (drv c.seed [105,100] 0) 0#64 176 (by omega)
      rw [dDerive _ _ _ (by simp),rDerive _ _ _ (by simp)]
      simp only [bindS]
      rw [show (176:Int)=((176:Nat):Int) from rfl,s1,s2]
      simp only [bindS,and_self]
    | false=>
      simp only [cond_false]
      rw [List.length_replicate,decide_eq_true hlen,cond_true,(wrapKey_ok master).1,(wrapKey_ok master).2]
      simp only [bindS]
      rw [bound_ok _ h1,rRPHash_ok _ h1]
      simp only [bindS]
      rw [rW1]
      simp only [bindS]
      obtain ⟨q1,q2⟩:=Seal_ok (wkey master) no (bnd c.rP) (plainC c) (by rw [bnd_len]; omega) (by rw [plainC_len ho]; omega)
      have p1:Zec (wkey master) no (bnd c.rP) (bytC c ++ List.drop (bytC c).length (List.replicate 160 (0:UInt8)))=_:=q1
      have p2:Zck (wkey master) no (beb (rpH c.rP) 8) (bytC c ++ List.drop (bytC c).length (List.replicate 160 (0:UInt8)))=_:=q2
      rw [p1,p2]
      exact ⟨rfl,rfl⟩
  · rw [decide_eq_false hv]
    simp only [cond_false,decide_false,Bool.not_false,cond_true]
    rw [decide_eq_false hv]
    exact ⟨rfl,rfl⟩
theorem sealO_len {k no:BitVec 64} {bd l:List UInt8} (hl:l.length ≤ 1024):(sealO k no bd l).length=16 + l.length:=by
  unfold sealO
  rw [List.length_append,List.length_append,beb_len,beb_len,(mix_ok k no l hl).2.2]
  omega
end Go.Proofs.YtghfcfjnfgmkgaaGreatDoor

/- Keys, seals, PINs and tokens of the reference are total. -/
import Derived.Test.YtancibcbaajjkaaGreatDoorMqO
set_option linter.unusedVariables false
set_option linter.unusedSimpArgs false
set_option maxRecDepth 100000
namespace Go.Proofs.YtancibcbaajjkaaGreatDoor
open Go Go.Abs
open _root_.List renaming getElem?_eq_getElem → Qa, length_cons → Qb, length_nil → Qc, length_append → Qd, length_take → Qf
open _root_.Int renaming toNat_natCast → Qe
open _root_.Nat renaming zero_le → Qg
open Go.IntKind renaming wrap → Qh
theorem Vdka (l:List (BitVec 64)) (b:List UInt8) (k:Nat) (hk:k < l.length) (hb:b.length<=100000):Ok (passkeyref1_Words_L2 (l,b,(k:Int),7,())) λz=>∃ b2:List UInt8,z=(l,b2,(k:Int),())/\b2.length=b.length+8:=by
 unfold passkeyref1_Words_L2
 refine Ok.iter (λs=>∃ (m:Int) (b2:List UInt8),-1<=m/\m<=7/\(b2.length:Int)=b.length+(7 - m)/\s=(l,b2,(k:Int),m,())) (λs=>(s.2.2.2.1+1).toNat) ⟨7,b,by omega,by omega,by omega,rfl⟩ (by rw [Vab]; dsimp only; omega) ?_
 rintro s ⟨m,b2,hm,hm2,hl,rfl⟩
 dsimp only
 unfold passkeyref1_Words_L2b
 refine Ok.cond (λhc=>?_) (λhc=>Ok.some ⟨b2,rfl,by have:=of_decide_eq_false hc; omega⟩)
 have hc:=of_decide_eq_true hc
 rw [gIn (Qa hk),bindU]
 dsimp only
 rw [Vac (by simp only [Qb,Qc]; omega) (by omega),cond_true,Vaa (n:=m - 1) (by omega) (by omega)]
 exact Ok.some ⟨⟨m - 1,_,by omega,by omega,by rw [Qd]; simp only [Qb,Qc]; omega,rfl⟩,by dsimp only; omega⟩
theorem Vzb (l:List (BitVec 64)) (hl:l.length<=1000):Ok (passkeyref1_Words l) λr=>r.2.1.length=8 * l.length:=by
 unfold passkeyref1_Words passkeyref1_Words_L0
 refine Ok.bind (Ok.mono (Ok.iter (Q:=λz=>z.1.length=8 * l.length) (λs=>∃ (k:Nat) (b:List UInt8),k<=l.length/\b.length=8 * k/\s=(l,b,(k:Int),())) (λs=>((l.length:Int) - s.2.2.1).toNat) ⟨0,[],by omega,rfl,rfl⟩ (by rw [Vab]; dsimp only; omega) ?_) ?_)
 ·rintro s ⟨k,b,hk,hb,rfl⟩
  dsimp only
  unfold passkeyref1_Words_L0b
  refine Ok.cond (λhc=>?_) (λhc=>Ok.some (by have:=of_decide_eq_false hc; dsimp only; omega))
  have hc:=of_decide_eq_true hc
  refine Ok.bind (Ok.mono (Vdka l b k (by omega) (by omega)) ?_)
  rintro z ⟨b2,rfl,h2⟩
  dsimp only
  rw [Vaa (n:=(k:Int)+1) (by omega) (by omega)]
  exact Ok.some ⟨⟨k+1,b2,by omega,by omega,rfl⟩,by dsimp only; omega⟩
 ·rintro ⟨b,_⟩ hb
  exact Ok.some hb
theorem Vbda (a b:BitVec 64):Ok (Zhi a b) λ_=>True:=by
 unfold Zhi Zhi_L0
 refine Ok.bind (Ok.mono (Ok.iter (Q:=λ_=>True) (λs=>∃ (x y z:BitVec 64) (j:Nat),j<=61/\s=(x,y,z,60 - (j:Int),())) (λs=>(s.2.2.2.1+1).toNat) ⟨_,_,_,0,by omega,rfl⟩ (by rw [Vab]; dsimp only; omega) ?_) λ_ _=>Ok.some trivial)
 rintro s ⟨x,y,z,j,hj,rfl⟩
 dsimp only
 unfold Zhi_L0b
 refine Ok.cond (λhc=>?_) (λ_=>Ok.some trivial)
 have hc:=of_decide_eq_true hc
 rw [Vaa (n:=60 - (j:Int) - 1) (by omega) (by omega)]
 have nx:∀ w,∃ (x2 y2 z2:BitVec 64) (j2:Nat),j2<=61/\(x,y,w,60 - (j:Int) - 1,())=((x2,y2,z2,60 - (j2:Int),()):Y_Zhi_L0):=λw=>⟨x,y,w,j+1,by omega,by rw [show (60:Int) - ((j+1:Nat):Int)=60 - (j:Int) - 1 by omega]⟩
 exact Ok.cond (λ_=>Ok.some ⟨nx _,by dsimp only; omega⟩) (λ_=>Ok.some ⟨nx _,by dsimp only; omega⟩)
theorem Vp9 (a b:BitVec 64):Ok (Zfj a b) λ_=>True:=by
 unfold Zfj Zfj_L0
 refine Ok.bind (Ok.mono (Ok.iter (Q:=λ_=>True) (λs=>∃ (x y z:BitVec 64) (j:Nat),j<=64/\s=(x,y,z,63 - (j:Int),())) (λs=>(s.2.2.2.1+1).toNat) ⟨_,_,_,0,by omega,rfl⟩ (by rw [Vab]; dsimp only; omega) ?_) λ_ _=>Ok.some trivial)
 rintro s ⟨x,y,z,j,hj,rfl⟩
 dsimp only
 unfold Zfj_L0b
 refine Ok.cond (λhc=>?_) (λ_=>Ok.some trivial)
 have hc:=of_decide_eq_true hc
 rw [Vaa (n:=63 - (j:Int) - 1) (by omega) (by omega)]
 have nx:∀ w,∃ (x2 y2 z2:BitVec 64) (j2:Nat),j2<=64/\(x,y,w,63 - (j:Int) - 1,())=((x2,y2,z2,63 - (j2:Int),()):Y_Zfj_L0):=λw=>⟨x,y,w,j+1,by omega,by rw [show (63:Int) - ((j+1:Nat):Int)=63 - (j:Int) - 1 by omega]⟩
 refine Ok.bind (Ok.mono (Vbda _ _) λ_ _=>?_)
 refine Ok.cond (λ_=>Ok.bind (Ok.mono (Vbda _ _) λ_ _=>?_)) (λ_=>?_)
 all_goals exact Ok.some ⟨nx _,by dsimp only; omega⟩
theorem Vfs (a:BitVec 64):Ok (Zbj a) λ_=>True:=by
 unfold Zbj Zcj
 rw [bindU]
 exact Ok.bind (Ok.mono (Vp9 _ _) λ_ _=>Ok.some trivial)
theorem Vnd (a b:BitVec 64):Ok (Zee a b) λ_=>True:=by
 unfold Zee Zcj
 refine Ok.cond (λ_=>Ok.some trivial) λ_=>Ok.cond (λ_=>Ok.some trivial) λ_=>?_
 rw [bindU]
 refine Ok.bind (Ok.mono (Vp9 _ _) λ_ _=>?_)
 rw [rW1,bindU,rHash _ _ (by simp [w8]),bindU]
 exact Ok.some trivial
theorem Vio (a b:BitVec 64) (n:Int):Ok (Zef a b n) λr=>(r.2.1.length:Int)=min (max n 0) 1024:=by
 unfold Zef
 have hm:(bif decide ((1024:Int) < (bif decide (n < (0:Int)) then (0:Int) else n)) then (1024:Int) else (bif decide (n < (0:Int)) then (0:Int) else n))=min (max n 0) 1024:=by
  by_cases h:n < 0
  ·rw [decide_eq_true h,cond_true,show decide ((1024:Int) < 0)=false from rfl,cond_false]; omega
  ·rw [decide_eq_false h,cond_false]
   by_cases h2:1024 < n
   ·rw [decide_eq_true h2,cond_true]; omega
   ·rw [decide_eq_false h2,cond_false]; omega
 rw [hm]
 obtain ⟨m,hm2,hm3⟩:∃ m:Nat,min (max n 0) 1024=(m:Int)/\m<=1024:=⟨(min (max n 0) 1024).toNat,by omega,by omega⟩
 rw [hm2]
 dsimp only
 unfold Zef_L0
 refine Ok.bind (Ok.mono (Ok.iter (Q:=λz=>∃ l:List UInt8,z=((m:Int),l,())/\m<=l.length) (λs=>∃ (k:Nat) (l:List UInt8),l.length=8 * k/\l.length<=m+8/\s=(a,b,(m:Int),l,(k:Int),())) (λs=>((m:Int)+8 - s.2.2.2.1.length).toNat) ⟨0,[],rfl,by simp,rfl⟩ (by rw [Vab]; dsimp only; omega) ?_) ?_)
 ·rintro s ⟨k,l,hl,hl2,rfl⟩
  dsimp only
  unfold Zef_L0b
  refine Ok.cond (λhc=>?_) (λhc=>Ok.some ⟨l,rfl,by have:=of_decide_eq_false hc; omega⟩)
  have hc:=of_decide_eq_true hc
  rw [rW2,bindU,rMac _ _ _ (by simp [w8]),bindU,rW1,bindU]
  dsimp only
  rw [Vac (by simp [w8]; omega) (by omega),cond_true,Vaa (n:=(k:Int)+1) (by omega) (by omega)]
  exact Ok.some ⟨⟨k+1,_,by simp [w8]; omega,by simp [w8]; omega,rfl⟩,by simp [w8]; omega⟩
 ·rintro z ⟨l,rfl,hl⟩
  dsimp only
  rw [decide_eq_true (by omega:0<=(m:Int)),decide_eq_true (by omega:(m:Int)<=(l.length:Int)),decide_eq_true (by omega:(m:Int).toNat<=l.length),show (true&&true)=true from rfl,cond_true,cond_true]
  refine Ok.some ?_
  dsimp only
  rw [Qf]; omega
theorem Vbea (a b:BitVec 64) (l:List UInt8) (hl:l.length<=1024):Ok (Zhk a b l) λr=>r.2.1.length=l.length:=by
 unfold Zhk
 refine Ok.bind (Ok.mono (Vio a b _) ?_)
 rintro ⟨_,st,_⟩ hst
 dsimp only at *
 have hst:st.length=l.length:=by omega
 unfold Zhk_L0
 refine Ok.bind (Ok.mono (Ok.iter (Q:=λz=>z.1.length=l.length) (λs=>∃ (k:Nat) (q:List UInt8),k<=l.length/\q.length=k/\s=(l,st,q,(k:Int),())) (λs=>((l.length:Int) - s.2.2.2.1).toNat) ⟨0,[],by omega,rfl,rfl⟩ (by rw [Vab]; dsimp only; omega) ?_) ?_)
 ·rintro s ⟨k,q,hk,hq,rfl⟩
  dsimp only
  unfold Zhk_L0b
  refine Ok.cond (λhc=>?_) (λhc=>Ok.some (by have:=of_decide_eq_false hc; dsimp only; omega))
  have hc:=of_decide_eq_true hc
  have hkl:k < l.length:=by omega
  have hks:k < st.length:=by omega
  rw [gIn (Qa hkl),bindU,decide_eq_true (by omega:0<=(k:Int)),decide_eq_true (by omega:(k:Int) < (st.length:Int)),show (true&&true)=true from rfl,cond_true,Qe,Qa hks,bindU]
  dsimp only
  rw [Vac (by simp only [Qb,Qc]; omega) (by omega),cond_true,Vaa (n:=(k:Int)+1) (by omega) (by omega)]
  exact Ok.some ⟨⟨k+1,_,by omega,by rw [Qd]; simp only [Qb,Qc]; omega,rfl⟩,by dsimp only; omega⟩
 ·rintro ⟨q,_⟩ hq
  exact Ok.some hq
theorem Vw0 (a b:BitVec 64) (l m:List UInt8) (hl:l.length<=10000) (hm:m.length<=10000):Ok (Zhl a b l m) λ_=>True:=by
 unfold Zhl
 dsimp only
 rw [rW2,bindU]
 dsimp only
 rw [Vac (by simp [w8]; omega) (by omega),cond_true,Vac (by simp [w8]; omega) (by omega),cond_true,rMac _ _ _ (by simp [w8]; omega),bindU]
 exact Ok.some trivial
theorem Vle (a b:BitVec 64) (l m:List UInt8):Ok (Zgl a b l m) λr=>r.2.1.length<=1040/\(m.length<=1024->l.length<=1024->r.2.1.length=m.length+16):=by
 unfold Zgl
 refine Ok.cond (λh=>Ok.some ⟨by simp,λh1=>by have:=of_decide_eq_true h; omega⟩) λh1=>Ok.cond (λh=>Ok.some ⟨by simp,λ_ h2=>by have:=of_decide_eq_true h; omega⟩) λh2=>?_
 have h1:=of_decide_eq_false h1
 have h2:=of_decide_eq_false h2
 refine Ok.bind (Ok.mono (Vbea a b m (by omega)) ?_)
 rintro ⟨_,x,_⟩ hx
 dsimp only at *
 rw [rW1,bindU]
 dsimp only
 rw [Vac (by simp [w8]; omega) (by omega),cond_true]
 refine Ok.bind (Ok.mono (Vw0 a b l x (by omega) (by omega)) ?_)
 rintro ⟨_,t,_⟩ _
 rw [rW1,bindU]
 dsimp only
 rw [Vac (by simp [w8]; omega) (by omega),cond_true]
 exact Ok.some ⟨by simp [w8]; omega,λ_ _=>by simp [w8]; omega⟩
theorem Vqa (a:BitVec 64) (l m:List UInt8):Ok (Zgk a l m) λr=>r.2.1.length<=1024:=by
 unfold Zgk
 have z:∀ e:Int,Ok (some ((),(([]:List UInt8),e,())):Option (Unit×(List UInt8×Int×Unit))) λr=>r.2.1.length<=1024:=λe=>Ok.some (Qg _)
 refine Ok.cond (λ_=>z _) λh1=>Ok.cond (λ_=>z _) λh2=>Ok.cond (λ_=>z _) λh3=>?_
 have h1:=of_decide_eq_false h1
 have h2:=of_decide_eq_false h2
 have h3:=of_decide_eq_false h3
 rw [decide_eq_true (by omega:(8:Int)<=(m.length:Int)),cond_true]
 refine Ok.bind (Ok.mono (Vcv _) ?_)
 rintro ⟨_,w,_⟩ _
 rw [Vaa (n:=(m.length:Int) - 8) (by omega) (by omega),decide_eq_true (by omega:0<=(m.length:Int) - 8),decide_eq_true (by omega:(m.length:Int) - 8<=(m.length:Int)),decide_eq_true (by omega:(8:Int)<=(((m.length:Int) - 8).toNat:Int)),show (true&&true)=true from rfl]
 simp only [cond_true]
 refine Ok.bind (Ok.mono (Vcv _) ?_)
 rintro ⟨_,w2,_⟩ _
 have hx:(List.drop 8 (List.take ((m.length:Int) - 8).toNat m)).length<=1024:=by rw [List.length_drop,Qf]; omega
 refine Ok.bind (Ok.mono (Vw0 _ _ _ _ (by omega) (by omega)) ?_)
 rintro ⟨_,t,_⟩ _
 refine Ok.cond (λ_=>z _) λ_=>?_
 refine Ok.bind (Ok.mono (Vbea _ _ _ hx) ?_)
 rintro ⟨_,x,_⟩ hx2
 exact Ok.some (by dsimp only at *; omega)
theorem Vw1 (a:BitVec 64) (b c:Int):Ok (Zed a b c) λ_=>True:=by
 unfold Zed
 dsimp only
 rw [rW2,bindU,rMac _ _ _ (by simp [w8]),bindU]
 exact Ok.some trivial
theorem Vdla (a b c d:Int) (x:BitVec 64) (h:c<=100):Ok (Zhj a b c d x) λ_=>True:=by
 unfold Zhj Zhj_L0
 have hc:0<=(bif decide (c < (0:Int)) then (0:Int) else c)/\(bif decide (c < (0:Int)) then (0:Int) else c)<=100:=by
  by_cases h:c < 0
  ·rw [decide_eq_true h,cond_true]; omega
  ·rw [decide_eq_false h,cond_false]; omega
 generalize (bif decide (c < (0:Int)) then (0:Int) else c)=c0 at hc
 have hm:(bif decide ((15:Int) < d) then (15:Int) else d)<=15:=by
  by_cases h:15 < d
  ·rw [decide_eq_true h,cond_true]; omega
  ·rw [decide_eq_false h,cond_false]; omega
 refine Ok.bind (Ok.mono (Ok.iter (Q:=λ_=>True) (λs=>∃ (x:BitVec 64) (k:Int),0<=k/\k<=100/\s=(a,b,d,x,k,())) (λs=>(200 - s.2.2.2.2.1).toNat) ⟨x,c0,hc.1,hc.2,rfl⟩ (by rw [Vab]; dsimp only; omega) ?_) λ_ _=>Ok.some trivial)
 rintro s ⟨x,k,hk,hk2,rfl⟩
 dsimp only
 unfold Zhj_L0b
 dsimp only
 refine Ok.cond (λhc=>?_) (λ_=>Ok.some trivial)
 have hc:=of_decide_eq_true hc
 rw [rW4,bindU,rHash _ _ (by simp [w8]),bindU,Vaa (n:=k+1) (by omega) (by omega)]
 exact Ok.some ⟨⟨_,k+1,by omega,by omega,rfl⟩,by dsimp only; omega⟩
theorem Vdma (a:Int) (l:List (BitVec 64)) (hl:l.length<=1000):Ok (Zgm a l) λ_=>True:=by
 unfold Zgm
 rw [rW1,bindU]
 refine Ok.bind (Ok.mono (Vzb l hl) ?_)
 rintro ⟨_,b,_⟩ hb
 dsimp only at *
 rw [Vac (by simp [w8]; omega) (by omega),cond_true,rHash _ _ (by simp [w8]; omega),bindU]
 exact Ok.some trivial
theorem Vdna (a:BitVec 64) (n:Int):Ok (Zgj a n) λ_=>True:=by
 unfold Zgj ZgjG Zgj_L0
 refine Ok.bind (Ok.mono (Ok.iter (Q:=λz=>∃ l:List (BitVec 64),z=(n,l,())/\l.length<=18) (λs=>∃ (k:Nat) (l:List (BitVec 64)),k<=18/\l.length=k/\s=(a,n,l,(k:Int),())) (λs=>((18:Int) - s.2.2.2.1).toNat) ⟨0,[],by omega,rfl,rfl⟩ (by rw [Vab]; dsimp only; omega) ?_) ?_)
 ·rintro s ⟨k,l,hk,hl,rfl⟩
  dsimp only
  unfold Zgj_L0b
  refine Ok.cond (λhc=>?_) (λhc=>Ok.some ⟨l,rfl,by omega⟩)
  have hc:=of_decide_eq_true hc
  refine Ok.bind (Ok.mono (Vw1 _ _ _) ?_)
  rintro ⟨_,s,_⟩ _
  refine Ok.bind (Ok.mono (Vdla _ _ _ _ _ (by omega)) ?_)
  rintro ⟨_,x,_⟩ _
  dsimp only
  rw [Vac (by simp only [Qb,Qc]; omega) (by omega),cond_true,Vaa (n:=(k:Int)+1) (by omega) (by omega)]
  exact Ok.some ⟨⟨k+1,_,by omega,by rw [Qd]; simp only [Qb,Qc]; omega,rfl⟩,by dsimp only; omega⟩
 ·rintro z ⟨l,rfl,hl⟩
  dsimp only
  exact Ok.bind (Ok.mono (Vdma _ _ (by omega)) λ_ _=>Ok.some trivial)
theorem Vok (a:BitVec 64):∀ (n k:Nat) (i:Int),k < n->n<=100->Ok (Zgn_n n a (k:Int) i) λ_=>True
 | 0,k,i,h,hn=>by omega
 | n+1,k,i,h,hn=>by
  show Ok (Zgn_R (Zgn_n n) a (k:Int) i) _
  unfold Zgn_R
  refine Ok.cond (λ_=>Ok.bind (Ok.mono (Vdna _ _) λ_ _=>Ok.some trivial)) λhc=>?_
  have hc:=of_decide_eq_false hc
  rw [Vaa (n:=(k:Int) - 1) (by omega) (by omega),show (k:Int) - 1=((k - 1:Nat):Int) by omega]
  refine Ok.bind (Ok.mono (Vok a n (k - 1) _ (by omega) (by omega)) λ_ _=>?_)
  refine Ok.bind (Ok.mono (Vok a n (k - 1) _ (by omega) (by omega)) λ_ _=>?_)
  unfold Zeh
  rw [rW3,bindU,rHash _ _ (by simp [w8]),bindU,bindU]
  exact Ok.some trivial
theorem Vip (n:Int):Zeg n=some ((),(decide (0<=n)&&decide (n<=4)),()):=by
 unfold Zeg
 cases decide (0<=n)<;>rfl
theorem Vw2 (a:BitVec 64) (n:Int):Ok (Zec a n) λr=>0<=r.2.1.jc/\r.2.1.jc<=4:=by
 unfold Zec
 rw [Vip,bindU]
 dsimp only
 refine Ok.cond (λ_=>Ok.some ⟨by dsimp only; omega,by dsimp only; omega⟩) λh=>?_
 have h:0<=n/\n<=4:=by
  have:(decide (0<=n)&&decide (n<=4))=true:=by revert h; cases (decide (0<=n)&&decide (n<=4))<;>simp
  simpa using this
 unfold Zgn
 rw [show n=(n.toNat:Int) by omega]
 refine Ok.bind (Ok.mono (Vok a 8 n.toNat 0 (by omega) (by omega)) λ_ _=>Ok.some ⟨by dsimp only; omega,by dsimp only; omega⟩)
theorem Vgi (k:Jt):Ok (Zbx k) λr=>r.2.1.length<=9:=by
 unfold Zbx
 rw [Vip,bindU]
 refine Ok.cond (λ_=>Ok.some (Qg _)) λ_=>?_
 dsimp only
 rw [rW1,bindU]
 dsimp only
 rw [Vac (by simp [w8]) (by omega),cond_true]
 exact Ok.some (by simp [w8])
theorem Vne (l:List UInt8):Ok (Zbw l) λr=>r.2.2.1=0->0<=r.2.1.jc/\r.2.1.jc<=4:=by
 unfold Zbw
 refine Ok.cond (λ_=>Ok.some λh=>by cases h) λh=>?_
 have h:l.length=9:=by
  have:decide ((l.length:Int)=(9:Int))=true:=by revert h; cases decide ((l.length:Int)=(9:Int))<;>simp
  have:=of_decide_eq_true this
  omega
 have g0:getI l 0=some (l[0]'(by omega)):=gIn (i:=0) (Qa (by omega))
 rw [g0,bindU,Vip,bindU]
 dsimp only
 refine Ok.cond (λ_=>Ok.some λh=>by cases h) λh2=>?_
 have h2:(decide (0<=((l[0]'(by omega)).toBitVec.toNat:Int))&&decide (((l[0]'(by omega)).toBitVec.toNat:Int)<=4))=true:=by revert h2; cases (decide (0<=((l[0]'(by omega)).toBitVec.toNat:Int))&&decide (((l[0]'(by omega)).toBitVec.toNat:Int)<=4))<;>simp
 simp only [Bool.and_eq_true,decide_eq_true_eq] at h2
 rw [bindU,decide_eq_true (by omega:(1:Int)<=(l.length:Int)),cond_true]
 refine Ok.bind (Ok.mono (Vcv _) ?_)
 rintro ⟨_,w,_⟩ _
 exact Ok.some λ_=>h2
theorem Vgb (l:List UInt8) (hl:l.length<=100000):Ok (Zcc l) λ_=>True:=by
 unfold Zcc
 rw [rHash _ _ (by omega),bindU]
 exact Ok.some trivial
theorem Viq (a b:BitVec 64):Ok (Zbr a b) λ_=>True:=by
 unfold Zbr
 rw [rW1,bindU,rMac _ _ _ (by simp [w8]),bindU]
 exact Ok.some trivial
theorem Vjy (a b:BitVec 64) (l:List UInt8):Ok (Zce a b l) λr=>r.2.1.length<=1040/\(l.length<=63->r.2.1.length=80):=by
 unfold Zce
 refine Ok.cond (λh=>Ok.some ⟨by simp,λh1=>by have:=of_decide_eq_true h; omega⟩) λh=>?_
 have h:=of_decide_eq_false h
 dsimp only
 rw [decide_eq_true (by simp; omega),cond_true]
 refine Ok.bind (Ok.mono (Vle _ _ _ _) ?_)
 rintro ⟨_,x,e,_⟩ ⟨h1,h2⟩
 dsimp only at *
 have hl:(l++List.drop l.length (List.replicate 64 (0:UInt8))).length=64:=by simp; omega
 rw [hl] at h2
 exact Ok.some ⟨h1,λ_=>h2 (by omega) (by simp)⟩
theorem Ve3 (a b c:BitVec 64):Ok (Zbt a b c) λr=>r.2.1.length=24:=by
 unfold Zbt
 rw [rW1,bindU]
 refine Ok.bind (Ok.mono (Vle _ _ _ _) ?_)
 rintro ⟨_,x,e,_⟩ ⟨h1,h2⟩
 exact Ok.some (h2 (by simp [w8]) (by simp))
theorem Vol (a:BitVec 64) (l:List UInt8):Ok (Zbs a l) λ_=>True:=by
 unfold Zbs
 refine Ok.bind (Ok.mono (Vqa _ _ _) ?_)
 rintro ⟨_,x,e,_⟩ _
 refine Ok.cond (λ_=>Ok.some trivial) λ_=>Ok.cond (λ_=>Ok.some trivial) λ_=>?_
 exact Ok.bind (Ok.mono (Vcv _) λ_ _=>Ok.some trivial)
theorem Vrc (a:BitVec 64) (l:List UInt8):Ok (Zcd a l) λr=>r.2.1.length<=64:=by
 unfold Zcd
 refine Ok.bind (Ok.mono (Vqa _ _ _) ?_)
 rintro ⟨_,x,e,_⟩ hx
 dsimp only at *
 have z:∀ e:Int,Ok (some ((),(([]:List UInt8),e,())):Option (Unit×(List UInt8×Int×Unit))) λr=>r.2.1.length<=64:=λe=>Ok.some (Qg _)
 refine Ok.cond (λ_=>z _) λ_=>?_
 unfold Zcd_L0
 refine Ok.bind (Ok.mono (Ok.iter (Q:=λz=>∃ n:Nat,z=(x,(n:Int),())/\n<=x.length) (λs=>∃ k:Nat,k<=x.length/\s=(x,(k:Int),())) (λs=>((x.length:Int) - s.2.1).toNat) ⟨0,by omega,rfl⟩ (by rw [Vab]; dsimp only; omega) ?_) ?_)
 ·rintro s ⟨k,hk,rfl⟩
  dsimp only
  unfold Zcd_L0b
  refine Ok.cond (λhc=>?_) (λ_=>Ok.some ⟨k,rfl,hk⟩)
  have hc:=of_decide_eq_true hc
  have hkx:k < x.length:=by omega
  rw [decide_eq_true (by omega:0<=(k:Int)),decide_eq_true hc,show (true&&true)=true from rfl,cond_true,Qe,Qa hkx,bindU,Vaa (n:=(k:Int)+1) (by omega) (by omega)]
  exact Ok.cond (λ_=>Ok.some ⟨⟨k+1,hkx,rfl⟩,by dsimp only; omega⟩) λ_=>Ok.some ⟨k,rfl,hk⟩
 rintro q ⟨n,rfl,hn⟩
 dsimp only
 refine Ok.cond (λ_=>z _) λh64=>Ok.cond (λ_=>z _) λ_=>?_
 have h64:x.length=64:=by
  have:decide ((x.length:Int)=(64:Int))=true:=by revert h64; cases decide ((x.length:Int)=(64:Int))<;>simp
  have:=of_decide_eq_true this
  omega
 unfold Zcd_L2
 refine Ok.bind (Ok.mono (Ok.iter (Q:=λz=>(∃ e,z=Sum.inl (([]:List UInt8),e,()))\/z=Sum.inr (x,(n:Int),())) (λs=>∃ k:Nat,k<=x.length/\s=(x,(n:Int),(k:Int),())) (λs=>((x.length:Int) - s.2.2.1).toNat) ⟨n,hn,rfl⟩ (by rw [Vab]; dsimp only; omega) ?_) ?_)
 ·rintro s ⟨k,hk,rfl⟩
  dsimp only
  unfold Zcd_L2b
  refine Ok.cond (λhc=>?_) (λ_=>Ok.some (.inr rfl))
  have hc:=of_decide_eq_true hc
  have hkx:k < x.length:=by omega
  rw [decide_eq_true (by omega:0<=(k:Int)),decide_eq_true hc,show (true&&true)=true from rfl,cond_true,Qe,Qa hkx,bindU,Vaa (n:=(k:Int)+1) (by omega) (by omega)]
  exact Ok.cond (λ_=>Ok.some (.inl ⟨_,rfl⟩)) λ_=>Ok.some ⟨⟨k+1,hkx,rfl⟩,by dsimp only; omega⟩
 ·rintro q (⟨e,rfl⟩ | rfl)
  ·exact z _
  ·simp only [Sum.elim_inr]
   rw [decide_eq_true (by omega:0<=(n:Int)),decide_eq_true (by omega:(n:Int)<=(x.length:Int)),decide_eq_true (by omega:(n:Int).toNat<=x.length),show (true&&true)=true from rfl,cond_true,cond_true]
   exact Ok.some (by dsimp only; rw [Qf]; omega)
theorem Vw3 (p:Jq):Ok (Zct p) λ_=>True:=by
 unfold Zct
 exact Ok.cond (λ_=>Ok.some trivial) λ_=>Ok.cond (λ_=>Ok.some trivial) λ_=>Ok.cond (λ_=>Ok.some trivial) λ_=>Ok.some trivial
theorem Vw4 (p:Jq) (b:Bool):Ok (Zcu p b) λ_=>True:=by
 unfold Zcu
 refine Ok.cond (λ_=>Ok.some trivial) λ_=>Ok.bind (Ok.cond (λ_=>Ok.some ?_) λ_=>Ok.some ?_)
 all_goals exact Ok.cond (λ_=>Ok.some trivial) λ_=>Ok.cond (λ_=>Ok.some trivial) λ_=>Ok.some trivial
theorem Vgj (a b:BitVec 64):Ok (Zbf a b) λ_=>True:=by
 unfold Zbf
 rw [rW1,bindU,rMac _ _ _ (by simp [w8]),bindU]
 exact Ok.some trivial
theorem Vi3 (t:Jw) (a b:Int) (l:List UInt8) (x y:BitVec 64):Ok (Zan t a b l x y) λ_=>True:=by
 unfold Zan
 refine Ok.bind (Ok.mono (Q:=λ_=>True) (Ok.cond (λ_=>Ok.some trivial) (λ_=>Ok.some trivial)) λj _=>?_)
 dsimp only
 repeat' first
  | with_reducible exact Ok.some trivial
  | with_reducible refine Ok.cond (λ_=>?_) (λ_=>?_)
  | with_reducible refine Ok.bind (Ok.mono (Vgj _ _) λ_ _=>?_)
theorem Vffa (t:Jw) (a:Int):Ok (Zfw t a) λ_=>True:=by
 unfold Zfw
 exact Ok.cond (λ_=>Ok.some trivial) λ_=>Ok.cond (λ_=>Ok.some trivial) λ_=>Ok.cond (λ_=>Ok.some trivial) λ_=>Ok.some trivial
theorem Vzc (t:Jw) (v:BitVec 64) (a:Int) (l:List UInt8) (b:Int):Ok (Zdq t v a l b) λ_=>True:=by
 unfold Zdq
 repeat' refine Ok.cond (λ_=>?_) (λ_=>?_)
 all_goals exact Ok.some trivial
theorem Vdoa (n:Int) (f v:Bool) (g:List Jl) (hg:g.length<=1000000) (c:Jo) (at_:Int):Ok (Zdp_L2 (n,f,v,g,(c,()),at_,0,())) λz=>(∃ c2 e,z=Sum.inl ((c2,()),e,())/\(e=0->c2.at_=at_))\/z=Sum.inr (n,f,v,g,(c,()),at_,()):=by
 unfold Zdp_L2
 refine Ok.iter (λs=>∃ k:Nat,k<=g.length/\s=(n,f,v,g,(c,()),at_,(k:Int),())) (λs=>((g.length:Int) - s.2.2.2.2.2.2.1).toNat) ⟨0,by omega,rfl⟩ (by rw [Vab]; dsimp only; omega) ?_
 rintro s ⟨k,hk,rfl⟩
 dsimp only
 unfold Zdp_L2b
 refine Ok.cond (λhc=>?_) (λ_=>Ok.some (.inr rfl))
 have hc:=of_decide_eq_true hc
 have hkg:k < g.length:=by omega
 have gk:=gIn (Qa hkg)
 simp only [gk,bindU]
 have nx:(∃ k2:Nat,k2<=g.length/\((n,f,v,g,(c,()),at_,(k:Int)+1,()):Y_Zdp_L2)=(n,f,v,g,(c,()),at_,(k2:Int),()))/\((g.length:Int) - ((k:Int)+1)).toNat < ((g.length:Int) - (k:Int)).toNat:=⟨⟨k+1,hkg,rfl⟩,by omega⟩
 have ws:Qh .i64 ((k:Int)+1)=(k:Int)+1:=Vaa (by omega) (by omega)
 refine Ok.cond (λ_=>by rw [ws]; exact Ok.some nx) (λ_=>?_)
 refine Ok.bind (Ok.mono (Q:=λj=>∃ b:Bool,j=(n,f,v,g,(c,()),at_,(k:Int),b,())) (by
  repeat' first
   | exact Ok.some ⟨_,rfl⟩
   | refine Ok.cond (λ_=>?_) (λ_=>?_)) ?_)
 rintro j ⟨b,rfl⟩
 dsimp only
 refine Ok.bind (Ok.mono (Q:=λj=>∃ b:Bool,j=(n,f,v,g,(c,()),at_,(k:Int),b,())) (Ok.cond (λ_=>Ok.some ⟨_,rfl⟩) (λ_=>Ok.some ⟨_,rfl⟩)) ?_)
 rintro j ⟨b2,rfl⟩
 dsimp only
 refine Ok.cond (λ_=>Ok.some (.inl ⟨_,_,rfl,λ_=>rfl⟩)) (λ_=>?_)
 rw [gk,bindU]
 refine Ok.bind (Ok.mono (Q:=λj=>∃ b:Bool,j=(n,f,v,g,(c,()),at_,(k:Int),b,())) (Ok.cond (λ_=>Ok.some ⟨_,rfl⟩) (λ_=>Ok.some ⟨_,rfl⟩)) ?_)
 rintro j ⟨b3,rfl⟩
 dsimp only
 refine Ok.cond (λ_=>Ok.some (.inl ⟨_,_,rfl,λ_=>rfl⟩)) (λ_=>?_)
 simp only [gk,bindU]
 refine Ok.bind (Ok.mono (Q:=λj=>∃ b:Bool,j=(n,f,v,g,(c,()),at_,(k:Int),b,())) (by
  repeat' first
   | exact Ok.some ⟨_,rfl⟩
   | refine Ok.cond (λ_=>?_) (λ_=>?_)) ?_)
 rintro j ⟨b4,rfl⟩
 dsimp only
 refine Ok.cond (λ_=>Ok.some (.inl ⟨_,_,rfl,λh=>by cases h⟩)) (λ_=>?_)
 rw [gk,bindU,ws]
 exact Ok.cond (λ_=>Ok.some (.inl ⟨_,_,rfl,λh=>by cases h⟩)) (λ_=>Ok.some nx)
theorem Vdpa (n:Int) (f v:Bool) (g:List Jl) (hg:g.length<=1000000) (c:Jo) (h0:0<=n) (h1:n<=1099511627776):Ok (Zdp_L0 (n,f,v,g,(c,()),n+1,())) λz=>(∃ c2 e,z=Sum.inl ((c2,()),e,())/\(e=0->0<=c2.at_/\c2.at_<=1099511627776))\/z=Sum.inr ((c,()),()):=by
 unfold Zdp_L0
 refine Ok.iter (λs=>∃ k:Int,n<=k/\k<=n+100/\s=(n,f,v,g,(c,()),k,())) (λs=>(n+1000 - s.2.2.2.2.2.1).toNat) ⟨n+1,by omega,by omega,rfl⟩ (by rw [Vab]; dsimp only; omega) ?_
 rintro s ⟨k,hk,hk2,rfl⟩
 dsimp only
 unfold Zdp_L0b
 dsimp only
 rw [Vaa (n:=n+30) (by omega) (by omega)]
 have hm:(bif decide ((1099511627776:Int) < n+30) then (1099511627776:Int) else n+30)<=1099511627776/\(bif decide ((1099511627776:Int) < n+30) then (1099511627776:Int) else n+30)<=n+30:=by
  by_cases h:(1099511627776:Int) < n+30
  ·rw [decide_eq_true h,cond_true]; omega
  ·rw [decide_eq_false h,cond_false]; omega
 refine Ok.cond (λhc=>?_) (λ_=>Ok.some (.inr rfl))
 have hc:=of_decide_eq_true hc
 refine Ok.bind (Ok.mono (Vdoa n f v g hg c k) ?_)
 rintro q (⟨c2,e,rfl,h⟩ | rfl)
 ·exact Ok.some (.inl ⟨c2,e,rfl,λhe=>by have:=h he; omega⟩)
 ·simp only [Sum.elim_inr]
  rw [Vaa (n:=k+1) (by omega) (by omega)]
  exact Ok.some ⟨⟨k+1,by omega,by omega,rfl⟩,by dsimp only; omega⟩
theorem Vzd (n:Int) (f v:Bool) (g:List Jl) (hg:g.length<=1000000) (h0:0<=n) (h1:n<=1099511627776):Ok (Zdp n f v g) λr=>r.2.2.1=0->0<=r.2.1.at_/\r.2.1.at_<=1099511627776:=by
 unfold Zdp
 rw [decide_eq_false (by omega:¬ n < 0),cond_false,decide_eq_false (by omega:¬ 1099511627776 < n),cond_false,bindU]
 simp only [Sum.elim_inl]
 have hl:Ok ((Zdp_L0 (n,f,v,g,((⟨false,false,(0:Int)⟩:Jo),()),Qh .i64 (n+1),())).bind (Sum.elim (λ(z4:((Jo×Unit)×Int×Unit))=>(some ((),(z4.1.1,z4.2.1,())))) (λ(z5:((Jo×Unit)×Unit))=>(some ((),((⟨false,false,(0:Int)⟩:Jo),(19:Int),())):Option (Unit×(Jo×Int×Unit)))))) λr=>r.2.2.1=0->0<=r.2.1.at_/\r.2.1.at_<=1099511627776:=by
  rw [Vaa (n:=n+1) (by omega) (by omega)]
  refine Ok.bind (Ok.mono (Vdpa n f v g hg _ h0 h1) ?_)
  rintro q (⟨c2,e,rfl,h⟩ | rfl)
  ·exact Ok.some h
  ·exact Ok.some λh=>by cases h
 cases v
 ·rw [cond_false,bindU]
  exact hl
 ·rw [cond_true]
  cases f
  ·exact Ok.some λh=>by cases h
  ·rw [Bool.not_true,cond_false,bindU]
   exact hl
end Go.Proofs.YtancibcbaajjkaaGreatDoor

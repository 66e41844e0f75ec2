/- Out of the texts of the other seat of this chapter: what the law CredentialBack needs. Written by a program. -/
import Derived.Test.YtghfcfjnfgmkgaaDoorBkB
set_option linter.unusedVariables false
set_option linter.unusedSimpArgs false
set_option maxRecDepth 100000
namespace Go.Proofs.YtghfcfjnfgmkgaaDoor
open Go Go.Abs
def addI (x:ApiItem):Nat:=bif decide (x.kind=5) then x.number.toNat else bif decide (x.kind=6) then 2 * x.number.toNat else 0
def skp:List ApiItem → Nat → Option Nat
  | [],0=>some 0
  | [],_ + 1=>none
  | _ :: _,0=>some 0
  | x :: r,n + 1=>bif isN x.kind && decide (512 < x.number.toNat) then none else (skp r (n + addI x)).map (· + 1)
theorem skp_zero:∀ l,skp l 0=some 0
  | []=>rfl
  | _ :: _=>rfl
def skZ (at0:Nat):Option Nat → (Int × Bool × Unit) ⊕ (Int × Unit)
  | none=>.inl (0,false,())
  | some k=>.inr (((at0 + k:Nat):Int),())
theorem addI_le {x:ApiItem} (h:(isN x.kind && decide (512 < x.number.toNat))=false):addI x ≤ 1024:=by
  unfold addI
  simp only [isN,Bool.and_eq_false_iff,decide_eq_false_iff_not,Bool.or_eq_false_iff] at h
  by_cases h5:x.kind=5
  · simp [h5] at h ⊢; omega
  · by_cases h6:x.kind=6
    · simp [h6] at h ⊢; omega
    · simp [h5,h6]
theorem SkipL_ok (l:List ApiItem) (hl:l.length < 1000000):∀ (r:List ApiItem) (at0 need f:Nat),l.drop at0=r → at0 ≤ l.length → need ≤ 1024 * (at0 + 1) → r.length < f →
    iter (fun (y:((List (ApiItem)) × Int × Int × Unit))=>cbor_Skip_L0b y.1 y.2.1 y.2.2.1) f (l,(at0:Int),(need:Int),())=some (skZ at0 (skp r need)):=by
  intro r
  induction r with
  | nil=>
    intro at0 need f hr ha hn hf
    have hal:at0=l.length:=by
      have:=congrArg List.length hr
      simp at this
      omega
    obtain ⟨f,rfl⟩:∃ g,f=g + 1:=⟨f - 1,by omega⟩
    rw [iter_succ]
    dsimp only
    unfold cbor_Skip_L0b
    cases need with
    | zero=>rfl
    | succ need=>
      rw [show decide ((0:Int) < ((need + 1:Nat):Int))=true from decide_eq_true (by omega),show decide ((l.length:Int) ≤ (at0:Int))=true from decide_eq_true (by omega)]
      rfl
  | cons x r ih=>
    intro at0 need f hr ha hn hf
    have hlt:at0 < l.length:=by
      have:=congrArg List.length hr
      simp at this
      omega
    have hx:l[at0]? = some x:=by
      have:=congrArg (·[0]?) hr
      simpa using this
    have hr2:l.drop (at0 + 1)=r:=by
      have:=congrArg (List.drop 1) hr
      simpa [List.drop_drop] using this
    have eg:getI l (at0:Int)=some x:=by unfold getI; simp [hx]
    simp only [List.length_cons] at hf
    obtain ⟨f,rfl⟩:∃ g,f=g + 1:=⟨f - 1,by omega⟩
    rw [iter_succ]
    dsimp only
    cases need with
    | zero=>rfl
    | succ need=>
      have e1 : cbor_Skip_L0b l (at0 : Int) ((need + 1 : Nat) : Int) = some (bif isN x.kind && decide (512 < x.number.toNat) then .inr (.inl (0, false, ())) else .inl (l, ((at0 + 1 : Nat) : Int), ((need + addI x : Nat) : Int), ())) := by
        unfold cbor_Skip_L0b
        rw [show decide ((0:Int) < ((need + 1:Nat):Int))=true from decide_eq_true (by omega),show decide ((l.length:Int) ≤ (at0:Int))=false from decide_eq_false (by omega),eg,wrap_id (n:=(at0:Int) + 1) (by omega) (by omega),wrap_id (n:=((need + 1:Nat):Int) - 1) (by omega) (by omega),show ((need + 1:Nat):Int) - 1=(need:Int) by omega,show (512#64).toNat=512 from rfl]
        simp only [cond_true,cond_false,bindS]
        unfold isN addI
        by_cases h5:x.kind=5
        · by_cases hm:512 < x.number.toNat
          · simp [h5,hm]
          · rw [wrap_id (n:=(x.number.toNat:Int)) (by omega) (by omega),wrap_id (n:=(need:Int) + (x.number.toNat:Int)) (by omega) (by omega)]
            simp [h5,hm]
        · by_cases h6:x.kind=6
          · by_cases hm:512 < x.number.toNat
            · simp [h6,hm]
            · rw [wrap_id (n:=(x.number.toNat:Int)) (by omega) (by omega),wrap_id (n:=(need:Int) + (x.number.toNat:Int)) (by omega) (by omega),wrap_id (n:=(need:Int) + (x.number.toNat:Int) + (x.number.toNat:Int)) (by omega) (by omega)]
              simp [h6,hm]
              omega
          · simp [h5,h6]
      rw [e1,bindS]
      simp only [skp]
      cases hb:(isN x.kind && decide (512 < x.number.toNat))
      · simp only [cond_false,Sum.elim_inl]
        have:=addI_le hb
        rw [ih (at0 + 1) (need + addI x) f hr2 (by omega) (by omega) (by omega)]
        cases skp r (need + addI x) with
        | none=>rfl
        | some k=>
          simp only [Option.map_some,skZ]
          rw [show at0 + 1 + k=at0 + (k + 1) by omega]
      · rfl
def skO (l:List ApiItem) (a:Int):Int × Bool:=bif decide (a < 0) then (0,false) else bif decide ((l.length:Int) ≤ a) then (0,false) else match skp (l.drop a.toNat) 1 with
  | none=>(0,false)
  | some k=>(((a.toNat + k:Nat):Int),true)
theorem skZ_elim (a:Nat) (o:Option Nat):(Sum.elim (fun (z6:(Int × Bool × Unit))=>(some ((),(z6.1,z6.2.1,())):Option (Unit × (Int × Bool × Unit)))) (fun (z7:(Int × Unit))=>(some ((),(z7.1,true,())))) (skZ a o))=some ((),(match o with | none=>((0:Int),false) | some k=>(((a + k:Nat):Int),true)).1,(match o with | none=>((0:Int),false) | some k=>(((a + k:Nat):Int),true)).2,()):=by
  cases o <;> rfl
theorem Skip_ok (l:List ApiItem) (a:Int) (hl:l.length < 1000000):cbor_Skip l a=some ((),(skO l a).1,(skO l a).2,()):=by
  unfold cbor_Skip skO
  by_cases h1:a < 0
  · simp [h1]
  · rw [show decide (a < 0)=false from decide_eq_false h1]
    by_cases h2:(l.length:Int) ≤ a
    · simp [h2]
    · rw [show decide ((l.length:Int) ≤ a)=false from decide_eq_false h2]
      obtain ⟨n,rfl⟩:∃ n:Nat,a=(n:Int):=⟨a.toNat,by omega⟩
      have:=SkipL_ok l hl (l.drop n) n 1 rounds rfl (by omega) (by omega) (by rw [rounds_eq]; simp; omega)
      unfold cbor_Skip_L0
      simp only [cond_false]
      rw [show (1:Int)=((1:Nat):Int) from rfl,this,bindS,Int.toNat_natCast,skZ_elim]
theorem mapmap (o:Option Nat) (a b:Nat):(o.map (· + a)).map (· + b)=o.map (· + (b + a)):=by
  cases o with
  | none=>rfl
  | some k=>simp; omega
theorem map0 (o:Option Nat):o=o.map (· + 0):=by cases o <;> rfl
theorem W_skp : ∀ (f : Nat) (s : List ApiItem) (n d : Nat) (key : Bool) (b : List UInt8), (W getL f s n d key b).1 = 0 → ∀ m, skp s (m + 1) = (skp (W getL f s n d key b).2.2 m).map (· + (W getL f s n d key b).2.1.length)
  | 0,s,n,d,key,b,h=>by simp [W] at h
  | f + 1, s, n, d, key, b, h => by
    have ih:=W_skp f
    intro m
    unfold W at h ⊢
    dsimp only at h ⊢
    rcases hg:getL n d key b s with ⟨e,x,t⟩
    rw [hg] at h
    dsimp only at h ⊢
    by_cases he:e=0
    · subst he
      simp only [decide_true,cond_true] at h ⊢
      have hs:s=x :: t ∧ (isN x.kind && decide (512 < x.number.toNat))=false:=by
        cases s with
        | nil=>simp [getL] at hg
        | cons y r=>
          simp only [getL,Prod.mk.injEq] at hg
          obtain ⟨g1,rfl,rfl⟩:=hg
          refine ⟨rfl,?_⟩
          have:=(big_false (chk_zero g1).2.2.1).2
          cases hn:isN y.kind
          · rfl
          · rw [decide_eq_false (by have:=this hn; omega)]; rfl
      rw [hs.1]
      simp only [skp,hs.2,cond_false,List.length_cons]
      have key2:∀ q:Res (List ApiItem),skp t (m + addI x)=(skp q.2.2 m).map (· + q.2.1.length) → (skp t (m + addI x)).map (· + 1)=(skp q.2.2 m).map (· + (q.2.1.length + 1)):=by
        intro q hq
        rw [hq,mapmap,Nat.add_comm 1]
      refine key2 _ ?_
      by_cases h5:x.kind=5
      · simp only [h5,decide_true,cond_true] at h ⊢
        have loop:∀ (k:Nat) (t:List ApiItem) (n:Nat),(LA (fun s n=>W getL f s n (d + 1) false []) k t n).1=0 → skp t (m + k)=(skp (LA (fun s n=>W getL f s n (d + 1) false []) k t n).2.2 m).map (· + (LA (fun s n=>W getL f s n (d + 1) false []) k t n).2.1.length):=by
          intro k
          induction k with
          | zero=>intro t n _; exact map0 _
          | succ k ihk=>
            intro t n h
            unfold LA at h ⊢
            have i1:=ih t n (d + 1) false []
            generalize W getL f t n (d + 1) false []=w at h i1 ⊢
            by_cases hw:w.1=0
            · rw [show decide (w.1=0)=true by simpa using hw] at h ⊢
              simp only [cond_true] at h ⊢
              rw [← Nat.add_assoc,i1 hw (m + k),ihk _ _ h,mapmap,List.length_append]
            · rw [show decide (w.1=0)=false by simpa using hw] at h
              exact absurd h hw
        have:=loop _ _ _ h
        unfold addI
        simp only [h5,decide_true,cond_true]
        exact this
      · by_cases h6:x.kind=6
        · simp only [h6,decide_true,cond_true,Int.reduceEq,decide_false,cond_false] at h ⊢
          have loop:∀ (k:Nat) (t:List ApiItem) (n:Nat) (l:List UInt8),(LM (fun s n last=>W getL f s n (d + 1) true last) (fun s n=>W getL f s n (d + 1) false []) k t n l).1=0 → skp t (m + 2 * k)=(skp (LM (fun s n last=>W getL f s n (d + 1) true last) (fun s n=>W getL f s n (d + 1) false []) k t n l).2.2 m).map (· + (LM (fun s n last=>W getL f s n (d + 1) true last) (fun s n=>W getL f s n (d + 1) false []) k t n l).2.1.length):=by
            intro k
            induction k with
            | zero=>intro t n l _; exact map0 _
            | succ k ihk=>
              intro t n l h
              unfold LM at h ⊢
              dsimp only at h ⊢
              have i1:=ih t n (d + 1) true l
              generalize W getL f t n (d + 1) true l=w at h i1 ⊢
              by_cases hw:w.1=0
              · rw [show decide (w.1=0)=true by simpa using hw] at h ⊢
                simp only [cond_true] at h ⊢
                have i2:=ih w.2.2 (n + w.2.1.length) (d + 1) false []
                generalize W getL f w.2.2 (n + w.2.1.length) (d + 1) false []=v at h i2 ⊢
                by_cases hv:v.1=0
                · rw [show decide (v.1=0)=true by simpa using hv] at h ⊢
                  simp only [cond_true] at h ⊢
                  rw [show m + 2 * (k + 1)=m + 2 * k + 1 + 1 by omega,i1 hw (m + 2 * k + 1),i2 hv (m + 2 * k),ihk _ _ _ h]
                  simp only [mapmap,List.length_append]
                · rw [show decide (v.1=0)=false by simpa using hv] at h
                  exact absurd h hv
              · rw [show decide (w.1=0)=false by simpa using hw] at h
                exact absurd h hw
          have:=loop _ _ _ _ h
          unfold addI
          simp only [h6,decide_true,cond_true,Int.reduceEq,decide_false,cond_false]
          exact this
        · simp only [h5,h6,decide_false,cond_false]
          unfold addI
          simp only [h5,h6,decide_false,cond_false]
          exact map0 _
    · rw [show decide (e=0)=false by simpa using he] at h
      exact absurd h he
inductive PairsAt:Nat → List ApiItem → List ApiItem → List (ApiItem × List ApiItem) → Prop
  | nil (t:List ApiItem):PairsAt 0 t t []
  | cons {k:Nat} {x:ApiItem} {v r t:List ApiItem} {ps:List (ApiItem × List ApiItem)} (hx:isN x.kind=false) (hv:∀ m,skp (v ++ r) (m + 1)=(skp r m).map (· + v.length)) (h0:v ≠ []) (h:PairsAt k r t ps):PairsAt (k + 1) (x :: (v ++ r)) t ((x,v) :: ps)
theorem W_one {f:Nat} {s:List ApiItem} {n d:Nat} {b:List UInt8} (h:(W getL f s n d true b).1=0):∃ x,(W getL f s n d true b).2.1=[x] ∧ isN x.kind=false ∧ chk x n d true b=0:=by
  cases f with
  | zero=>simp [W] at h
  | succ f=>
    unfold W at h ⊢
    dsimp only at h ⊢
    rcases hg:getL n d true b s with ⟨e,x,t⟩
    rw [hg] at h
    dsimp only at h ⊢
    by_cases he:e=0
    · subst he
      obtain ⟨_,hc⟩:=getL_zero hg
      have hk:=(adm_zero (chk_zero hc).1).2.2.2.1 rfl
      have h5:¬ x.kind=5:=fun h=>by rw [h] at hk; cases hk
      have h6:¬ x.kind=6:=fun h=>by rw [h] at hk; cases hk
      refine ⟨x,?_,?_,hc⟩
      · simp [h5,h6]
      · simp [isN,h5,h6]
    · rw [show decide (e=0)=false from decide_eq_false he] at h
      exact absurd h he
theorem LM_pairs (f d:Nat):∀ (k:Nat) (s:List ApiItem) (n:Nat) (l:List UInt8),(LM (fun s n last=>W getL f s n (d + 1) true last) (fun s n=>W getL f s n (d + 1) false []) k s n l).1=0 → ∃ ps,PairsAt k s (LM (fun s n last=>W getL f s n (d + 1) true last) (fun s n=>W getL f s n (d + 1) false []) k s n l).2.2 ps
  | 0,s,n,l,h=>⟨_,PairsAt.nil _⟩
  | k + 1,s,n,l,h=>by
    have ih:=LM_pairs f d k
    unfold LM at h ⊢
    dsimp only at h ⊢
    have hw1:=W_one (f:=f) (s:=s) (n:=n) (d:=d + 1) (b:=l)
    have hwl:=W_list f s n (d + 1) true l
    generalize W getL f s n (d + 1) true l=w at h hw1 hwl ⊢
    by_cases hw:w.1=0
    · rw [show decide (w.1=0)=true from decide_eq_true hw] at h ⊢
      simp only [cond_true] at h ⊢
      obtain ⟨x,hx,hN,_⟩:=hw1 hw
      have hs:=hwl hw
      have hvl:=W_list f w.2.2 (n + w.2.1.length) (d + 1) false []
      have hvs:=W_skp f w.2.2 (n + w.2.1.length) (d + 1) false []
      have hvn:=W_ne (get:=getL) (f:=f) (s:=w.2.2) (n:=n + w.2.1.length) (d:=d + 1) (key:=false) (b:=[])
      generalize W getL f w.2.2 (n + w.2.1.length) (d + 1) false []=v at h hvl hvs hvn ⊢
      by_cases hv:v.1=0
      · rw [show decide (v.1=0)=true from decide_eq_true hv] at h ⊢
        simp only [cond_true] at h ⊢
        obtain ⟨ps,hp⟩:=ih _ _ _ h
        have e1:=hvl hv
        have e2:=hvs hv
        obtain ⟨y,r,hy⟩:=hvn hv
        rw [e1] at e2
        refine ⟨(x,v.2.1) :: ps,?_⟩
        have es:s=x :: (v.2.1 ++ v.2.2):=by rw [hs,hx,← e1]; rfl
        rw [es]
        exact PairsAt.cons hN e2 (by rw [hy]; simp) hp
      · rw [show decide (v.1=0)=false from decide_eq_false hv] at h
        exact absurd h hv
    · rw [show decide (w.1=0)=false from decide_eq_false hw] at h
      exact absurd h hw
theorem valO_W {l:List ApiItem} (h:valO l=0):W getL 12 l 0 0 false []=(0,l,[]):=by
  obtain ⟨m1,m2⟩:=W_mach getL_ok 12 (by omega) l
  have hm:=(valO_zero h).1
  by_cases hw:(W getL 12 l 0 0 false []).1=0
  · rw [← m2 hw,hm]
  · have:=m1 hw
    rw [hm] at this
    exact absurd this.symm hw
theorem valO_ne {l:List ApiItem} (h:valO l=0):l ≠ []:=by
  intro e
  have:=valO_W h
  subst e
  simp [W,getL] at this
theorem valO_map {x:ApiItem} {l:List ApiItem} (h:valO (x :: l)=0) (h6:x.kind=6):x.number.toNat ≤ 512 ∧ ∃ ps,PairsAt x.number.toNat l [] ps:=by
  have hw:=valO_W h
  unfold W at hw
  by_cases hc:chk x 0 0 false []=0
  · have hn:=(big_false (chk_zero hc).2.2.1).2 (by simp [isN,h6])
    simp only [getL,hc,h6,decide_true,decide_false,cond_true,cond_false,Int.reduceEq,Prod.mk.injEq] at hw
    obtain ⟨w1,_,w3⟩:=hw
    obtain ⟨ps,hp⟩:=LM_pairs 11 0 x.number.toNat l 1 [] w1
    rw [w3] at hp
    exact ⟨hn,ps,hp⟩
  · simp only [getL,hc,decide_false,cond_false,Prod.mk.injEq] at hw
    exact hw.1.elim
def lkP (key:BitVec 64):List (ApiItem × List ApiItem) → List ApiItem × Bool
  | []=>([],false)
  | p :: r=>bif decide (p.1.kind=1) && decide (p.1.number=key) then (p.2,true) else lkP key r
theorem PairsAt.len {k:Nat} {s t:List ApiItem} {ps:List (ApiItem × List ApiItem)} (h:PairsAt k s t ps):ps.length=k:=by
  induction h with
  | nil=>rfl
  | cons _ _ _ _ ih=>simp [ih]
theorem skO_of {l:List ApiItem} {a:Nat} {v r:List ApiItem} (h:l.drop a=v ++ r) (hv:∀ m,skp (v ++ r) (m + 1)=(skp r m).map (· + v.length)) (h0:v ≠ []):skO l (a:Int)=(((a + v.length:Nat):Int),true):=by
  have h1:0 < v.length:=List.length_pos_iff.2 h0
  have hl:=congrArg List.length h
  rw [List.length_drop,List.length_append] at hl
  have h2:=hv 0
  rw [skp_zero,Nat.zero_add] at h2
  unfold skO
  rw [show decide ((a:Int) < 0)=false from decide_eq_false (by omega),show decide ((l.length:Int) ≤ (a:Int))=false from decide_eq_false (by omega),Int.toNat_natCast,h,h2]
  simp
def LkR (key:BitVec 64) (ps:List (ApiItem × List ApiItem)) (z:(List ApiItem × Bool × Unit) ⊕ Unit):Prop:=(Sum.elim (fun (z9:((List (ApiItem)) × Bool × Unit))=>(some ((),(z9.1,z9.2.1,())):Option (Unit × (List ApiItem × Bool × Unit)))) (fun (z10:(Unit))=>(some ((),([],false,())))) z)=some ((),(lkP key ps).1,(lkP key ps).2,())
theorem slice_eq {l v r:List ApiItem} {a:Nat} (h:l.drop a=v ++ r):List.drop a (List.take (a + v.length) l)=v:=by
  rw [List.drop_take,h,show a + v.length - a=v.length by omega]
  simp
theorem LookL_ok (l:List ApiItem) (hl:l.length < 1000000) (key:BitVec 64) (N:BitVec 64) (hN:N.toNat ≤ 512):∀ (k i a f:Nat) (s:List ApiItem) (ps:List (ApiItem × List ApiItem)),PairsAt k s [] ps → i + k=N.toNat → l.drop a=s → a ≤ l.length → k < f →
    ∃ z,iter (fun (y:((List (ApiItem)) × (BitVec 64) × Int × (BitVec 64) × (BitVec 64) × Unit))=>Zcc_L0b y.1 y.2.1 y.2.2.1 y.2.2.2.1 y.2.2.2.2.1) f (l,key,(a:Int),N,BitVec.ofNat 64 i,())=some z ∧ LkR key ps z:=by
  intro k
  induction k with
  | zero=>
    intro i a f s ps hp hi hs ha hf
    obtain ⟨f,rfl⟩:∃ g,f=g + 1:=⟨f - 1,by omega⟩
    rw [iter_succ]
    have hps:ps=[]:=List.length_eq_zero_iff.1 hp.len
    subst hps
    refine ⟨.inr (),?_,rfl⟩
    dsimp only
    unfold Zcc_L0b
    rw [bvn i (by omega),show decide (i < N.toNat)=false from decide_eq_false (by omega)]
    rfl
  | succ k ih=>
    intro i a f s ps hp hi hs ha hf
    obtain ⟨f,rfl⟩:∃ g,f=g + 1:=⟨f - 1,by omega⟩
    cases hp with
    | @cons _ x v r _ ps hx hv h0 hp=>
    have hd1:l[a]? = some x:=by
      have:=congrArg (·[0]?) hs
      simpa using this
    have hd2:l.drop (a + 1)=v ++ r:=by
      have:=congrArg (List.drop 1) hs
      simpa [List.drop_drop] using this
    have hlen:=congrArg List.length hd2
    rw [List.length_drop,List.length_append] at hlen
    have hv1:0 < v.length:=List.length_pos_iff.2 h0
    have hd3:l.drop (a + 1 + v.length)=r:=by
      rw [← List.drop_drop,hd2]; simp
    have e1:Zcc_L0b l key (a:Int) N (BitVec.ofNat 64 i)=bif decide (x.kind=1) && decide (x.number=key) then some (Sum.inr (Sum.inl (v,true,()))) else some (Sum.inl (l,key,((a + 1 + v.length:Nat):Int),N,BitVec.ofNat 64 (i + 1),())):=by
      unfold Zcc_L0b
      rw [bvn i (by omega),show decide (i < N.toNat)=true from decide_eq_true (by omega),wrap_id (n:=(a:Int) + 1) (by omega) (by omega),show (a:Int) + 1=((a + 1:Nat):Int) from rfl,Skip_ok l _ hl,skO_of hd2 hv h0,bvs i (by omega),getI_nat hd1]
      simp only [cond_true,bindS,Bool.not_true,cond_false]
      cases h1:decide (x.kind=1)
      · simp only [Bool.false_and,cond_false]
      · simp only [Bool.true_and,cond_true]
        cases h2:decide (x.number=key)
        · simp only [cond_false]
        · simp only [cond_true,Int.toNat_natCast]
          rw [show (decide ((0:Int) ≤ ((a + 1 + v.length:Nat):Int)) && decide (((a + 1 + v.length:Nat):Int) ≤ (l.length:Int)))=true by (rw [Bool.and_eq_true,decide_eq_true_eq,decide_eq_true_eq]; exact ⟨by omega,by omega⟩),show (decide ((0:Int) ≤ ((a + 1:Nat):Int)) && decide (((a + 1:Nat):Int) ≤ ((a + 1 + v.length:Nat):Int)))=true by (rw [Bool.and_eq_true,decide_eq_true_eq,decide_eq_true_eq]; exact ⟨by omega,by omega⟩),slice_eq hd2]
          simp only [cond_true]
          unfold Zby
          rw [show decide (v.length ≤ 1000000)=true from decide_eq_true (by omega)]
          rfl
    rw [iter_succ]
    dsimp only
    rw [e1]
    cases hm:(decide (x.kind=1) && decide (x.number=key))
    · simp only [cond_false,bindS,Sum.elim_inl]
      obtain ⟨z,z1,z2⟩:=ih (i + 1) (a + 1 + v.length) f r ps hp (by omega) hd3 (by omega) (by omega)
      refine ⟨z,z1,?_⟩
      unfold LkR lkP
      rw [hm]
      exact z2
    · refine ⟨_,rfl,?_⟩
      unfold LkR lkP
      rw [hm]
      rfl
theorem two_ok {a b:Int} (h0:0 ≤ a) (h1:a < b):(decide ((0:Int) ≤ a) && decide (a < b))=true:=by
  rw [Bool.and_eq_true,decide_eq_true_eq,decide_eq_true_eq]; exact ⟨h0,h1⟩
def fau:List (List ApiItem) → Int
  | []=>0
  | l :: r=>bif decide (valO l=0) then fau r else valO l
def light1 (v:List (List ApiItem)):Prop:=∀ l ∈ v,l.length ≤ 600 ∧ ∀ x ∈ l,x.data.length < 100000
theorem faulty_ok (v:List (List ApiItem)) (hv:light1 v) (hl:v.length ≤ 1000):Zcd v=some ((),fau v,()):=by
  have key:∀ (r:List (List ApiItem)) (j f:Nat),v.drop j=r → r.length < f → iter (fun (y:((List (List ApiItem)) × Int × Int × Unit))=>Zcd_L0b y.1 y.2.1 y.2.2.1) f (v,(v.length:Int),(j:Int),())=some (bif decide (fau r=0) then .inr () else .inl (fau r,())):=by
    intro r
    induction r with
    | nil=>
      intro j f hr hf
      obtain ⟨f,rfl⟩:∃ g,f=g + 1:=⟨f - 1,by omega⟩
      have hjl:v.length ≤ j:=by
        have:=congrArg List.length hr
        simp at this
        omega
      rw [iter_succ]
      dsimp only
      unfold Zcd_L0b
      rw [show decide ((j:Int) < (v.length:Int))=false from decide_eq_false (by omega)]
      rfl
    | cons l r ih=>
      intro j f hr hf
      obtain ⟨f,rfl⟩:∃ g,f=g + 1:=⟨f - 1,by omega⟩
      obtain ⟨d1,d2,d3,d4⟩:=drop_cons hr
      have hm:=hv l (List.mem_of_getElem? d1)
      have e1:Zcd_L0b v (v.length:Int) (j:Int)=bif decide (valO l=0) then some (Sum.inl (v,(v.length:Int),((j + 1:Nat):Int),())) else some (Sum.inr (Sum.inl (valO l,()))):=by
        unfold Zcd_L0b
        rw [show decide ((j:Int) < (v.length:Int))=true from decide_eq_true (by omega),getI_nat d1,wrap_id (n:=(j:Int) + 1) (by omega) (by omega)]
        simp only [cond_true,bindS]
        rw [Validate_ok l (by omega) hm.2]
        simp only [bindS]
        cases decide (valO l=0) <;> rfl
      rw [iter_succ]
      dsimp only
      rw [e1]
      unfold fau
      by_cases h0:valO l=0
      · rw [show decide (valO l=0)=true from decide_eq_true h0]
        exact ih (j + 1) f d2 (by simp at hf; omega)
      · rw [show decide (valO l=0)=false from decide_eq_false h0]
        simp only [cond_false,bindS,Sum.elim_inr]
        rw [show decide (valO l=0)=false from decide_eq_false h0]
        rfl
  unfold Zcd Zcd_L0
  have e:=key v 0 rounds rfl (by rw [rounds_eq]; omega)
  rw [show ((0:Nat):Int)=0 from rfl] at e
  rw [e]
  by_cases h0:fau v=0
  · rw [h0]; rfl
  · rw [show decide (fau v=0)=false from decide_eq_false h0]; rfl
theorem mach_long:∀ (f:Nat) (S:List CborFrame) (n:Nat) (p a b:List ApiItem),n ≤ 512 → p.length + n=513 → valE (mach getL f S n (p ++ a))=valE (mach getL f S n (p ++ b))
  | 0,S,n,p,a,b,_,_=>rfl
  | f + 1,S,n,p,a,b,hn,hp=>by
    cases p with
    | nil=>simp at hp; omega
    | cons x p=>
      simp only [List.length_cons] at hp
      cases hS:(decide (0 < n) && S.isEmpty)
      · by_cases hc:chk x n S.length (atK S) (lst S)=0
        · have hn2:=(adm_zero (chk_zero hc).1).1
          have e:∀ q:List ApiItem,getL n S.length (atK S) (lst S) (x :: q)=(0,x,q):=fun q=>by simp [getL,hc]
          rw [List.cons_append,List.cons_append,mach_step hS (e _),mach_step hS (e _)]
          exact mach_long f (nxt x S) (n + 1) p a b (by omega) (by omega)
        · have e:∀ q:List ApiItem,getL n S.length (atK S) (lst S) (x :: q)=(chk x n S.length (atK S) (lst S),x,q):=fun q=>rfl
          rw [List.cons_append,List.cons_append,mach_err hS (e _) hc,mach_err hS (e _) hc]
          rfl
      · have e:∀ q:List ApiItem,valE (mach getL (f + 1) S n (x :: q))=2:=by
          intro q
          unfold mach
          rw [hS]
          rfl
        rw [List.cons_append,List.cons_append,e,e]
theorem valO_long (p a b:List ApiItem) (hp:p.length=513):valO (p ++ a)=valO (p ++ b):=mach_long 600 [] 0 p a b (by omega) (by omega)
def gat:List ApiItem → List (List ApiItem) → List ApiItem
  | o,[]=>o
  | o,l :: r=>bif decide (512 < o.length) then o else gat (o ++ l) r
theorem gat_val:∀ (v:List (List ApiItem)) (o:List ApiItem),valO (gat o v)=valO (o ++ v.flatten) ∧ (gat o v=o ++ v.flatten ∨ 512 < (gat o v).length ∧ 512 < (o ++ v.flatten).length)
  | [],o=>by simp [gat]
  | l :: r,o=>by
    unfold gat
    by_cases h:512 < o.length
    · rw [show decide (512 < o.length)=true from decide_eq_true h]
      simp only [cond_true]
      refine ⟨?_,.inr ⟨h,by rw [List.length_append]; omega⟩⟩
      have e:=valO_long (o.take 513) (o.drop 513) (o.drop 513 ++ (l :: r).flatten) (by rw [List.length_take]; omega)
      rw [← List.append_assoc,List.take_append_drop] at e
      exact e
    · rw [show decide (512 < o.length)=false from decide_eq_false h]
      simp only [cond_false,List.flatten_cons]
      have:=gat_val r (o ++ l)
      rw [List.append_assoc] at this
      exact this
theorem valO_big {l:List ApiItem} (h:512 < l.length):valO l ≠ 0:=by
  intro hv
  have key:∀ (f:Nat) (S:List CborFrame) (n:Nat) (l o r:List ApiItem),n ≤ 512 → mach getL f S n l=(0,o,r) → n + o.length ≤ 512:=by
    intro f
    induction f with
    | zero=>intro S n l o r hn h; simp [mach] at h
    | succ f ih=>
      intro S n l o r hn h
      rcases mach_cases getL f S n l with ⟨h1,h2⟩ | ⟨h1,h2,h3⟩ | ⟨h1,x,u,h2,h3⟩
      · rw [h2] at h
        simp only [Prod.mk.injEq,true_and] at h
        obtain ⟨rfl,rfl⟩:=h
        simpa using hn
      · rw [h3] at h
        simp only [Prod.mk.injEq] at h
        exact absurd h.1 h2
      · rw [h3] at h
        simp only [Prod.mk.injEq] at h
        obtain ⟨g1,g2,g3⟩:=h
        have hn2:=(adm_zero (chk_zero (getL_zero h2).2).1).1
        generalize hm:mach getL f (nxt x S) (n + 1) u=m at g1 g2 g3
        obtain ⟨m1,m2,m3⟩:=m
        dsimp only at g1 g2 g3
        subst g1; subst g2; subst g3
        have:=ih (nxt x S) (n + 1) u m2 m3 (by omega) hm
        rw [List.length_cons]
        omega
  have:=key 600 [] 0 l l [] (by omega) (valO_zero hv).1
  omega
theorem checked_ok (l:List ApiItem) (hl:l.length < 1000000) (hd:∀ x ∈ l,x.data.length < 100000):Zbv l=some ((),(bif decide (valO l=0) then l else []),valO l,()):=by
  unfold Zbv
  rw [Validate_ok l hl hd]
  simp only [bindS]
  by_cases h:valO l=0
  · rw [h]; rfl
  · rw [show decide (valO l=0)=false from decide_eq_false h]; rfl
theorem gat_sub:∀ (v:List (List ApiItem)) (o:List ApiItem),(gat o v).length ≤ (o ++ v.flatten).length ∧ ∀ x ∈ gat o v,x ∈ o ++ v.flatten
  | [],o=>by simp [gat]
  | l :: r,o=>by
    unfold gat
    cases decide (512 < o.length)
    · have:=gat_sub r (o ++ l)
      simp only [cond_false,List.flatten_cons]
      rw [List.append_assoc] at this
      exact this
    · simp only [cond_true]
      exact ⟨by rw [List.length_append]; omega,fun x hx=>List.mem_append_left _ hx⟩
theorem arr_fin {v:List (List ApiItem)} (o:List ApiItem):(bif decide (valO (gat o v)=0) then gat o v else [])=(bif decide (valO (o ++ v.flatten)=0) then o ++ v.flatten else []):=by
  obtain ⟨h1,h2⟩:=gat_val v o
  rw [h1]
  rcases h2 with h2 | ⟨h2,h3⟩
  · rw [h2]
  · rw [show decide (valO (o ++ v.flatten)=0)=false from decide_eq_false (valO_big h3)]
    rfl
def kk (keys:List (BitVec 64)) (i:Nat):Nat:=(keys.getD i 0#64).toNat
def cmpI (a b:Nat):Int:=bif decide (a < b) then -1 else bif decide (b < a) then 1 else 0
theorem cmpI_neg (a b:Nat):decide (cmpI a b < 0)=decide (a < b):=by
  unfold cmpI
  cases h:decide (a < b)
  · cases decide (b < a) <;> rfl
  · rfl
theorem kk_get {keys:List (BitVec 64)} {i:Nat} (h:i < keys.length):getI keys (i:Int)=some (keys.getD i 0#64):=by
  refine getI_nat ?_
  rw [List.getD_eq_getElem?_getD,List.getElem?_eq_getElem h]
  rfl
theorem Map1_ok (keys:List (BitVec 64)) (i j:Nat) (hi:i < keys.length) (hj:j < keys.length):Zcj (i:Int) (j:Int) keys=some ((),cmpI (kk keys i) (kk keys j),()):=by
  unfold Zcj
  rw [kk_get hi,kk_get hj]
  simp only [bindS]
  unfold Zao Zba cmpI kk
  simp only [bindS,decide_true,Bool.not_true,cond_false]
  cases decide ((keys.getD i 0#64).toNat < (keys.getD j 0#64).toNat)
  · cases decide ((keys.getD j 0#64).toNat < (keys.getD i 0#64).toNat) <;> rfl
  · rfl
abbrev ci (l:List Nat):List Int:=l.map fun n:Nat=>(n:Int)
theorem ci_len (l:List Nat):(ci l).length=l.length:=List.length_map _
theorem ci_get {l:List Nat} {i n:Nat} (h:l[i]? = some n):(ci l)[i]? = some (n:Int):=by
  rw [List.getElem?_map,h]; rfl
theorem swap_ci (A R:List Nat) (x y:Nat):List.set (List.set (ci (A ++ y :: x :: R)) (A.length + 1) (y:Int)) A.length (x:Int)=ci (A ++ x :: y :: R):=by
  simp only [ci,List.map_append,List.map_cons]
  rw [List.set_append_right _ _ (by simp),List.set_append_right _ _ (by simp)]
  simp
theorem insL2_ok (keys:List (BitVec 64)) (n i:Nat) (A R:List Nat) (x:Nat) (hn:n ≤ 12) (hlen:(A ++ x :: R).length=n) (hk:∀ y ∈ A ++ x :: R,y < keys.length) :
    Ok (Zaa_L2 (ci (A ++ x :: R),0,(n:Int),(keys,()),(i:Int),(A.length:Int),())) fun z=>∃ A1 A2,A=A1 ++ A2 ∧ z=(ci (A1 ++ x :: (A2 ++ R)),0,(n:Int),(keys,()),(i:Int),()) ∧ (∀ y ∈ A2,kk keys x < kk keys y) ∧ ∀ y,A1.getLast? = some y → kk keys y ≤ kk keys x:=by
  unfold Zaa_L2
  refine Ok.iter (fun q=>q.2.1=0 ∧ q.2.2.1=(n:Int) ∧ q.2.2.2.1=(keys,()) ∧ q.2.2.2.2.1=(i:Int) ∧ ∃ A1 A2,A=A1 ++ A2 ∧ q.1=ci (A1 ++ x :: (A2 ++ R)) ∧ q.2.2.2.2.2.1=(A1.length:Int) ∧ ∀ y ∈ A2,kk keys x < kk keys y) (fun q=>q.2.2.2.2.2.1.toNat) ⟨rfl,rfl,rfl,rfl,A,[],by simp,by simp,rfl,by simp⟩ (by rw [rounds_eq]; dsimp only; simp at hlen; omega) ?_
  rintro ⟨q0,q1,q2,q3,q4,q5,u⟩ ⟨e1,e2,e3,e4,A1,A2,e5,e6,e7,e8⟩
  dsimp only at *
  subst e1; subst e2; subst e3; subst e4; subst e6; subst e7
  have hl2:(A1 ++ x :: (A2 ++ R)).length=n:=by rw [← hlen,e5]; simp; omega
  simp only [Zaa_L2b]
  rcases List.eq_nil_or_concat A1 with h0 | ⟨B,y,hB⟩
  · subst h0
    refine Ok.some ?_
    exact ⟨[],A2,by simpa using e5,rfl,e8,by simp⟩
  · rw [List.concat_eq_append] at hB
    subst hB
    have hy:y ∈ A ++ x :: R:=by rw [e5]; simp
    have hx:x ∈ A ++ x :: R:=by simp
    have el:((B ++ [y]).length:Int)=((B.length + 1:Nat):Int):=by simp
    have ew:IntKind.wrap .i64 (((B.length + 1:Nat):Int) - 1)=(B.length:Int):=by
      rw [wrap_id (by simp at hl2; omega) (by simp at hl2; omega)]; omega
    have ecl:((ci (B ++ [y] ++ x :: (A2 ++ R))).length:Int)=(n:Int):=by rw [ci_len]; exact congrArg _ hl2
    have hbn:B.length + 1 < n:=by simp at hl2; omega
    have g1:(ci (B ++ [y] ++ x :: (A2 ++ R)))[B.length + 1]? = some (x:Int):=ci_get (by rw [List.getElem?_append_right (by simp)]; simp)
    have g2:(ci (B ++ [y] ++ x :: (A2 ++ R)))[B.length]? = some (y:Int):=ci_get (by rw [List.append_assoc,List.getElem?_append_right (by simp)]; simp)
    rw [el,ew,ecl,show decide ((0:Int) < ((B.length + 1:Nat):Int))=true from decide_eq_true (by omega),two_ok (by omega) (show ((B.length + 1:Nat):Int) < (n:Int) by omega),two_ok (by omega) (show (B.length:Int) < (n:Int) by omega),Int.toNat_natCast,Int.toNat_natCast,g1,g2]
    simp only [cond_true,bindS]
    rw [Map1_ok keys x y (hk x hx) (hk y hy)]
    simp only [bindS]
    rw [cmpI_neg]
    by_cases hlt:kk keys x < kk keys y
    · rw [show decide (kk keys x < kk keys y)=true from decide_eq_true hlt]
      simp only [cond_true]
      have g3:(List.set (ci (B ++ [y] ++ x :: (A2 ++ R))) (B.length + 1) (y:Int))[B.length]? = some (y:Int):=by
        rw [List.getElem?_set_ne (by omega)]; exact g2
      rw [g3]
      simp only [bindS]
      refine Ok.some ?_
      dsimp only
      refine ⟨⟨rfl,rfl,rfl,rfl,B,y :: A2,by rw [e5]; simp,?_,rfl,?_⟩,by omega⟩
      · rw [List.append_assoc]
        exact swap_ci B (A2 ++ R) x y
      · intro z hz
        rcases List.mem_cons.1 hz with rfl | hz
        · exact hlt
        · exact e8 z hz
    · rw [show decide (kk keys x < kk keys y)=false from decide_eq_false hlt]
      refine Ok.some ?_
      refine ⟨B ++ [y],A2,e5,rfl,e8,?_⟩
      intro z hz
      simp at hz
      subst hz
      omega
def srt (keys:List (BitVec 64)) (l:List Nat):Prop:=l.Pairwise fun a b=>kk keys a ≤ kk keys b
theorem srt_ins {keys:List (BitVec 64)} {A1 A2:List Nat} {x:Nat} (h:srt keys (A1 ++ A2)) (h1:∀ y ∈ A2,kk keys x < kk keys y) (h2:∀ y,A1.getLast? = some y → kk keys y ≤ kk keys x):srt keys (A1 ++ x :: A2):=by
  unfold srt at h ⊢
  rw [List.pairwise_append] at h ⊢
  obtain ⟨p1,p2,p3⟩:=h
  have hx:∀ a ∈ A1,kk keys a ≤ kk keys x:=by
    intro a ha
    rcases List.eq_nil_or_concat A1 with h0 | ⟨B,y,hB⟩
    · rw [h0] at ha; cases ha
    · rw [List.concat_eq_append] at hB
      subst hB
      have hy:=h2 y (by simp)
      rcases List.mem_append.1 ha with ha | ha
      · rw [List.pairwise_append] at p1
        have:=p1.2.2 a ha y (by simp)
        omega
      · simp at ha; subst ha; exact hy
  refine ⟨p1,List.pairwise_cons.2 ⟨fun y hy=>Nat.le_of_lt (h1 y hy),p2⟩,?_⟩
  intro a ha b hb
  rcases List.mem_cons.1 hb with rfl | hb
  · exact hx a ha
  · exact p3 a ha b hb
theorem ins_ok (keys:List (BitVec 64)) (L:List Nat) (hn:L.length ≤ 12) (hk:∀ y ∈ L,y < keys.length):Ok (Zaa (ci L) 0 (L.length:Int) (keys,())) fun z=>∃ o,z=((ci o,()),()) ∧ o.Perm L ∧ srt keys o:=by
  unfold Zaa
  refine Ok.bind (Ok.mono (Q:=fun z=>∃ o,z=(ci o,()) ∧ o.Perm L ∧ srt keys o) ?_ ?_)
  · unfold Zaa_L0
    rw [show IntKind.wrap .i64 ((0:Int) + 1)=((1:Nat):Int) from rfl]
    have h0:∃ A R,L=A ++ R ∧ (A.length=1 ∨ A.length=L.length ∧ L.length < 1):=by
      cases L with
      | nil=>exact ⟨[],[],rfl,.inr (by simp)⟩
      | cons x r=>exact ⟨[x],r,rfl,.inl rfl⟩
    refine Ok.iter (fun q=>q.2.1=0 ∧ q.2.2.1=(L.length:Int) ∧ q.2.2.2.1=(keys,()) ∧ ∃ (i:Nat) (A R:List Nat),q.2.2.2.2.1=(i:Int) ∧ q.1=ci (A ++ R) ∧ (A ++ R).Perm L ∧ srt keys A ∧ (A.length=i ∨ R=[] ∧ L.length < i)) (fun q=>(20 - q.2.2.2.2.1).toNat) ⟨rfl,rfl,rfl,1,?_⟩ (by rw [rounds_eq]; dsimp only; omega) ?_
    · cases L with
      | nil=>exact ⟨[],[],rfl,rfl,.refl _,List.Pairwise.nil,.inr ⟨rfl,by simp⟩⟩
      | cons x r=>exact ⟨[x],r,rfl,rfl,.refl _,List.pairwise_singleton _ _,.inl rfl⟩
    rintro ⟨q0,q1,q2,q3,q4,u⟩ ⟨e1,e2,e3,i,A,R,e4,e5,e6,e7,e8⟩
    dsimp only at *
    subst e1; subst e2; subst e3; subst e4; subst e5
    have hl:=e6.length_eq
    simp only [Zaa_L0b]
    by_cases hi:i < L.length
    · rw [show decide ((i:Int) < (L.length:Int))=true from decide_eq_true (by omega)]
      have hA:A.length=i:=by
        rcases e8 with h | ⟨_,h⟩
        · exact h
        · omega
      cases R with
      | nil=>simp at hl; omega
      | cons x R=>
      have hm:∀ y ∈ A ++ x :: R,y < keys.length:=fun y hy=>hk y (e6.mem_iff.1 hy)
      simp only [cond_true]
      have:=insL2_ok keys L.length i A R x hn hl hm
      rw [hA] at this
      refine Ok.bind (Ok.mono this ?_)
      rintro _ ⟨A1,A2,f1,rfl,f2,f3⟩
      dsimp only
      rw [wrap_id (n:=(i:Int) + 1) (by omega) (by omega)]
      refine Ok.some ?_
      dsimp only
      refine ⟨⟨rfl,rfl,rfl,i + 1,A1 ++ x :: A2,R,rfl,by simp,?_,?_,.inl ?_⟩,by omega⟩
      · refine List.Perm.trans ?_ e6
        rw [f1]
        simp only [List.append_assoc,List.cons_append]
        exact List.Perm.append_left A1 (List.perm_middle.symm)
      · rw [f1] at e7
        exact srt_ins e7 f2 f3
      · rw [← hA,f1]; simp; omega
    · rw [show decide ((i:Int) < (L.length:Int))=false from decide_eq_false (by omega)]
      have hR:R=[]:=by
        rcases e8 with h | ⟨h,_⟩
        · rw [List.length_append] at hl
          exact List.length_eq_zero_iff.1 (by omega)
        · exact h
      subst hR
      rw [List.append_nil] at e6 ⊢
      exact Ok.some ⟨A,rfl,e6,e7⟩
  · rintro _ ⟨o,rfl,h1,h2⟩
    exact Ok.some ⟨o,rfl,h1,h2⟩
theorem bitsLen (n:Nat) (h:n ≤ 12):∃ k,Zbu (BitVec.ofInt 64 (n:Int))=some ((),k,()):=by
  have:n=0 ∨ n=1 ∨ n=2 ∨ n=3 ∨ n=4 ∨ n=5 ∨ n=6 ∨ n=7 ∨ n=8 ∨ n=9 ∨ n=10 ∨ n=11 ∨ n=12:=by omega
  rcases this with rfl | rfl | rfl | rfl | rfl | rfl | rfl | rfl | rfl | rfl | rfl | rfl | rfl
  · exact ⟨0,by kernel_rfl⟩
  · exact ⟨1,by kernel_rfl⟩
  · exact ⟨2,by kernel_rfl⟩
  · exact ⟨2,by kernel_rfl⟩
  · exact ⟨3,by kernel_rfl⟩
  · exact ⟨3,by kernel_rfl⟩
  · exact ⟨3,by kernel_rfl⟩
  · exact ⟨3,by kernel_rfl⟩
  · exact ⟨4,by kernel_rfl⟩
  · exact ⟨4,by kernel_rfl⟩
  · exact ⟨4,by kernel_rfl⟩
  · exact ⟨4,by kernel_rfl⟩
  · exact ⟨4,by kernel_rfl⟩
theorem sort_ok (keys:List (BitVec 64)) (L:List Nat) (hn:L.length ≤ 12) (hk:∀ y ∈ L,y < keys.length):Ok (Zae (ci L) (keys,())) fun z=>∃ o,z=((ci o,()),()) ∧ o.Perm L ∧ srt keys o:=by
  unfold Zae
  obtain ⟨k,hk2⟩:=bitsLen L.length hn
  rw [ci_len,hk2]
  simp only [bindS]
  unfold Zac Zac_L0
  rw [rounds_eq,show (1180591620717411303424:Nat)=1180591620717411303423 + 1 from rfl,iter_succ]
  dsimp only
  unfold Zac_L0b
  rw [wrap_id (n:=(L.length:Int) - 0) (by omega) (by omega),show decide ((L.length:Int) - 0 ≤ 12)=true from decide_eq_true (by omega)]
  simp only [cond_true]
  obtain ⟨_,h1,o,rfl,h2,h3⟩:=ins_ok keys L hn hk
  rw [h1]
  simp only [bindS,Sum.elim_inr]
  exact Ok.some ⟨o,rfl,h2,h3⟩
def prO (keys:List (BitVec 64)) (v:List (List ApiItem)) (o:List Nat):List (List ApiItem):=o.map fun i=>⟨1,keys.getD i 0#64,[]⟩ :: v.getD i []
def nd (keys:List (BitVec 64)) (o:List Nat):Prop:=o.Pairwise fun a b=>kk keys a ≠ kk keys b
def adj (keys:List (BitVec 64)):List Nat → Bool
  | a :: b :: r=>decide (kk keys a=kk keys b) || adj keys (b :: r)
  | _=>false
theorem key_eq (keys:List (BitVec 64)) (i j:Nat):decide (keys.getD i 0#64=keys.getD j 0#64)=decide (kk keys i=kk keys j):=by
  rw [decide_eq_decide]
  exact ⟨fun h=>by unfold kk; rw [h],fun h=>BitVec.eq_of_toNat_eq h⟩
def mapO (keys:List (BitVec 64)) (v:List (List ApiItem)) (o:List Nat):List ApiItem × Int:=
  bif adj keys o then ([],10) else bif !decide (fau v=0) then ([],fau v) else
  bif decide (valO (⟨6,BitVec.ofInt 64 (keys.length:Int),[]⟩ :: (prO keys v o).flatten)=0) then (⟨6,BitVec.ofInt 64 (keys.length:Int),[]⟩ :: (prO keys v o).flatten,0) else ([],valO (⟨6,BitVec.ofInt 64 (keys.length:Int),[]⟩ :: (prO keys v o).flatten))
theorem light1_get {v:List (List ApiItem)} (h:light1 v) (i:Nat):(v.getD i []).length ≤ 600 ∧ ∀ x ∈ v.getD i [],x.data.length < 100000:=by
  rw [List.getD_eq_getElem?_getD]
  cases hi:v[i]? with
  | none=>simp
  | some l=>exact h l (List.mem_of_getElem? hi)
theorem prO_light {keys:List (BitVec 64)} {v:List (List ApiItem)} (h:light1 v):∀ o:List Nat,(prO keys v o).flatten.length ≤ o.length * 601 ∧ ∀ x ∈ (prO keys v o).flatten,x.data.length < 100000
  | []=>by simp [prO]
  | i :: r=>by
    obtain ⟨i1,i2⟩:=prO_light (keys:=keys) h r
    obtain ⟨l1,l2⟩:=light1_get h i
    unfold prO at *
    refine ⟨?_,?_⟩
    · simp only [List.map_cons,List.flatten_cons,List.length_append,List.length_cons,Nat.add_mul]
      omega
    · intro x hx
      simp only [List.map_cons,List.flatten_cons,List.cons_append,List.mem_cons,List.mem_append] at hx
      rcases hx with rfl | hx | hx
      · simp
      · exact l2 x hx
      · exact i2 x hx
theorem getD_get {v:List (List ApiItem)} {i:Nat} (h:i < v.length):getI v (i:Int)=some (v.getD i []):=by
  refine getI_nat ?_
  rw [List.getD_eq_getElem?_getD,List.getElem?_eq_getElem h]
  rfl
theorem range_lt {n:Nat} {o:List Nat} (h:o.Perm (List.range n)):∀ i ∈ o,i < n:=fun i hi=>List.mem_range.1 (h.mem_iff.1 hi)
theorem Map_ok (keys:List (BitVec 64)) (v:List (List ApiItem)) (hk:keys.length ≤ 12) (hl:keys.length=v.length) (hv:light1 v):∃ o:List Nat,o.Perm (List.range keys.length) ∧ srt keys o ∧ cbor_Map keys v=some ((),(mapO keys v o).1,(mapO keys v o).2,()):=by
  unfold cbor_Map
  rw [show decide ((keys.length:Int)=(v.length:Int))=true from decide_eq_true (by omega),show (decide ((0:Int) ≤ (keys.length:Int)) && (decide ((keys.length:Int) ≤ (keys.length:Int)) && decide ((8:Int) * (keys.length:Int) ≤ 281474976710656 ∧ (keys.length:Int) ≤ 9223372036854775807)))=true by simp; omega]
  simp only [Bool.not_true,cond_false,cond_true,Int.toNat_natCast]
  -- the indices
  have e0:cbor_Map_L0 (v,keys,List.replicate keys.length (0:Int),(keys.length:Int),0,())=some (v,keys,ci (List.range keys.length),()):=by
    obtain ⟨z,h1,h2⟩:Ok (cbor_Map_L0 (v,keys,List.replicate keys.length (0:Int),(keys.length:Int),0,())) fun z=>z=(v,keys,ci (List.range keys.length),()):=by
      unfold cbor_Map_L0
      refine Ok.iter (fun q=>q.1=v ∧ q.2.1=keys ∧ q.2.2.2.1=(keys.length:Int) ∧ ∃ i:Nat,i ≤ keys.length ∧ q.2.2.2.2.1=(i:Int) ∧ q.2.2.1=ci (List.range i) ++ List.replicate (keys.length - i) 0) (fun q=>(keys.length - q.2.2.2.2.1).toNat) ⟨rfl,rfl,rfl,0,by omega,rfl,by simp⟩ (by rw [rounds_eq]; dsimp only; omega) ?_
      rintro ⟨q0,q1,q2,q3,q4,u⟩ ⟨e1,e2,e3,i,hi,e4,e5⟩
      dsimp only at *
      subst e1; subst e2; subst e3; subst e4; subst e5
      simp only [cbor_Map_L0b]
      by_cases h:i < q1.length
      · have hlen:(ci (List.range i) ++ List.replicate (q1.length - i) (0:Int)).length=q1.length:=by simp; omega
        rw [hlen,two_ok (by omega) (show (i:Int) < (q1.length:Int) by omega),show decide ((i:Int) < (q1.length:Int))=true from decide_eq_true (by omega),Int.toNat_natCast,List.getElem?_eq_getElem (show i < (ci (List.range i) ++ List.replicate (q1.length - i) (0:Int)).length by omega),wrap_id (n:=(i:Int) + 1) (by omega) (by omega)]
        simp only [cond_true,bindS]
        refine Ok.some ?_
        dsimp only
        refine ⟨⟨rfl,rfl,rfl,i + 1,by omega,rfl,?_⟩,by omega⟩
        rw [List.set_append_right _ _ (by simp),show q1.length - i=(q1.length - (i + 1)) + 1 by omega,List.replicate_succ,List.range_succ]
        simp [ci]
      · rw [show decide ((i:Int) < (q1.length:Int))=false from decide_eq_false (by omega)]
        have:i=q1.length:=by omega
        subst this
        refine Ok.some ?_
        simp
    rw [h1,h2]
  rw [e0]
  simp only [bindS]
  obtain ⟨_,hs1,o,rfl,hs2,hs3⟩:=sort_ok keys (List.range keys.length) (by simpa using hk) (fun y hy=>List.mem_range.1 hy)
  rw [hs1]
  simp only [bindS]
  have hol:o.length=keys.length:=by rw [hs2.length_eq,List.length_range]
  have hor:=range_lt hs2
  refine ⟨o,hs2,hs3,?_⟩
  -- duplicates
  have e2:∀ (r:List Nat) (a:Nat) (j f:Nat),o.drop j=a :: r → r.length < f → iter (fun (y:((List (List ApiItem)) × (List (BitVec 64)) × (List (Int)) × Int × Unit))=>cbor_Map_L2b y.1 y.2.1 y.2.2.1 y.2.2.2.1) f (v,keys,ci o,((j + 1:Nat):Int),())=some (bif adj keys (a :: r) then .inl ([],10,()) else .inr (v,keys,ci o,())):=by
    intro r
    induction r with
    | nil=>
      intro a j f hr hf
      obtain ⟨f,rfl⟩:∃ g,f=g + 1:=⟨f - 1,by omega⟩
      obtain ⟨d1,d2,d3,d4⟩:=drop_cons hr
      rw [iter_succ]
      dsimp only
      unfold cbor_Map_L2b
      rw [ci_len,show decide (((j + 1:Nat):Int) < (o.length:Int))=false from decide_eq_false (by simp at d4; omega)]
      rfl
    | cons b r ih=>
      intro a j f hr hf
      obtain ⟨f,rfl⟩:∃ g,f=g + 1:=⟨f - 1,by omega⟩
      obtain ⟨d1,d2,d3,d4⟩:=drop_cons hr
      obtain ⟨b1,b2,b3,b4⟩:=drop_cons d2
      have ha:=hor a (List.mem_of_getElem? d1)
      have hb:=hor b (List.mem_of_getElem? b1)
      have e1:cbor_Map_L2b v keys (ci o) ((j + 1:Nat):Int)=bif decide (kk keys a=kk keys b) then some (Sum.inr (Sum.inl ([],10,()))) else some (Sum.inl (v,keys,ci o,((j + 1 + 1:Nat):Int),())):=by
        unfold cbor_Map_L2b
        rw [ci_len,wrap_id (n:=((j + 1:Nat):Int) - 1) (by omega) (by omega),show ((j + 1:Nat):Int) - 1=(j:Int) by omega,two_ok (by omega) (show (j:Int) < (o.length:Int) by omega),two_ok (by omega) (show ((j + 1:Nat):Int) < (o.length:Int) by omega),show decide (((j + 1:Nat):Int) < (o.length:Int))=true from decide_eq_true (by omega),Int.toNat_natCast,Int.toNat_natCast,ci_get d1,ci_get b1,wrap_id (n:=((j + 1:Nat):Int) + 1) (by omega) (by omega)]
        simp only [cond_true,bindS]
        rw [kk_get ha,kk_get hb]
        simp only [bindS]
        rw [key_eq]
        rfl
      rw [iter_succ]
      dsimp only
      rw [e1]
      unfold adj
      cases hq:decide (kk keys a=kk keys b)
      · simp only [cond_false,bindS,Sum.elim_inl,Bool.false_or]
        exact ih b (j + 1) f d2 (by simp at hf; omega)
      · rfl
  have e3:cbor_Map_L2 (v,keys,ci o,1,())=some (bif adj keys o then .inl ([],10,()) else .inr (v,keys,ci o,())):=by
    unfold cbor_Map_L2
    cases ho:o with
    | nil=>
      rw [rounds_eq,show (1180591620717411303424:Nat)=1180591620717411303423 + 1 from rfl,iter_succ]
      rfl
    | cons a r=>
      have:=e2 r a 0 rounds (by rw [ho]; rfl) (by rw [rounds_eq]; rw [ho] at hol; simp at hol; omega)
      rw [ho] at this
      exact this
  rw [e3]
  unfold mapO
  cases hadj:adj keys o
  · simp only [cond_false,bindS,Sum.elim_inr]
    rw [faulty_ok v hv (by omega)]
    simp only [bindS]
    by_cases h0:fau v=0
    · rw [show decide (fau v=0)=true from decide_eq_true h0]
      simp only [Bool.not_true,cond_false]
      -- the collecting
      have e4 : ∀ (r : List Nat) (j f : Nat) (out : List ApiItem), o.drop j = r → r.length < f → out.length ≤ j * 601 + 1 → iter (fun (y : ((List (List ApiItem)) × (List (BitVec 64)) × (List (ApiItem)) × (List (Int)) × Int × Int × Unit)) => cbor_Map_L4b y.1 y.2.1 y.2.2.1 y.2.2.2.1 y.2.2.2.2.1 y.2.2.2.2.2.1) f (v, keys, out, ci o, (o.length : Int), (j : Int), ()) = some (gat out (prO keys v r), ()) := by
        intro r
        induction r with
        | nil=>
          intro j f out hr hf ho
          obtain ⟨f,rfl⟩:∃ g,f=g + 1:=⟨f - 1,by omega⟩
          have hjl:o.length ≤ j:=by
            have:=congrArg List.length hr
            simp at this
            omega
          rw [iter_succ]
          dsimp only
          unfold cbor_Map_L4b
          rw [show decide ((j:Int) < (o.length:Int))=false from decide_eq_false (by omega)]
          rfl
        | cons b r ih=>
          intro j f out hr hf ho
          obtain ⟨f,rfl⟩:∃ g,f=g + 1:=⟨f - 1,by omega⟩
          obtain ⟨d1,d2,d3,d4⟩:=drop_cons hr
          have hb:=hor b (List.mem_of_getElem? d1)
          obtain ⟨l1,_⟩:=light1_get hv b
          have e1:cbor_Map_L4b v keys out (ci o) (o.length:Int) (j:Int)=bif decide (512 < out.length) then some (Sum.inr (out,())) else some (Sum.inl (v,keys,out ++ (⟨1,keys.getD b 0#64,[]⟩ :: v.getD b []),ci o,(o.length:Int),((j + 1:Nat):Int),())):=by
            unfold cbor_Map_L4b
            rw [ci_len,two_ok (by omega) (show (j:Int) < (o.length:Int) by omega),show decide ((j:Int) < (o.length:Int))=true from decide_eq_true (by omega),Int.toNat_natCast,ci_get d1,wrap_id (n:=(j:Int) + 1) (by omega) (by omega)]
            simp only [cond_true,bindS]
            rw [show decide ((512:Int) < (out.length:Int))=decide (512 < out.length) by rw [decide_eq_decide]; omega]
            cases decide (512 < out.length)
            · simp only [cond_false]
              rw [kk_get hb]
              simp only [bindS,Zcp]
              rw [small32 (by simp only [List.length_cons,List.length_nil]; omega),getD_get (show b < v.length by omega)]
              simp only [cond_true,bindS]
              rw [small32 (by simp only [List.length_append,List.length_cons,List.length_nil]; omega)]
              simp
            · rfl
          rw [iter_succ]
          dsimp only
          rw [e1]
          have hpr:prO keys v (b :: r)=(⟨1,keys.getD b 0#64,[]⟩ :: v.getD b []) :: prO keys v r:=rfl
          rw [hpr]
          unfold gat
          cases decide (512 < out.length)
          · exact ih (j + 1) f (out ++ (⟨1,keys.getD b 0#64,[]⟩ :: v.getD b [])) d2 (by simp at hf; omega) (by rw [List.length_append,List.length_cons,Nat.add_mul]; omega)
          · rfl
      have e5:=e4 o 0 rounds [⟨6,BitVec.ofInt 64 (keys.length:Int),[]⟩] rfl (by rw [rounds_eq]; omega) (by simp)
      have e6:cbor_Map_L4 (v,keys,[⟨6,BitVec.ofInt 64 (keys.length:Int),[]⟩],ci o,((ci o).length:Int),0,())=some (gat [⟨6,BitVec.ofInt 64 (keys.length:Int),[]⟩] (prO keys v o),()):=by
        rw [ci_len]
        exact e5
      rw [e6]
      simp only [bindS]
      obtain ⟨l1,l2⟩:=prO_light (keys:=keys) hv o
      obtain ⟨s1,s2⟩:=gat_sub (prO keys v o) [⟨6,BitVec.ofInt 64 (keys.length:Int),[]⟩]
      rw [checked_ok _ (by rw [List.length_append,List.length_singleton] at s1; omega) (fun x hx=>by
        rcases List.mem_append.1 (s2 x hx) with hx | hx
        · simp at hx; subst hx; simp
        · exact l2 x hx)]
      simp only [bindS]
      rw [arr_fin,(gat_val (prO keys v o) _).1,List.singleton_append]
      by_cases h1:valO (⟨6,BitVec.ofInt 64 (keys.length:Int),[]⟩ :: (prO keys v o).flatten)=0
      · rw [h1]; rfl
      · rw [show decide (valO (⟨6,BitVec.ofInt 64 (keys.length:Int),[]⟩ :: (prO keys v o).flatten)=0)=false from decide_eq_false h1]; rfl
    · rw [show decide (fau v=0)=false from decide_eq_false h0]
      rfl
  · rfl
theorem skp_app:∀ (l r:List ApiItem) (need m:Nat),skp l need=some l.length → skp (l ++ r) (need + m)=(skp r m).map (· + l.length)
  | [],r,need,m,h=>by
    cases need with
    | zero=>simp only [List.nil_append,Nat.zero_add,List.length_nil]; exact map0 _
    | succ k=>simp [skp] at h
  | x :: t,r,need,m,h=>by
    cases need with
    | zero=>rw [skp_zero] at h; simp at h
    | succ k=>
      simp only [skp,List.cons_append,Nat.succ_add] at h ⊢
      cases hb:(isN x.kind && decide (512 < x.number.toNat))
      · rw [hb] at h
        simp only [cond_false] at h ⊢
        have h2:skp t (k + addI x)=some t.length:=by
          cases hq:skp t (k + addI x) with
          | none=>rw [hq] at h; simp at h
          | some n=>rw [hq] at h; simp at h; rw [h]
        have ih:=skp_app t r (k + addI x) m h2
        rw [show k + m + addI x=k + addI x + m by omega,ih,mapmap,List.length_cons,Nat.add_comm 1]
      · rw [hb] at h
        simp at h
theorem skp_val {l:List ApiItem} (h:valO l=0) (r:List ApiItem) (m:Nat):skp (l ++ r) (m + 1)=(skp r m).map (· + l.length):=by
  have hw:=valO_W h
  have h1:=W_skp 12 l 0 0 false [] (by rw [hw]) 0
  rw [hw,skp_zero] at h1
  have h2:skp l 1=some l.length:=by rw [h1]; simp
  rw [Nat.add_comm m 1]
  exact skp_app l r 1 m h2
theorem fau_zero:∀ {v:List (List ApiItem)},fau v=0 → ∀ l ∈ v,valO l=0
  | [],_,l,hl=>by cases hl
  | q :: r,h,l,hl=>by
    unfold fau at h
    by_cases h0:valO q=0
    · rw [show decide (valO q=0)=true from decide_eq_true h0] at h
      rcases List.mem_cons.1 hl with rfl | hl
      · exact h0
      · exact fau_zero h l hl
    · rw [show decide (valO q=0)=false from decide_eq_false h0] at h
      exact absurd h h0
theorem pairs_prO {keys:List (BitVec 64)} {v:List (List ApiItem)} (hf:fau v=0):∀ o:List Nat,(∀ i ∈ o,i < v.length) → PairsAt o.length (prO keys v o).flatten [] (o.map fun i=>(⟨1,keys.getD i 0#64,[]⟩,v.getD i []))
  | [],_=>PairsAt.nil []
  | i :: r,h=>by
    have hi:=h i (by simp)
    have hm:v.getD i [] ∈ v:=by
      rw [List.getD_eq_getElem?_getD,List.getElem?_eq_getElem hi]
      exact List.getElem_mem hi
    have hv:=fau_zero hf _ hm
    have ih:=pairs_prO (keys:=keys) hf r fun j hj=>h j (by simp [hj])
    exact PairsAt.cons (x:=⟨1,keys.getD i 0#64,[]⟩) rfl (fun m=>skp_val hv _ m) (valO_ne hv) ih
theorem lkP_find {keys:List (BitVec 64)} {v:List (List ApiItem)} (i:Nat):∀ o:List Nat,nd keys o → i ∈ o → lkP (keys.getD i 0#64) (o.map fun i=>(⟨1,keys.getD i 0#64,[]⟩,v.getD i []))=(v.getD i [],true)
  | [],_,h=>by cases h
  | j :: r,hn,h=>by
    unfold nd at hn
    obtain ⟨h1,h2⟩:=List.pairwise_cons.1 hn
    simp only [List.map_cons,lkP]
    by_cases hij:i=j
    · subst hij
      simp
    · have hr:i ∈ r:=by
        rcases List.mem_cons.1 h with h | h
        · exact absurd h hij
        · exact h
      have hne:=h1 i hr
      have:decide (keys.getD j 0#64=keys.getD i 0#64)=false:=by
        rw [key_eq]
        exact decide_eq_false hne
      rw [this,Bool.and_false]
      simp only [cond_false]
      exact lkP_find i r h2 hr
end Go.Proofs.YtghfcfjnfgmkgaaDoor

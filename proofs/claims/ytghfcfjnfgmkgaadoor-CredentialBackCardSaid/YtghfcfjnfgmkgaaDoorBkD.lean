/- Out of the texts of the other seat of this chapter: what the law CredentialBack needs. Written by a program. -/
import Derived.Test.YtghfcfjnfgmkgaaDoorBkC
import Derived.Test.YtghfcfjnfgmkgaaDoorBkH
set_option linter.unusedVariables false
set_option linter.unusedSimpArgs false
set_option maxRecDepth 100000
namespace Go.Proofs.YtghfcfjnfgmkgaaDoor
open Go Go.Abs
def rngC (c:ApiCredential):Bool:=(decide ((1:Int) ≤ (c.rP.length:Int)) && decide ((c.rP.length:Int) ≤ 64)) && ((decide ((1:Int) ≤ (c.user.length:Int)) && decide ((c.user.length:Int) ≤ 16)) && (!decide ((32:Int) < (c.name.length:Int)) && ((decide ((1:Int) ≤ c.height) && decide (c.height ≤ 4)) && (decide ((1:Int) ≤ c.protect) && decide (c.protect ≤ 3)))))
def valC (c:ApiCredential):Int:=bif rngC c then (bif Lib.validD c.rP && Lib.validD c.name then (bif (c.shared && !c.resident) || (c.backed && !c.shared) then 18 else 0) else 6) else 9
theorem cValidate_ok (c:ApiCredential) (h1:c.rP.length < 1000000) (h2:c.name.length < 1000000):Zaj c=some ((),valC c,()):=by
  obtain ⟨rp,us,nm,sd,ht,rs,pr,sh,bk⟩:=c
  dsimp only at h1 h2
  unfold Zaj valC rngC Zav
  simp only [ValidString_ok h1,ValidString_ok h2]
  generalize decide ((1:Int) ≤ (rp.length:Int))=b1
  generalize decide ((rp.length:Int) ≤ 64)=b2
  generalize decide ((1:Int) ≤ (us.length:Int))=b3
  generalize decide ((us.length:Int) ≤ 16)=b4
  generalize decide ((32:Int) < (nm.length:Int))=b5
  generalize decide ((1:Int) ≤ ht)=b6
  generalize decide (ht ≤ 4)=b7
  generalize decide ((1:Int) ≤ pr)=b8
  generalize decide (pr ≤ 3)=b9
  generalize Lib.validD rp=v1
  generalize Lib.validD nm=v2
  cases b1
  · rfl
  cases b2
  · rfl
  cases b3
  · rfl
  cases b4
  · rfl
  cases b5
  case true=>rfl
  cases b6
  · rfl
  cases b7
  · rfl
  cases b8
  · rfl
  cases b9
  · rfl
  cases v1
  · rfl
  cases v2
  · rfl
  cases sh <;> cases rs <;> cases bk <;> rfl
structure OkC (c:ApiCredential):Prop where
  rp1:1 ≤ c.rP.length
  rp:c.rP.length ≤ 64
  us1:1 ≤ c.user.length
  us:c.user.length ≤ 16
  nm:c.name.length ≤ 32
  ht1:1 ≤ c.height
  ht:c.height ≤ 4
  pr1:1 ≤ c.protect
  pr:c.protect ≤ 3
  vr:Lib.validD c.rP=true
  vn:Lib.validD c.name=true
theorem valC_zero {c:ApiCredential} (h:valC c=0):OkC c:=by
  unfold valC at h
  cases hr:rngC c with
  | false=>rw [hr] at h; cases h
  | true=>
    rw [hr,cond_true] at h
    cases hv:(Lib.validD c.rP && Lib.validD c.name) with
    | false=>rw [hv] at h; cases h
    | true=>
      unfold rngC at hr
      simp only [Bool.and_eq_true,decide_eq_true_eq,Bool.not_eq_true',decide_eq_false_iff_not] at hr hv
      obtain ⟨⟨a1,a2⟩,⟨a3,a4⟩,a5,⟨a6,a7⟩,a8,a9⟩:=hr
      exact ⟨by omega,by omega,by omega,by omega,by omega,a6,a7,a8,a9,hv.1,hv.2⟩
def bI (b:Bool):ApiItem:=⟨7,bif b then 1#64 else 0#64,[]⟩
def keysC:List (BitVec 64):=[1#64,2#64,3#64,4#64,5#64,6#64,7#64,8#64,9#64]
def valsC (c:ApiCredential):List (List ApiItem):=[[⟨4,0#64,c.rP⟩],[⟨3,0#64,c.user⟩],[⟨4,0#64,c.name⟩],[⟨1,c.seed,[]⟩],[⟨1,BitVec.ofInt 64 c.height,[]⟩],[bI c.resident],[⟨1,BitVec.ofInt 64 c.protect,[]⟩],[bI c.shared],[bI c.backed]]
def itemsC (c:ApiCredential):List ApiItem:=[⟨6,9#64,[]⟩,⟨1,1#64,[]⟩,⟨4,0#64,c.rP⟩,⟨1,2#64,[]⟩,⟨3,0#64,c.user⟩,⟨1,3#64,[]⟩,⟨4,0#64,c.name⟩,⟨1,4#64,[]⟩,⟨1,c.seed,[]⟩,⟨1,5#64,[]⟩,⟨1,BitVec.ofInt 64 c.height,[]⟩,⟨1,6#64,[]⟩,bI c.resident,⟨1,7#64,[]⟩,⟨1,BitVec.ofInt 64 c.protect,[]⟩,⟨1,8#64,[]⟩,bI c.shared,⟨1,9#64,[]⟩,bI c.backed]
theorem leaf_txt {k:Int} {l:List UInt8} (hk:k=3 ∨ k=4) (hl:l.length ≤ 1024) (hv:Lib.validD l=true ∨ k=3):VT 1 [⟨k,0#64,l⟩]:=by
  have hb:big ⟨k,0#64,l⟩=false:=by
    unfold big isN
    rcases hk with rfl | rfl <;> (dsimp only; rw [decide_eq_false (by omega:¬ 1024 < l.length)]; rfl)
  rcases hk with rfl | rfl
  · exact VT_leaf (by dsimp only; decide) (by dsimp only; decide) fun n d b hn hd=>chk_leaf (by dsimp only; decide) (by dsimp only; decide) rfl hb (fun h=>by cases h) hn hd
  · refine VT_leaf (by dsimp only; decide) (by dsimp only; decide) fun n d b hn hd=>chk_leaf (by dsimp only; decide) (by dsimp only; decide) rfl hb (fun _=>?_) hn hd
    rcases hv with h | h
    · exact h
    · cases h
theorem leaf_num (n:BitVec 64):VT 1 [⟨1,n,[]⟩]:=VT_leaf (x:=⟨1,n,[]⟩) (by dsimp only; decide) (by dsimp only; decide) fun _ d b hn hd=>chk_leaf (x:=⟨1,n,[]⟩) (by dsimp only; decide) (by dsimp only; decide) rfl rfl (fun h=>by cases h) hn hd
theorem leaf_bool (q:Bool):VT 1 [bI q]:=by
  cases q <;> exact VT_leaf (by decide) (by decide) fun _ d b hn hd=>chk_leaf (by decide) (by decide) (by decide) (by decide) (fun h=>by cases h) hn hd
theorem VT_val {h:Nat} {o:List ApiItem} (hh:h ≤ 9) (hl:o.length ≤ 512) (H:VT h o):valO o=0:=by
  have hv:=H 12 0 0 [] [] (by omega) (by omega) (by omega)
  rw [List.append_nil] at hv
  unfold valO
  rw [(W_mach getL_ok 12 (by omega) o).2 (by rw [hv]),hv]
  rfl
theorem vals_VT {c:ApiCredential} (h:OkC c):∀ o ∈ valsC c,VT 1 o ∧ o.length=1 ∧ ∀ x ∈ o,x.data.length < 100000:=by
  have h1:=h.rp
  have h2:=h.us
  have h3:=h.nm
  intro o ho
  simp only [valsC,List.mem_cons,List.not_mem_nil,or_false] at ho
  rcases ho with rfl | rfl | rfl | rfl | rfl | rfl | rfl | rfl | rfl
  · exact ⟨leaf_txt (.inr rfl) (by omega) (.inl h.vr),rfl,by simp; omega⟩
  · exact ⟨leaf_txt (.inl rfl) (by omega) (.inr rfl),rfl,by simp; omega⟩
  · exact ⟨leaf_txt (.inr rfl) (by omega) (.inl h.vn),rfl,by simp; omega⟩
  · exact ⟨leaf_num _,rfl,by simp⟩
  · exact ⟨leaf_num _,rfl,by simp⟩
  · exact ⟨leaf_bool _,rfl,by simp [bI]⟩
  · exact ⟨leaf_num _,rfl,by simp⟩
  · exact ⟨leaf_bool _,rfl,by simp [bI]⟩
  · exact ⟨leaf_bool _,rfl,by simp [bI]⟩
theorem fau_of:∀ {v:List (List ApiItem)},(∀ l ∈ v,valO l=0) → fau v=0
  | [],_=>rfl
  | l :: r,h=>by
    unfold fau
    rw [h l (by simp),decide_eq_true rfl,cond_true]
    exact fau_of fun q hq=>h q (by simp [hq])
theorem fau_vals {c:ApiCredential} (h:OkC c):fau (valsC c)=0:=fau_of fun o ho=>VT_val (by omega) (by have:=(vals_VT h o ho).2.1; omega) (vals_VT h o ho).1
theorem light_vals {c:ApiCredential} (h:OkC c):light1 (valsC c):=fun o ho=>⟨by have:=(vals_VT h o ho).2.1; omega,(vals_VT h o ho).2.2⟩
theorem keysOk_C:keysOk [] (keysC.map fun k=>(⟨1,k,[]⟩:ApiItem)):=by
  have K:∀ (k:BitVec 64) (last:List UInt8),(last=[] ∨ lss last (enc ⟨1,k,[]⟩)=true) → ∀ n d,n < 512 → d ≤ 8 → chk ⟨1,k,[]⟩ n d true last=0:=fun k last h n d hn hd=>chk_key (x:=⟨1,k,[]⟩) (.inl rfl) rfl rfl (fun h=>by cases h) h hn hd
  exact ⟨rfl,K _ _ (.inl rfl),rfl,K _ _ (.inr (by decide +kernel)),rfl,K _ _ (.inr (by decide +kernel)),rfl,K _ _ (.inr (by decide +kernel)),rfl,K _ _ (.inr (by decide +kernel)),rfl,K _ _ (.inr (by decide +kernel)),rfl,K _ _ (.inr (by decide +kernel)),rfl,K _ _ (.inr (by decide +kernel)),rfl,K _ _ (.inr (by decide +kernel)),trivial⟩
theorem valO_items {c:ApiCredential} (h:OkC c):valO (itemsC c)=0:=
  VT_val (h:=2) (by omega) (by simp [itemsC]) (VT_map (h:=1) (k:=9) (ks:=keysC.map fun k=>(⟨1,k,[]⟩:ApiItem)) (os:=valsC c) rfl rfl (by omega) (by omega) keysOk_C fun o ho=>(vals_VT h o ho).1)
theorem kk_inj:∀ (a b:Fin 9),kk keysC a.val=kk keysC b.val → a=b:=by decide +kernel
theorem srt_range:srt keysC (List.range 9):=by
  unfold srt
  decide +kernel
theorem order_C {o:List Nat} (hp:o.Perm (List.range 9)) (hs:srt keysC o):o=List.range 9:=
  hp.eq_of_pairwise (le:=fun a b=>kk keysC a ≤ kk keysC b) (fun a b ha hb h1 h2=>by
    have ha':a < 9:=range_lt hp a ha
    have hb':b < 9:=List.mem_range.1 hb
    have:=kk_inj ⟨a,ha'⟩ ⟨b,hb'⟩ (Nat.le_antisymm h1 h2)
    exact congrArg Fin.val this) hs srt_range
theorem items_eq (c:ApiCredential):(⟨6,BitVec.ofInt 64 (keysC.length:Int),[]⟩:ApiItem) :: (prO keysC (valsC c) (List.range 9)).flatten=itemsC c:=rfl
theorem cMap_ok {c:ApiCredential} (h:OkC c):cbor_Map keysC (valsC c)=some ((),itemsC c,0,()):=by
  obtain ⟨o,h1,h2,h3⟩:=Map_ok keysC (valsC c) (by decide) rfl (light_vals h)
  have ho:=order_C h1 h2
  subst ho
  have hm:mapO keysC (valsC c) (List.range 9)=(itemsC c,0):=by
    unfold mapO
    rw [show adj keysC (List.range 9)=false by decide +kernel,fau_vals h,items_eq,valO_items h]
    rfl
  rw [h3,hm]
theorem items_data {c:ApiCredential} (h:OkC c):∀ x ∈ itemsC c,x.data.length < 100000:=by
  have h1:=h.rp
  have h2:=h.us
  have h3:=h.nm
  intro x hx
  simp only [itemsC,List.mem_cons,List.not_mem_nil,or_false] at hx
  rcases hx with rfl | rfl | rfl | rfl | rfl | rfl | rfl | rfl | rfl | rfl | rfl | rfl | rfl | rfl | rfl | rfl | rfl | rfl | rfl <;> first | exact Nat.lt_of_le_of_lt (Nat.zero_le _) (by omega) | (dsimp only; omega) | (dsimp only [bI,List.length_nil]; omega)
def bytC (c:ApiCredential):List UInt8:=encA (itemsC c)
def encP (c:ApiCredential):List UInt8 × Int:=bif decide (valC c=0) then (bytC c,0) else ([],valC c)
theorem encO_items {c:ApiCredential} (h:OkC c):encO (itemsC c)=(bytC c,0):=by
  unfold encO
  rw [valO_items h]
  rfl
theorem Bool_ok (b:Bool):Zcn b=some ((),[bI b],()):=by cases b <;> rfl
theorem cEncode_ok (c:ApiCredential) (h1:c.rP.length < 1000000) (h2:c.name.length < 1000000):Zat c=some ((),(encP c).1,(encP c).2,()):=by
  unfold Zat encP
  rw [cValidate_ok c h1 h2]
  simp only [bindS]
  by_cases h:valC c=0
  · have hc:=valC_zero h
    simp only [h,decide_true,Bool.not_true,cond_false,cond_true,Bool_ok,bindS,Zco,Zci,Zcp]
    have hm:=cMap_ok hc
    unfold keysC valsC at hm
    rw [hm]
    simp only [bindS,decide_true,Bool.not_true,cond_false]
    rw [Encode_ok (itemsC c) (by simp [itemsC]) (items_data hc),encO_items hc]
    rfl
  · simp only [h,decide_false,Bool.not_false,cond_true,cond_false]
theorem awakeC_ok:Zaq=some ((),true,()):=by kernel_rfl
theorem awakeC:Ok (Zaq.bind fun r=>some ((),(r.2.1,()))) fun r=>r.2.1=true:=by
  rw [awakeC_ok]; exact ⟨_,rfl,rfl⟩
theorem tmod3 (k:Nat):∃ j:Nat,j < 3 ∧ Int.tmod (k:Int) 3=(j:Int):=⟨k % 3,Nat.mod_lt _ (by omega),by rw [Int.tmod_eq_emod_of_nonneg (by omega)]; omega⟩
theorem three {j:Nat} (h:j < 3):j=0 ∨ j=1 ∨ j=2:=by omega
theorem RP_ok (n:Int):∃ l,Zbo n=some ((),l,()) ∧ 1 ≤ l.length ∧ l.length ≤ 64 ∧ Lib.validD l=true:=by
  obtain ⟨k,hk,e⟩:=mask n 65535 (by omega)
  obtain ⟨j,hj,ej⟩:=tmod3 k
  unfold Zbo
  dsimp only
  rw [show ((65535:Nat):Int)=(65535:Int) from rfl] at e
  rw [e,ej]
  rcases three hj with rfl | rfl | rfl
  · exact ⟨_,rfl,by decide,by decide,by decide +kernel⟩
  · exact ⟨_,rfl,by decide,by decide,by decide +kernel⟩
  · exact ⟨_,rfl,by decide,by decide,by decide +kernel⟩
theorem User_ok (n:Int):∃ l,Zbe n=some ((),l,()) ∧ 1 ≤ l.length ∧ l.length ≤ 16:=by
  obtain ⟨k,hk,e⟩:=mask n 65535 (by omega)
  obtain ⟨j,hj,ej⟩:=tmod3 k
  unfold Zbe
  dsimp only
  rw [show ((65535:Nat):Int)=(65535:Int) from rfl] at e
  rw [e,ej]
  rcases three hj with rfl | rfl | rfl
  · exact ⟨_,rfl,by decide,by decide⟩
  · exact ⟨_,rfl,by decide,by decide⟩
  · exact ⟨_,rfl,by decide,by decide⟩
theorem valC_of {c:ApiCredential} (h:OkC c) (h1:c.shared=true → c.resident=true) (h2:c.backed=true → c.shared=true):valC c=0:=by
  have hr:rngC c=true:=by
    have a1:=h.rp1
    have a2:=h.rp
    have a3:=h.us1
    have a4:=h.us
    have a5:=h.nm
    unfold rngC
    rw [decide_eq_true (by omega:(1:Int) ≤ (c.rP.length:Int)),decide_eq_true (by omega:(c.rP.length:Int) ≤ 64),decide_eq_true (by omega:(1:Int) ≤ (c.user.length:Int)),decide_eq_true (by omega:(c.user.length:Int) ≤ 16),decide_eq_false (by omega:¬ (32:Int) < (c.name.length:Int)),decide_eq_true h.ht1,decide_eq_true h.ht,decide_eq_true h.pr1,decide_eq_true h.pr]
    rfl
  unfold valC
  rw [hr,h.vr,h.vn]
  cases hs:c.shared with
  | true=>rw [h1 hs]; cases c.backed <;> rfl
  | false=>
    cases hb:c.backed with
    | true=>rw [h2 hb] at hs; cases hs
    | false=>rfl
theorem Cred_ok (k:Nat) (hk:k ≤ 1048575):Ok (Zag (k:Int)) fun r=>valC r.2.1=0:=by
  unfold Zag
  obtain ⟨rp,e1,r1,r2,r3⟩:=RP_ok (k:Int)
  rw [e1]
  dsimp only [Option.bind]
  obtain ⟨us,e2,u1,u2⟩:=User_ok (Int.fdiv (k:Int) (2 ^ (min 2 (IntKind.bits .i64))))
  rw [e2]
  dsimp only [Option.bind]
  obtain ⟨a,b,e3⟩:=Text_ok (Int.fdiv (k:Int) (2 ^ (min 4 (IntKind.bits .i64))))
  rw [e3]
  dsimp only [Option.bind]
  obtain ⟨t1,t2⟩:=text_valid a b
  obtain ⟨k1,hk1,m1⟩:=mask (Int.fdiv (k:Int) (2 ^ (min 3 (IntKind.bits .i64)))) 1 (by omega)
  obtain ⟨k2,hk2,m2⟩:=mask (Int.fdiv (k:Int) (2 ^ (min 7 (IntKind.bits .i64)))) 1 (by omega)
  obtain ⟨k3,hk3,m3⟩:=mask (Int.fdiv (k:Int) (2 ^ (min 8 (IntKind.bits .i64)))) 1 (by omega)
  obtain ⟨k4,hk4,m4⟩:=mask (Int.fdiv (k:Int) (2 ^ (min 9 (IntKind.bits .i64)))) 1 (by omega)
  rw [show ((1:Nat):Int)=(1:Int) from rfl] at m1 m2 m3 m4
  rw [m1,m2,m3,m4]
  have e5:Int.fdiv (k:Int) (2 ^ (min 5 (IntKind.bits .i64)))=((k / 32:Nat):Int):=by
    rw [show (2:Int) ^ (min 5 (IntKind.bits .i64))=32 from rfl,Int.fdiv_eq_ediv_of_nonneg _ (by omega)]
    omega
  rw [e5]
  obtain ⟨j,hj,ej⟩:=tmod3 (k / 32)
  rw [ej]
  have w1:IntKind.wrap .i64 ((1:Int) + (k1:Int))=1 + (k1:Int):=wrap_id (by omega) (by omega)
  have w2:IntKind.wrap .i64 ((1:Int) + (j:Int))=1 + (j:Int):=wrap_id (by omega) (by omega)
  rw [w1,w2]
  have H:∀ (s:BitVec 64) (q1 q2 q3:Bool),OkC ⟨rp,us,words.getD a.val [] ++ words.getD b.val [],s,1 + (k1:Int),q1,1 + (j:Int),q2,q3⟩:=fun s q1 q2 q3=>
    ⟨r1,r2,u1,u2,t2,by dsimp only; omega,by dsimp only; omega,by dsimp only; omega,by dsimp only; omega,r3,t1⟩
  cases h2:decide ((k2:Int)=1) with
  | false=>exact Ok.some (valC_of (H _ _ _ _) (fun h=>by cases h) (fun h=>by cases h))
  | true=>
    simp only [cond_true]
    cases h3:decide ((k3:Int)=1) with
    | false=>exact Ok.some (valC_of (H _ _ _ _) (fun h=>by cases h) (fun h=>by cases h))
    | true=>exact Ok.some (valC_of (H _ _ _ _) (fun h=>rfl) (fun h=>rfl))
theorem len_txt {k:Int} {l:List UInt8} (hk:k=3 ∨ k=4) (hl:l.length < 256):(enc ⟨k,0#64,l⟩).length ≤ 2 + l.length:=by
  have h7:hdI ⟨k,0#64,l⟩=hdr (mj k) (BitVec.ofInt 64 (l.length:Int)):=by rcases hk with rfl | rfl <;> rfl
  have hn:(BitVec.ofInt 64 (l.length:Int)).toNat=l.length:=len_nat (by omega)
  unfold enc
  rw [h7,hdr_eq,List.length_append,List.length_cons,beb_len]
  have:sho (BitVec.ofInt 64 (l.length:Int)) ≤ 1:=by
    unfold sho
    rw [hn]
    cases decide (l.length < 24) with
    | true=>exact Nat.zero_le _
    | false=>rw [cond_false,decide_eq_true hl,cond_true]; exact Nat.le_refl _
  dsimp only
  omega
theorem len_num (n:BitVec 64):(enc ⟨1,n,[]⟩).length ≤ 9:=by
  unfold enc
  rw [List.append_nil]
  exact (hdI_len _).2
theorem len_bool (b:Bool):(enc (bI b)).length=1:=by cases b <;> decide +kernel
theorem len_small {n:Int} (h1:1 ≤ n) (h2:n ≤ 4):(enc ⟨1,BitVec.ofInt 64 n,[]⟩).length=1:=by
  have:n=1 ∨ n=2 ∨ n=3 ∨ n=4:=by omega
  rcases this with rfl | rfl | rfl | rfl <;> decide +kernel
theorem bytC_len {c:ApiCredential} (h:OkC c):(bytC c).length ≤ 160:=by
  have a1:=len_txt (k:=4) (l:=c.rP) (.inr rfl) (by have:=h.rp; omega)
  have a2:=len_txt (k:=3) (l:=c.user) (.inl rfl) (by have:=h.us; omega)
  have a3:=len_txt (k:=4) (l:=c.name) (.inr rfl) (by have:=h.nm; omega)
  have a4:=len_num c.seed
  have a5:=len_small h.ht1 h.ht
  have a6:=len_small h.pr1 (by have:=h.pr; omega)
  have a7:=len_bool c.resident
  have a8:=len_bool c.shared
  have a9:=len_bool c.backed
  have b1:=h.rp
  have b2:=h.us
  have b3:=h.nm
  have k0:(enc ⟨6,9#64,[]⟩).length=1:=by decide +kernel
  have k1:(enc ⟨1,1#64,[]⟩).length=1:=by decide +kernel
  have k2:(enc ⟨1,2#64,[]⟩).length=1:=by decide +kernel
  have k3:(enc ⟨1,3#64,[]⟩).length=1:=by decide +kernel
  have k4:(enc ⟨1,4#64,[]⟩).length=1:=by decide +kernel
  have k5:(enc ⟨1,5#64,[]⟩).length=1:=by decide +kernel
  have k6:(enc ⟨1,6#64,[]⟩).length=1:=by decide +kernel
  have k7:(enc ⟨1,7#64,[]⟩).length=1:=by decide +kernel
  have k8:(enc ⟨1,8#64,[]⟩).length=1:=by decide +kernel
  have k9:(enc ⟨1,9#64,[]⟩).length=1:=by decide +kernel
  unfold bytC itemsC
  simp only [encA_cons,List.length_append]
  rw [k0,k1,k2,k3,k4,k5,k6,k7,k8,k9,a5,a6,a7,a8,a9,show (encA []).length=0 from rfl]
  clear k0 k1 k2 k3 k4 k5 k6 k7 k8 k9 a5 a6 a7 a8 a9
  generalize (enc ⟨4,0#64,c.rP⟩).length=n1 at a1 ⊢
  generalize (enc ⟨3,0#64,c.user⟩).length=n2 at a2 ⊢
  generalize (enc ⟨4,0#64,c.name⟩).length=n3 at a3 ⊢
  generalize (enc ⟨1,c.seed,[]⟩).length=n4 at a4 ⊢
  omega
theorem lkP_mem {key:BitVec 64} {k:Nat} {s t:List ApiItem} {ps:List (ApiItem × List ApiItem)} (h:PairsAt k s t ps):∀ y ∈ (lkP key ps).1,y ∈ s:=by
  induction h with
  | nil=>intro y hy; simp [lkP] at hy
  | @cons k x v r t ps hx hv h0 h ih=>
    intro y hy
    unfold lkP at hy
    cases hq:(decide ((x,v).1.kind=1) && decide ((x,v).1.number=key)) with
    | false=>
      rw [hq,cond_false] at hy
      have:=ih y hy
      simp [this]
    | true=>
      rw [hq,cond_true] at hy
      dsimp only at hy
      simp [hy]
theorem pairs_uniq:∀ (k:Nat) (s t:List ApiItem) (ps ps2:List (ApiItem × List ApiItem)),PairsAt k s t ps → PairsAt k s t ps2 → ps=ps2:=by
  intro k s t ps ps2 h
  induction h generalizing ps2 with
  | nil=>intro h2; cases h2; rfl
  | @cons k x v r t ps hx hv h0 h ih=>
    intro h2
    generalize hs:x :: (v ++ r)=s at h2
    cases h2 with
    | @cons _ x' v' r' _ ps' hx' hv' h0' h'=>
    obtain ⟨rfl,e2⟩:=List.cons.inj hs
    have e3:=hv 0
    have e4:=hv' 0
    rw [skp_zero] at e3 e4
    rw [e2] at e3
    rw [e3] at e4
    have e5:v.length=v'.length:=by simpa using e4
    obtain ⟨rfl,rfl⟩:=List.append_inj e2 e5
    rw [ih _ h']
theorem Lookup_ok (l:List ApiItem) (key:BitVec 64) (hl:l.length < 1000000) (hd:∀ x ∈ l,x.data.length < 100000):∃ v b,Zcc l key=some ((),v,b,()) ∧ (∀ y ∈ v,y ∈ l) ∧ (∀ (x:ApiItem) (r:List ApiItem),l=x :: r → x.kind=6 → valO l=0 → ∀ ps,PairsAt x.number.toNat r [] ps → (v,b)=lkP key ps):=by
  unfold Zcc
  rw [Validate_ok l hl hd]
  simp only [bindS]
  by_cases hv:valO l=0
  · rw [show decide (valO l=0)=true from decide_eq_true hv]
    simp only [Bool.not_true,cond_false]
    cases hl0:l with
    | nil=>exact absurd hl0 (valO_ne hv)
    | cons x r=>
      have eg0:getI (x :: r) (0:Int)=some x:=rfl
      rw [eg0]
      simp only [bindS]
      by_cases h6:x.kind=6
      · rw [show decide (x.kind=6)=true from decide_eq_true h6]
        simp only [Bool.not_true,cond_false]
        rw [hl0] at hv hl
        obtain ⟨hn,ps,hp⟩:=valO_map hv h6
        have hle:1 ≤ (x :: r).length:=by simp
        obtain ⟨z,z1,z2⟩:=LookL_ok (x :: r) hl key x.number hn x.number.toNat 0 1 rounds r ps hp (by omega) rfl hle (by rw [rounds_eq]; omega)
        have z1':Zcc_L0 (x :: r,key,1,x.number,0#64,())=some z:=z1
        rw [z1']
        simp only [bindS]
        refine ⟨(lkP key ps).1,(lkP key ps).2,z2,fun y hy=>List.mem_cons_of_mem _ (lkP_mem hp y hy),?_⟩
        intro x2 r2 e _ _ ps2 hp2
        cases e
        rw [pairs_uniq _ _ _ _ _ hp hp2]
      · rw [show decide (x.kind=6)=false from decide_eq_false h6]
        refine ⟨[],false,rfl,by simp,?_⟩
        intro x2 r2 e h62
        cases e
        exact absurd h62 h6
  · rw [show decide (valO l=0)=false from decide_eq_false hv]
    exact ⟨[],false,rfl,by simp,fun x r e h6 hv2=>absurd hv2 hv⟩
theorem field_ok (l:List ApiItem) (key:BitVec 64) (hl:l.length < 1000000) (hd:∀ x ∈ l,x.data.length < 100000):∃ x,Zbc l key=some ((),x,()) ∧ x.data.length < 100000:=by
  obtain ⟨v,b,h1,h2,_⟩:=Lookup_ok l key hl hd
  unfold Zbc
  rw [h1]
  simp only [bindS]
  cases b with
  | false=>exact ⟨_,rfl,by decide⟩
  | true=>
    simp only [Bool.not_true,cond_false]
    cases v with
    | nil=>exact ⟨_,rfl,by decide⟩
    | cons x r=>
      rw [show decide (((x :: r).length:Int)=0)=false from decide_eq_false (by simp only [List.length_cons]; omega),cond_false,show decide ((0:Int) < ((x :: r).length:Int))=true from decide_eq_true (by simp only [List.length_cons]; omega),cond_true]
      exact ⟨x,rfl,hd x (h2 x (by simp))⟩
theorem nd_range:nd keysC (List.range 9):=by
  unfold nd
  decide +kernel
theorem cfield_ok {c:ApiCredential} (h:OkC c) (i:Nat) (hi:i < 9) {x:ApiItem} (hx:(valsC c).getD i []=[x]):Zbc (itemsC c) (keysC.getD i 0#64)=some ((),x,()):=by
  obtain ⟨v,b,h1,h2,h3⟩:=Lookup_ok (itemsC c) (keysC.getD i 0#64) (by simp [itemsC]) (items_data h)
  have hp:=pairs_prO (keys:=keysC) (fau_vals h) (List.range 9) (fun j hj=>List.mem_range.1 hj)
  have h4:=h3 _ _ (items_eq c).symm rfl (valO_items h) _ hp
  rw [lkP_find i (List.range 9) nd_range (List.mem_range.2 hi),hx] at h4
  cases h4
  unfold Zbc
  rw [h1]
  rfl
def reb (a1 a2 a3:List UInt8) (a4 a5 a6 a7 a8 a9:BitVec 64):ApiCredential:=⟨a1,a2,a3,a4,(a5.toNat:Int),decide (a6=1#64),(a7.toNat:Int),decide (a8=1#64),decide (a9=1#64)⟩
theorem toNat_small {n:Int} (h1:1 ≤ n) (h2:n ≤ 4):((BitVec.ofInt 64 n).toNat:Int)=n:=by
  have:n=1 ∨ n=2 ∨ n=3 ∨ n=4:=by omega
  rcases this with rfl | rfl | rfl | rfl <;> rfl
theorem bI_dec (b:Bool):decide ((bI b).number=1#64)=b:=by cases b <;> rfl
theorem reb_eq {c:ApiCredential} (h:OkC c):reb c.rP c.user c.name c.seed (BitVec.ofInt 64 c.height) (bI c.resident).number (BitVec.ofInt 64 c.protect) (bI c.shared).number (bI c.backed).number=c:=by
  unfold reb
  rw [toNat_small h.ht1 h.ht,toNat_small h.pr1 (by have:=h.pr; omega),bI_dec,bI_dec,bI_dec]
theorem bytC_dec {c:ApiCredential} (h:valC c=0) (t:List UInt8):decO (bytC c ++ t)=(itemsC c,((bytC c).length:Int),0):=decO_enc (valO_items (valC_zero h)) t
theorem items_inj {c d:ApiCredential} (hc:OkC c) (hd:OkC d) (h:itemsC c=itemsC d):c=d:=by
  have e:=fun i=>congrArg (fun l:List ApiItem=>(l.getD i default)) h
  have e2:=e 2
  have e4:=e 4
  have e6:=e 6
  have e8:=e 8
  have e10:=e 10
  have e12:=e 12
  have e14:=e 14
  have e16:=e 16
  have e18:=e 18
  have d2:c.rP=d.rP:=congrArg ApiItem.data e2
  have d4:c.user=d.user:=congrArg ApiItem.data e4
  have d6:c.name=d.name:=congrArg ApiItem.data e6
  have d8:c.seed=d.seed:=congrArg ApiItem.number e8
  have d10:BitVec.ofInt 64 c.height=BitVec.ofInt 64 d.height:=congrArg ApiItem.number e10
  have d12:(bI c.resident).number=(bI d.resident).number:=congrArg ApiItem.number e12
  have d14:BitVec.ofInt 64 c.protect=BitVec.ofInt 64 d.protect:=congrArg ApiItem.number e14
  have d16:(bI c.shared).number=(bI d.shared).number:=congrArg ApiItem.number e16
  have d18:(bI c.backed).number=(bI d.backed).number:=congrArg ApiItem.number e18
  rw [← reb_eq hc,← reb_eq hd,d2,d4,d6,d8,d10,d12,d14,d16,d18]
theorem bytC_inj {c d:ApiCredential} (hc:valC c=0) (hd:valC d=0) {s t:List UInt8} (h:bytC c ++ s=bytC d ++ t):c=d:=by
  have h1:=bytC_dec hc s
  rw [h,bytC_dec hd t] at h1
  exact items_inj (valC_zero hc) (valC_zero hd) (congrArg Prod.fst h1).symm
def zC:ApiCredential:=⟨[],[],[],0#64,0,false,0,false,false⟩
open Classical in
noncomputable def decC (b:List UInt8):ApiCredential × Int:=if h:∃ c,valC c=0 ∧ bytC c=b then (h.choose,0) else (zC,2)
theorem decC_yes {c:ApiCredential} {b:List UInt8} (h:valC c=0) (hb:bytC c=b):decC b=(c,0):=by
  have he:∃ c,valC c=0 ∧ bytC c=b:=⟨c,h,hb⟩
  unfold decC
  rw [dif_pos he]
  have:=he.choose_spec
  have e:=bytC_inj (s:=[]) (t:=[]) this.1 h (by rw [this.2,hb])
  rw [e]
theorem decC_no {b:List UInt8} (h:∀ c,valC c=0 → bytC c ≠ b):decC b=(zC,2):=by
  unfold decC
  rw [dif_neg]
  rintro ⟨c,h1,h2⟩
  exact h c h1 h2
theorem read_items {b:List UInt8} (h:(decO b).2.2=0):(decO b).1.length < 1000000 ∧ ∀ x ∈ (decO b).1,x.data.length < 100000:=by
  have hv:=(decO_back h).1
  refine ⟨?_,fun x hx=>?_⟩
  · rcases Nat.lt_or_ge 512 (decO b).1.length with q | q
    · exact absurd hv (valO_big q)
    · omega
  · have:=((valO_zero hv).2 x hx).2
    omega
theorem cDecode_ok (b:List UInt8) (hb:b.length < 1000000):Zas b=some ((),(decC b).1,(decC b).2,()):=by
  unfold Zas
  rw [Decode_ok b hb]
  simp only [bindS]
  by_cases he:(decO b).2.2=0
  · rw [decide_eq_true he]
    simp only [Bool.not_true,cond_false]
    obtain ⟨hl,hd⟩:=read_items he
    obtain ⟨x1,f1,g1⟩:=field_ok (decO b).1 1#64 hl hd
    obtain ⟨x2,f2,g2⟩:=field_ok (decO b).1 2#64 hl hd
    obtain ⟨x3,f3,g3⟩:=field_ok (decO b).1 3#64 hl hd
    obtain ⟨x4,f4,g4⟩:=field_ok (decO b).1 4#64 hl hd
    obtain ⟨x5,f5,g5⟩:=field_ok (decO b).1 5#64 hl hd
    obtain ⟨x6,f6,g6⟩:=field_ok (decO b).1 6#64 hl hd
    obtain ⟨x7,f7,g7⟩:=field_ok (decO b).1 7#64 hl hd
    obtain ⟨x8,f8,g8⟩:=field_ok (decO b).1 8#64 hl hd
    obtain ⟨x9,f9,g9⟩:=field_ok (decO b).1 9#64 hl hd
    rw [f1,f2,f3,f4,f5,f6,f7,f8,f9]
    simp only [bindS]
    have fix:∀ c,valC c=0 → bytC c=b → (⟨x1.data,x2.data,x3.data,x4.number,IntKind.wrap .i64 (x5.number.toNat:Int),decide (x6.number=1#64),IntKind.wrap .i64 (x7.number.toNat:Int),decide (x8.number=1#64),decide (x9.number=1#64)⟩:ApiCredential)=c:=by
      intro c hc hbc
      have ho:=valC_zero hc
      have e:=bytC_dec hc []
      rw [List.append_nil,hbc] at e
      rw [e] at f1 f2 f3 f4 f5 f6 f7 f8 f9
      have q1:=cfield_ok ho 0 (by omega) (x:=⟨4,0#64,c.rP⟩) rfl
      have q2:=cfield_ok ho 1 (by omega) (x:=⟨3,0#64,c.user⟩) rfl
      have q3:=cfield_ok ho 2 (by omega) (x:=⟨4,0#64,c.name⟩) rfl
      have q4:=cfield_ok ho 3 (by omega) (x:=⟨1,c.seed,[]⟩) rfl
      have q5:=cfield_ok ho 4 (by omega) (x:=⟨1,BitVec.ofInt 64 c.height,[]⟩) rfl
      have q6:=cfield_ok ho 5 (by omega) (x:=bI c.resident) rfl
      have q7:=cfield_ok ho 6 (by omega) (x:=⟨1,BitVec.ofInt 64 c.protect,[]⟩) rfl
      have q8:=cfield_ok ho 7 (by omega) (x:=bI c.shared) rfl
      have q9:=cfield_ok ho 8 (by omega) (x:=bI c.backed) rfl
      dsimp only at f1 f2 f3 f4 f5 f6 f7 f8 f9
      have r1:=(f1.symm.trans q1); have r2:=(f2.symm.trans q2); have r3:=(f3.symm.trans q3)
      have r4:=(f4.symm.trans q4); have r5:=(f5.symm.trans q5); have r6:=(f6.symm.trans q6)
      have r7:=(f7.symm.trans q7); have r8:=(f8.symm.trans q8); have r9:=(f9.symm.trans q9)
      simp only [Option.some.injEq,Prod.mk.injEq,true_and,and_true] at r1 r2 r3 r4 r5 r6 r7 r8 r9
      subst r1; subst r2; subst r3; subst r4; subst r5; subst r6; subst r7; subst r8; subst r9
      have w1:IntKind.wrap .i64 (((BitVec.ofInt 64 c.height).toNat:Nat):Int)=(((BitVec.ofInt 64 c.height).toNat:Nat):Int):=by
        rw [toNat_small ho.ht1 ho.ht]; exact wrap_id (by have:=ho.ht1; omega) (by have:=ho.ht; omega)
      have w2:IntKind.wrap .i64 (((BitVec.ofInt 64 c.protect).toNat:Nat):Int)=(((BitVec.ofInt 64 c.protect).toNat:Nat):Int):=by
        rw [toNat_small ho.pr1 (by have:=ho.pr; omega)]; exact wrap_id (by have:=ho.pr1; omega) (by have:=ho.pr; omega)
      dsimp only
      rw [w1,w2]
      exact reb_eq ho
    have E:=cEncode_ok (⟨x1.data,x2.data,x3.data,x4.number,IntKind.wrap .i64 (x5.number.toNat:Int),decide (x6.number=1#64),IntKind.wrap .i64 (x7.number.toNat:Int),decide (x8.number=1#64),decide (x9.number=1#64)⟩:ApiCredential) (by dsimp only; omega) (by dsimp only; omega)
    rw [E]
    clear E
    generalize (⟨x1.data,x2.data,x3.data,x4.number,IntKind.wrap .i64 (x5.number.toNat:Int),decide (x6.number=1#64),IntKind.wrap .i64 (x7.number.toNat:Int),decide (x8.number=1#64),decide (x9.number=1#64)⟩:ApiCredential)=c' at fix ⊢
    simp only [bindS]
    unfold encP
    by_cases hv:valC c'=0
    · rw [decide_eq_true hv]
      simp only [cond_true,decide_true,Bool.not_true,cond_false,Zbz,bindS]
      by_cases hb2:bytC c'=b
      · rw [decide_eq_true hb2,decC_yes hv hb2]
        rfl
      · rw [decide_eq_false hb2,decC_no fun c hc hbc=>by
          have:=fix c hc hbc
          rw [this] at hb2
          exact hb2 hbc]
        rfl
    · rw [decide_eq_false hv]
      simp only [cond_false]
      rw [decide_eq_false hv,decC_no fun c hc hbc=>by
        have:=fix c hc hbc
        rw [this] at hv
        exact hv hc]
      rfl
  · rw [decide_eq_false he]
    simp only [Bool.not_false,cond_true]
    rw [decC_no fun c hc hbc=>he (by rw [← hbc,← List.append_nil (bytC c),bytC_dec hc []])]
    rfl
end Go.Proofs.YtghfcfjnfgmkgaaDoor

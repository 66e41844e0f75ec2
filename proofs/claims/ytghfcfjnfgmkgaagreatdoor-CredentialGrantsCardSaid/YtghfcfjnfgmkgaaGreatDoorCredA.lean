/- credentials: which are valid, and their bytes. No condition. -/
import Derived.Test.YtghfcfjnfgmkgaaGreatDoorCrE
set_option linter.unusedVariables false
set_option linter.unusedSimpArgs false
set_option maxRecDepth 100000
namespace Go.Proofs.YtghfcfjnfgmkgaaGreatDoor
open Go Go.Abs
def rngC (c:ApiCredential):Bool:=(decide ((1:Int) ≤ (c.rP.length:Int)) && decide ((c.rP.length:Int) ≤ 64)) && ((decide ((1:Int) ≤ (c.user.length:Int)) && decide ((c.user.length:Int) ≤ 16)) && (!decide ((32:Int) < (c.name.length:Int)) && ((decide ((1:Int) ≤ c.height) && decide (c.height ≤ 4)) && (decide ((1:Int) ≤ c.protect) && decide (c.protect ≤ 3)))))
def valC (c:ApiCredential):Int:=bif rngC c then (bif Lib.validD c.rP && Lib.validD c.name then (bif (c.shared && !c.resident) || (c.backed && !c.shared) then 18 else 0) else 6) else 9
theorem cValidate_ok (c:ApiCredential) (h1:c.rP.length < 1000000) (h2:c.name.length < 1000000):Zau c=some ((),valC c,()):=by
  obtain ⟨rp,us,nm,sd,ht,rs,pr,sh,bk⟩:=c
  dsimp only at h1 h2
  unfold Zau valC rngC Zbo
  simp only [ValidString_ok h1,ValidString_ok h2]
  generalize decide ((1:Int) ≤ (rp.length:Int))=b1
  generalize decide ((rp.length:Int) ≤ 64)=b2
  generalize decide ((1:Int) ≤ (us.length:Int))=b3
  generalize decide ((us.length:Int) ≤ 16)=b4
  generalize decide ((32:Int) < (nm.length:Int))=b5
  generalize decide ((1:Int) ≤ ht)=b6
  generalize decide (ht ≤ 4)=b7
  generalize decide ((1:Int) ≤ pr)=b8
  generalize decide (pr ≤ 3)=b9
  generalize Lib.validD rp=v1
  generalize Lib.validD nm=v2
  cases b1
  · rfl
  cases b2
  · rfl
  cases b3
  · rfl
  cases b4
  · rfl
  cases b5
  case true=>rfl
  cases b6
  · rfl
  cases b7
  · rfl
  cases b8
  · rfl
  cases b9
  · rfl
  cases v1
  · rfl
  cases v2
  · rfl
  cases sh <;> cases rs <;> cases bk <;> rfl
theorem rValidateC_ok (c:ApiCredential) (h1:c.rP.length < 1000000) (h2:c.name.length < 1000000):Zaa c=some ((),valC c,()):=by
  obtain ⟨rp,us,nm,sd,ht,rs,pr,sh,bk⟩:=c
  dsimp only at h1 h2
  unfold Zaa valC rngC Zaz
  simp only [ValidString_ok h1,ValidString_ok h2]
  generalize decide ((1:Int) ≤ (rp.length:Int))=b1
  generalize decide ((rp.length:Int) ≤ 64)=b2
  generalize decide ((1:Int) ≤ (us.length:Int))=b3
  generalize decide ((us.length:Int) ≤ 16)=b4
  generalize decide ((32:Int) < (nm.length:Int))=b5
  generalize decide ((1:Int) ≤ ht)=b6
  generalize decide (ht ≤ 4)=b7
  generalize decide ((1:Int) ≤ pr)=b8
  generalize decide (pr ≤ 3)=b9
  generalize Lib.validD rp=v1
  generalize Lib.validD nm=v2
  cases b1
  · rfl
  cases b2
  · rfl
  cases b3
  · rfl
  cases b4
  · rfl
  cases b5
  case true=>rfl
  cases b6
  · rfl
  cases b7
  · rfl
  cases b8
  · rfl
  cases b9
  · rfl
  cases v1
  · rfl
  cases v2
  · rfl
  cases sh <;> cases rs <;> cases bk <;> rfl
structure OkC (c:ApiCredential):Prop where
  rp1:1 ≤ c.rP.length
  rp:c.rP.length ≤ 64
  us1:1 ≤ c.user.length
  us:c.user.length ≤ 16
  nm:c.name.length ≤ 32
  ht1:1 ≤ c.height
  ht:c.height ≤ 4
  pr1:1 ≤ c.protect
  pr:c.protect ≤ 3
  vr:Lib.validD c.rP=true
  vn:Lib.validD c.name=true
theorem valC_zero {c:ApiCredential} (h:valC c=0):OkC c:=by
  unfold valC at h
  cases hr:rngC c with
  | false=>rw [hr] at h; cases h
  | true=>
    rw [hr,cond_true] at h
    cases hv:(Lib.validD c.rP && Lib.validD c.name) with
    | false=>rw [hv] at h; cases h
    | true=>
      unfold rngC at hr
      simp only [Bool.and_eq_true,decide_eq_true_eq,Bool.not_eq_true',decide_eq_false_iff_not] at hr hv
      obtain ⟨⟨a1,a2⟩,⟨a3,a4⟩,a5,⟨a6,a7⟩,a8,a9⟩:=hr
      exact ⟨by omega,by omega,by omega,by omega,by omega,a6,a7,a8,a9,hv.1,hv.2⟩
def bI (b:Bool):ApiItem:=⟨7,bif b then 1#64 else 0#64,[]⟩
def keysC:List (BitVec 64):=[1#64,2#64,3#64,4#64,5#64,6#64,7#64,8#64,9#64]
def valsC (c:ApiCredential):List (List ApiItem):=[[⟨4,0#64,c.rP⟩],[⟨3,0#64,c.user⟩],[⟨4,0#64,c.name⟩],[⟨1,c.seed,[]⟩],[⟨1,BitVec.ofInt 64 c.height,[]⟩],[bI c.resident],[⟨1,BitVec.ofInt 64 c.protect,[]⟩],[bI c.shared],[bI c.backed]]
def itemsC (c:ApiCredential):List ApiItem:=[⟨6,9#64,[]⟩,⟨1,1#64,[]⟩,⟨4,0#64,c.rP⟩,⟨1,2#64,[]⟩,⟨3,0#64,c.user⟩,⟨1,3#64,[]⟩,⟨4,0#64,c.name⟩,⟨1,4#64,[]⟩,⟨1,c.seed,[]⟩,⟨1,5#64,[]⟩,⟨1,BitVec.ofInt 64 c.height,[]⟩,⟨1,6#64,[]⟩,bI c.resident,⟨1,7#64,[]⟩,⟨1,BitVec.ofInt 64 c.protect,[]⟩,⟨1,8#64,[]⟩,bI c.shared,⟨1,9#64,[]⟩,bI c.backed]
theorem leaf_txt {k:Int} {l:List UInt8} (hk:k=3 ∨ k=4) (hl:l.length ≤ 1024) (hv:Lib.validD l=true ∨ k=3):VT 1 [⟨k,0#64,l⟩]:=by
  have hb:big ⟨k,0#64,l⟩=false:=by
    unfold big isN
    rcases hk with rfl | rfl <;> (dsimp only; rw [decide_eq_false (by omega:¬ 1024 < l.length)]; rfl)
  rcases hk with rfl | rfl
  · exact VT_leaf (by dsimp only; decide) (by dsimp only; decide) fun n d b hn hd=>chk_leaf (by dsimp only; decide) (by dsimp only; decide) rfl hb (fun h=>by cases h) hn hd
  · refine VT_leaf (by dsimp only; decide) (by dsimp only; decide) fun n d b hn hd=>chk_leaf (by dsimp only; decide) (by dsimp only; decide) rfl hb (fun _=>?_) hn hd
    rcases hv with h | h
    · exact h
    · cases h
theorem leaf_num (n:BitVec 64):VT 1 [⟨1,n,[]⟩]:=VT_leaf (x:=⟨1,n,[]⟩) (by dsimp only; decide) (by dsimp only; decide) fun _ d b hn hd=>chk_leaf (x:=⟨1,n,[]⟩) (by dsimp only; decide) (by dsimp only; decide) rfl rfl (fun h=>by cases h) hn hd
theorem leaf_bool (q:Bool):VT 1 [bI q]:=by
  cases q <;> exact VT_leaf (by decide) (by decide) fun _ d b hn hd=>chk_leaf (by decide) (by decide) (by decide) (by decide) (fun h=>by cases h) hn hd
theorem VT_val {h:Nat} {o:List ApiItem} (hh:h ≤ 9) (hl:o.length ≤ 512) (H:VT h o):valO o=0:=by
  have hv:=H 12 0 0 [] [] (by omega) (by omega) (by omega)
  rw [List.append_nil] at hv
  unfold valO
  rw [(W_mach getL_ok 12 (by omega) o).2 (by rw [hv]),hv]
  rfl
theorem vals_VT {c:ApiCredential} (h:OkC c):∀ o ∈ valsC c,VT 1 o ∧ o.length=1 ∧ ∀ x ∈ o,x.data.length < 100000:=by
  have h1:=h.rp
  have h2:=h.us
  have h3:=h.nm
  intro o ho
  simp only [valsC,List.mem_cons,List.not_mem_nil,or_false] at ho
  rcases ho with rfl | rfl | rfl | rfl | rfl | rfl | rfl | rfl | rfl
  · exact ⟨leaf_txt (.inr rfl) (by omega) (.inl h.vr),rfl,by simp; omega⟩
  · exact ⟨leaf_txt (.inl rfl) (by omega) (.inr rfl),rfl,by simp; omega⟩
  · exact ⟨leaf_txt (.inr rfl) (by omega) (.inl h.vn),rfl,by simp; omega⟩
  · exact ⟨leaf_num _,rfl,by simp⟩
  · exact ⟨leaf_num _,rfl,by simp⟩
  · exact ⟨leaf_bool _,rfl,by simp [bI]⟩
  · exact ⟨leaf_num _,rfl,by simp⟩
  · exact ⟨leaf_bool _,rfl,by simp [bI]⟩
  · exact ⟨leaf_bool _,rfl,by simp [bI]⟩
theorem fau_of:∀ {v:List (List ApiItem)},(∀ l ∈ v,valO l=0) → fau v=0
  | [],_=>rfl
  | l :: r,h=>by
    unfold fau
    rw [h l (by simp),decide_eq_true rfl,cond_true]
    exact fau_of fun q hq=>h q (by simp [hq])
theorem fau_vals {c:ApiCredential} (h:OkC c):fau (valsC c)=0:=fau_of fun o ho=>VT_val (by omega) (by have:=(vals_VT h o ho).2.1; omega) (vals_VT h o ho).1
theorem light_vals {c:ApiCredential} (h:OkC c):light1 (valsC c):=fun o ho=>⟨by have:=(vals_VT h o ho).2.1; omega,(vals_VT h o ho).2.2⟩
theorem keysOk_C:keysOk [] (keysC.map fun k=>(⟨1,k,[]⟩:ApiItem)):=by
  have K:∀ (k:BitVec 64) (last:List UInt8),(last=[] ∨ lss last (enc ⟨1,k,[]⟩)=true) → ∀ n d,n < 512 → d ≤ 8 → chk ⟨1,k,[]⟩ n d true last=0:=fun k last h n d hn hd=>chk_key (x:=⟨1,k,[]⟩) (.inl rfl) rfl rfl (fun h=>by cases h) h hn hd
  exact ⟨rfl,K _ _ (.inl rfl),rfl,K _ _ (.inr (by decide +kernel)),rfl,K _ _ (.inr (by decide +kernel)),rfl,K _ _ (.inr (by decide +kernel)),rfl,K _ _ (.inr (by decide +kernel)),rfl,K _ _ (.inr (by decide +kernel)),rfl,K _ _ (.inr (by decide +kernel)),rfl,K _ _ (.inr (by decide +kernel)),rfl,K _ _ (.inr (by decide +kernel)),trivial⟩
theorem valO_items {c:ApiCredential} (h:OkC c):valO (itemsC c)=0:=
  VT_val (h:=2) (by omega) (by simp [itemsC]) (VT_map (h:=1) (k:=9) (ks:=keysC.map fun k=>(⟨1,k,[]⟩:ApiItem)) (os:=valsC c) rfl rfl (by omega) (by omega) keysOk_C fun o ho=>(vals_VT h o ho).1)
theorem kk_inj:∀ (a b:Fin 9),kk keysC a.val=kk keysC b.val → a=b:=by decide +kernel
theorem srt_range:srt keysC (List.range 9):=by
  unfold srt
  decide +kernel
theorem order_C {o:List Nat} (hp:o.Perm (List.range 9)) (hs:srt keysC o):o=List.range 9:=
  hp.eq_of_pairwise (le:=fun a b=>kk keysC a ≤ kk keysC b) (fun a b ha hb h1 h2=>by
    have ha':a < 9:=range_lt hp a ha
    have hb':b < 9:=List.mem_range.1 hb
    have:=kk_inj ⟨a,ha'⟩ ⟨b,hb'⟩ (Nat.le_antisymm h1 h2)
    exact congrArg Fin.val this) hs srt_range
theorem items_eq (c:ApiCredential):(⟨6,BitVec.ofInt 64 (keysC.length:Int),[]⟩:ApiItem) :: (prO keysC (valsC c) (List.range 9)).flatten=itemsC c:=rfl
theorem cMap_ok {c:ApiCredential} (h:OkC c):cbor_Map keysC (valsC c)=some ((),itemsC c,0,()):=by
  obtain ⟨o,h1,h2,h3⟩:=Map_ok keysC (valsC c) (by decide) rfl (light_vals h)
  have ho:=order_C h1 h2
  subst ho
  have hm:mapO keysC (valsC c) (List.range 9)=(itemsC c,0):=by
    unfold mapO
    rw [show adj keysC (List.range 9)=false by decide +kernel,fau_vals h,items_eq,valO_items h]
    rfl
  rw [h3,hm]
theorem items_data {c:ApiCredential} (h:OkC c):∀ x ∈ itemsC c,x.data.length < 100000:=by
  have h1:=h.rp
  have h2:=h.us
  have h3:=h.nm
  intro x hx
  simp only [itemsC,List.mem_cons,List.not_mem_nil,or_false] at hx
  rcases hx with rfl | rfl | rfl | rfl | rfl | rfl | rfl | rfl | rfl | rfl | rfl | rfl | rfl | rfl | rfl | rfl | rfl | rfl | rfl <;> first | exact Nat.lt_of_le_of_lt (Nat.zero_le _) (by omega) | (dsimp only; omega) | (dsimp only [bI,List.length_nil]; omega)
def bytC (c:ApiCredential):List UInt8:=encA (itemsC c)
def encP (c:ApiCredential):List UInt8 × Int:=bif decide (valC c=0) then (bytC c,0) else ([],valC c)
theorem encO_items {c:ApiCredential} (h:OkC c):encO (itemsC c)=(bytC c,0):=by
  unfold encO
  rw [valO_items h]
  rfl
theorem Bool_ok (b:Bool):Zdo b=some ((),[bI b],()):=by cases b <;> rfl
theorem boolean_ok (b:Bool):Zar b=some ((),bI b,()):=by cases b <;> rfl
theorem cEncode_ok (c:ApiCredential) (h1:c.rP.length < 1000000) (h2:c.name.length < 1000000):Zbm c=some ((),(encP c).1,(encP c).2,()):=by
  unfold Zbm encP
  rw [cValidate_ok c h1 h2]
  simp only [bindS]
  by_cases h:valC c=0
  · have hc:=valC_zero h
    simp only [h,decide_true,Bool.not_true,cond_false,cond_true,Bool_ok,bindS,Zdp,Zdj,Zdq]
    have hm:=cMap_ok hc
    unfold keysC valsC at hm
    rw [hm]
    simp only [bindS,decide_true,Bool.not_true,cond_false]
    rw [Encode_ok (itemsC c) (by simp [itemsC]) (items_data hc),encO_items hc]
    rfl
  · simp only [h,decide_false,Bool.not_false,cond_true,cond_false]
theorem encCL (x1 x2 x3 x4 x5 x6 x7 x8 x9 h:ApiItem):Zae_L0 ([x1,x2,x3,x4,x5,x6,x7,x8,x9],[h],0,())=some ([h,⟨1,1#64,[]⟩,x1,⟨1,2#64,[]⟩,x2,⟨1,3#64,[]⟩,x3,⟨1,4#64,[]⟩,x4,⟨1,5#64,[]⟩,x5,⟨1,6#64,[]⟩,x6,⟨1,7#64,[]⟩,x7,⟨1,8#64,[]⟩,x8,⟨1,9#64,[]⟩,x9],()):=by kernel_rfl
theorem rEncodeC_ok (c:ApiCredential) (h1:c.rP.length < 1000000) (h2:c.name.length < 1000000):Zae c=some ((),(encP c).1,(encP c).2,()):=by
  unfold Zae encP
  rw [rValidateC_ok c h1 h2]
  simp only [bindS]
  by_cases h:valC c=0
  · have hc:=valC_zero h
    simp only [h,decide_true,Bool.not_true,cond_false,cond_true,boolean_ok,bindS,Zbr,Zbp,Zay]
    rw [encCL]
    simp only [bindS]
    rw [show ([⟨6,9#64,[]⟩,⟨1,1#64,[]⟩,⟨4,0#64,c.rP⟩,⟨1,2#64,[]⟩,⟨3,0#64,c.user⟩,⟨1,3#64,[]⟩,⟨4,0#64,c.name⟩,⟨1,4#64,[]⟩,⟨1,c.seed,[]⟩,⟨1,5#64,[]⟩,⟨1,BitVec.ofInt 64 c.height,[]⟩,⟨1,6#64,[]⟩,bI c.resident,⟨1,7#64,[]⟩,⟨1,BitVec.ofInt 64 c.protect,[]⟩,⟨1,8#64,[]⟩,bI c.shared,⟨1,9#64,[]⟩,bI c.backed]:List ApiItem)=itemsC c from rfl,rEncode_ok (itemsC c) (by simp [itemsC]) (items_data hc),encO_items hc]
    rfl
  · simp only [h,decide_false,Bool.not_false,cond_true,cond_false]
end Go.Proofs.YtghfcfjnfgmkgaaGreatDoor

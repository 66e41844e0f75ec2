/- Replies: values of fields and that they are well formed; maps with small ascending keys. -/
import Derived.Test.YthoblablopmhfaaGreatDoorFns
import Derived.Test.YthoblablopmhfaaGreatDoorMsG
namespace Go.Proofs.YthoblablopmhfaaGreatDoor
set_option linter.unusedVariables false
set_option linter.unusedSimpArgs false
set_option maxRecDepth 100000
open Go Go.Abs
theorem Vc4 {h:Nat} {o:List ApiItem} (H:VT h o) (hh:h≤9) (hl:o.length≤512):valO o=0:=by
 have hv:=H 12 0 0 [] [] (by omega) (by omega) (by omega)
 rw [List.append_nil] at hv
 unfold valO
 rw [(Vrh Vnf 12 (by omega) o).2 (by rw [hv]),hv]
 rfl
def keyI (n:Nat):ApiItem:=⟨1,BitVec.ofNat 64 n,[]⟩
theorem Veja:∀ a b:Fin 18,a < b→lss (enc (keyI a.val)) (enc (keyI b.val))=true:=by decide +kernel
theorem Vw8:∀ a:Fin 18,bad (keyI a.val)=false∧big (keyI a.val)=false:=by decide +kernel
def upN:List Nat→Prop:=fun ns=>ns.Pairwise (· < ·)∧∀ n∈ns,n≤17
theorem Vw9:∀ (ns:List Nat) (last:List UInt8),upN ns→(last=[]∨∃ m,m≤17∧last=enc (keyI m)∧∀ n∈ns,m < n)→keysOk last (ns.map keyI)
 | [],_,_,_=>trivial
 | n::ns,last,h,hl=>by
  have hn:=h.2 n (by simp)
  refine ⟨rfl,?_,Vw9 ns (enc (keyI n)) ⟨(List.pairwise_cons.1 h.1).2,fun m hm=>h.2 m (by simp [hm])⟩ (.inr ⟨n,hn,rfl,(List.pairwise_cons.1 h.1).1⟩)⟩
  intro k d hk hd
  refine Va9a (.inl rfl) (Vw8 ⟨n,by omega⟩).1 (Vw8 ⟨n,by omega⟩).2 (fun h=>by cases h) ?_ hk hd
  rcases hl with rfl | ⟨m,hm,rfl,hm2⟩
  ·exact .inl rfl
  ·exact .inr (Veja ⟨m,by omega⟩ ⟨n,by omega⟩ (hm2 n (by simp)))
def kN (ns:List Nat):List (BitVec 64):=ns.map (BitVec.ofNat 64)
theorem kk_kN {ns:List Nat} (h:upN ns) {i:Nat} (hi:i < ns.length):kk (kN ns) i=ns[i]:=by
 unfold kk kN
 have:=h.2 ns[i] (List.getElem_mem hi)
 rw [List.getD_eq_getElem?_getD,List.getElem?_map,List.getElem?_eq_getElem hi]
 simp only [Option.map_some,Option.getD_some,BitVec.toNat_ofNat]
 omega
theorem Vava {ns:List Nat} (h:upN ns):asc (kN ns):=by
 intro i j hij hj
 have hj:j < ns.length:=by simpa [kN] using hj
 rw [kk_kN h (by omega),kk_kN h hj]
 exact List.pairwise_iff_getElem.1 h.1 i j _ _ hij
theorem Vxa {keys:List (BitVec 64)}:∀ (o:List Nat),o.Pairwise (fun a b=>kk keys a < kk keys b)→adj keys o=false
 | [],_=>rfl
 | [a],_=>rfl
 | a::b::r,h=>by
  unfold adj
  have h1:=(List.pairwise_cons.1 h)
  have:=h1.1 b (by simp)
  rw [Vxa (b::r) h1.2,decide_eq_false (show ¬ kk keys a=kk keys b by omega)]; rfl
theorem Voe:∀ (v:List (List ApiItem)),(∀ o∈v,valO o=0)→fau v=0
 | [],_=>rfl
 | l::r,h=>by
  unfold fau
  rw [decide_eq_true (h l (by simp))]
  exact Voe r fun o ho=>h o (by simp [ho])
def pairI (ns:List Nat) (v:List (List ApiItem)):List ApiItem:=((ns.map keyI).zip v).flatMap fun p=>p.1::p.2
def mapI (ns:List Nat) (v:List (List ApiItem)):List ApiItem:=⟨6,BitVec.ofNat 64 ns.length,[]⟩::pairI ns v
theorem Veka {ns:List Nat} {v:List (List ApiItem)} (hl:ns.length=v.length):(prO (kN ns) v (List.range ns.length)).flatten=pairI ns v:=by
 unfold pairI prO
 rw [List.flatMap_def]
 congr 1
 apply List.ext_getElem
 ·simp [hl]
 ·intro i h1 h2
  have hi:i < ns.length:=by simpa using h1
  simp [kN,keyI,List.getD_eq_getElem?_getD,List.getElem?_eq_getElem hi,List.getElem?_eq_getElem (show i < v.length by omega)]
theorem Vawa {ns:List Nat} {v:List (List ApiItem)} {h:Nat} (hu:upN ns) (hk:ns.length≤17) (hl:ns.length=v.length) (h1:1≤h) (hh:h≤8) (hv:light1 v) (H:∀ o∈v,VT h o) (hs:(mapI ns v).length≤512) (hs2:∀ o∈v,o.length≤512) :
  cbor_Map (kN ns) v=some ((),mapI ns v,0,())∧VT (h+1) (mapI ns v):=by
 have hkl:(kN ns).length=ns.length:=by simp [kN]
 have hV:VT (h+1) (mapI ns v):=Veva (k:=ns.length) (by simp) (by simpa using hl) (by omega) h1 (Vw9 ns [] hu (.inl rfl)) H
 refine ⟨?_,hV⟩
 rw [MapA (Vava hu) v (by omega) (by omega) hv,hkl]
 unfold mapO
 have ha:adj (kN ns) (List.range ns.length)=false:=by
  apply Vxa
  rw [List.pairwise_iff_getElem]
  intro i j hi hj hij
  simp only [List.getElem_range]
  exact Vava hu i j hij (by simpa [kN] using hj)
 rw [ha,Voe v fun o ho=>Vc4 (H o ho) (by omega) (hs2 o ho),Veka hl,hkl,BitVec.ofInt_natCast]
 have:=Vc4 hV (by omega) hs
 unfold mapI at this
 rw [this]
 rfl
def bytesI (b:List UInt8):List ApiItem:=[⟨3,0#64,b⟩]
def textI (b:List UInt8):List ApiItem:=[⟨4,0#64,b⟩]
def uintI (n:BitVec 64):List ApiItem:=[⟨1,n,[]⟩]
def boolI (b:Bool):List ApiItem:=[⟨7,bif b then 1#64 else 0#64,[]⟩]
theorem Vd5 {b:List UInt8} (h:b.length≤1024):VT 1 (bytesI b):=
 Vhn (by dsimp only; decide) (by dsimp only; decide) fun n d bb hn hd=>Vfs (by dsimp only; decide) (by dsimp only; decide) rfl (by unfold big; rw [decide_eq_false (show ¬ 1024 < b.length by omega)]; rfl) (fun h=>by cases h) hn hd
theorem Vi1 {b:List UInt8} (h:b.length≤1024) (hv:Lib.validD b=true):VT 1 (textI b):=
 Vhn (by dsimp only; decide) (by dsimp only; decide) fun n d bb hn hd=>Vfs (by dsimp only; decide) (by dsimp only; decide) rfl (by unfold big; rw [decide_eq_false (show ¬ 1024 < b.length by omega)]; rfl) (fun _=>hv) hn hd
theorem Vof (n:BitVec 64):VT 1 (uintI n):=
 Vhn (by dsimp only; decide) (by dsimp only; decide) fun k d bb hn hd=>Vfs (by dsimp only; decide) (by dsimp only; decide) rfl rfl (fun h=>by cases h) hn hd
theorem Vela (b:Bool):VT 1 (boolI b):=by
 cases b
 ·exact Vhn (by dsimp only; decide) (by dsimp only; decide) fun k d bb hn hd=>Vfs (by dsimp only; decide) (by dsimp only; decide) rfl rfl (fun h=>by cases h) hn hd
 ·exact Vhn (by dsimp only; decide) (by dsimp only; decide) fun k d bb hn hd=>Vfs (by dsimp only; decide) (by dsimp only; decide) rfl rfl (fun h=>by cases h) hn hd
def arrI (v:List (List ApiItem)):List ApiItem:=⟨5,BitVec.ofNat 64 v.length,[]⟩::v.flatten
theorem Vp3 {v:List (List ApiItem)} {h:Nat} (hk:v.length≤100) (h1:1≤h) (hh:h≤8) (hv:light1 v) (H:∀ o∈v,VT h o) (hs:(arrI v).length≤512) (hs2:∀ o∈v,o.length≤512) :
  Zda v=some ((),arrI v,())∧VT (h+1) (arrI v):=by
 have hV:VT (h+1) (arrI v):=Vzc rfl (by omega) H
 refine ⟨?_,hV⟩
 unfold Zda
 rw [Vzd v hv (by omega)]
 have:=Vc4 hV (by omega) hs
 unfold arrI at this
 unfold arrO
 rw [Voe v fun o ho=>Vc4 (H o ho) (by omega) (hs2 o ho),BitVec.ofInt_natCast,this]
 rfl
end Go.Proofs.YthoblablopmhfaaGreatDoor

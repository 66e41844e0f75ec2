/- Replies: the values of the fields, as the program makes them. -/
import Derived.Test.YthoblablopmhfaaGreatDoorFns
import Derived.Test.YthoblablopmhfaaGreatDoorMsH
import Derived.Test.YthoblablopmhfaaGreatDoorMsD
namespace Go.Proofs.YthoblablopmhfaaGreatDoor
set_option linter.unusedVariables false
set_option linter.unusedSimpArgs false
set_option maxRecDepth 100000
open Go Go.Abs
theorem Vhl {σ β α τ:Type} {f:σ→Option (σ⊕β)} (l:List α) (g:α→τ) (mk:Nat→List τ→σ) (b:β) (hl:l.length < 9000000000000000000)
  (h:∀ (i:Nat) (x:α),l[i]? = some x→f (mk i ((l.take i).map g))=some (.inl (mk (i+1) ((l.take i).map g++[g x]))))
  (he:f (mk l.length (l.map g))=some (.inr b)):iter f rounds (mk 0 [])=some b:=by
 obtain ⟨t,h1,h2⟩:=Vcc (f:=f) l (fun _ (t:List τ) x=>t++[g x]) mk (fun _=>b) (fun i t=>t=(l.take i).map g) hl [] (by simp)
  (by
   rintro i t x rfl hx
   refine ⟨h i x hx,?_⟩
   rw [List.take_add_one,hx]
   simp)
  (by
   rintro t rfl
   rw [List.take_length]
   exact he)
 exact h2
theorem Vxb (b:List UInt8):Zdo b=some ((),bytesI b,()):=rfl
theorem Vaxa (b:List UInt8):Zds b=some ((),textI b,()):=rfl
theorem Vaya (n:BitVec 64):Zdt n=some ((),uintI n,()):=rfl
theorem Vjza (b:Bool):Zdr b=some ((),boolI b,()):=by cases b<;>rfl
def certI (l:List (List UInt8)):List ApiItem:=arrI (l.map bytesI)
theorem Vg8 {l:List (List UInt8)} (h:∀ c∈l,c.length≤1024):light1 (l.map bytesI):=by
 intro o ho
 obtain ⟨c,hc,rfl⟩:=List.mem_map.1 ho
 have:=h c hc
 exact ⟨by simp [bytesI],fun x hx=>by simp [bytesI] at hx; subst hx; dsimp only; omega⟩
theorem flat1 {α:Type} (g:α→List ApiItem) (k:Nat):∀ (l:List α),(∀ x∈l,(g x).length=k)→(l.map g).flatten.length=k * l.length
 | [],_=>by simp
 | x::l,h=>by
  rw [List.map_cons,List.flatten_cons,List.length_append,flat1 g k l fun y hy=>h y (by simp [hy]),h x (by simp),List.length_cons,Nat.mul_succ]; omega
theorem Vgc (l:List (List UInt8)):(certI l).length=1+l.length:=by
 unfold certI arrI
 rw [List.length_cons,flat1 bytesI 1 l fun x _=>rfl]; omega
theorem Vj7 {l:List (List UInt8)} (hl:l.length≤3) (h:∀ c∈l,c.length≤1024):Zcq l=some ((),certI l,())∧VT 2 (certI l):=by
 obtain ⟨a1,a2⟩:=Vp3 (v:=l.map bytesI) (h:=1) (by simp; omega) (by omega) (by omega) (Vg8 h)
  (by intro o ho; obtain ⟨c,hc,rfl⟩:=List.mem_map.1 ho; exact Vd5 (h c hc)) (by have:=Vgc l; unfold certI at this; omega) (by intro o ho; obtain ⟨c,hc,rfl⟩:=List.mem_map.1 ho; simp [bytesI])
 refine ⟨?_,a2⟩
 unfold Zcq Zcq_L0
 rw [show ((0:Int))=((0:Nat):Int) from rfl,Vhl l bytesI (fun i t=>(t,l,(l.length:Int),(i:Int),())) (l.map bytesI,()) (by omega)]
 ·simp only [bindS]; rw [a1]; rfl
 ·intro i x hx
  have h1:=Van hx
  simp only [Zcq_L0b,Vbk hx,gIn hx,Vxb,bindS,cond_true,Var (i:=i) (by omega)]
  rw [Vgx (by simp; omega)]
  rfl
 ·simp [Zcq_L0b]
def entV (x:ApiEntry):List (List ApiItem):=[textI x.rP,bytesI x.user,textI x.name,bytesI x.iD,uintI (BitVec.ofInt 64 x.left)]
def entI (x:ApiEntry):List ApiItem:=mapI [1,2,3,4,5] (entV x)
structure GoodE (x:ApiEntry):Prop where
 r:x.rP.length≤64
 u:x.user.length≤16
 n:x.name.length≤32
 vr:Lib.validD x.rP=true
 vn:Lib.validD x.name=true
 i:x.iD.length=176
 l:0≤x.left∧x.left≤255
theorem Vp4 {x:ApiEntry} (h:GoodE x):cbor_Map ([1#64,2#64,3#64,4#64,5#64]:List (BitVec 64)) (entV x)=some ((),entI x,0,())∧VT 2 (entI x):=by
 have:=h.r; have:=h.u; have:=h.n; have:=h.i
 refine Vawa (ns:=[1,2,3,4,5]) (v:=entV x) (h:=1) ⟨by decide,by decide⟩ (by decide) rfl (by omega) (by omega) ?_ ?_ (by simp [mapI,pairI,entV,textI,bytesI,uintI]) ?_
 ·intro o ho
  simp only [entV,List.mem_cons,List.not_mem_nil,or_false] at ho
  rcases ho with rfl | rfl | rfl | rfl | rfl<;>exact ⟨by simp [textI,bytesI,uintI],fun y hy=>by simp [textI,bytesI,uintI] at hy; subst hy; dsimp only; first | omega | exact (by decide)⟩
 ·intro o ho
  simp only [entV,List.mem_cons,List.not_mem_nil,or_false] at ho
  rcases ho with rfl | rfl | rfl | rfl | rfl
  ·exact Vi1 (by omega) h.vr
  ·exact Vd5 (by omega)
  ·exact Vi1 (by omega) h.vn
  ·exact Vd5 (by omega)
  ·exact Vof _
 ·intro o ho
  simp only [entV,List.mem_cons,List.not_mem_nil,or_false] at ho
  rcases ho with rfl | rfl | rfl | rfl | rfl<;>simp [textI,bytesI,uintI]
theorem Vd6 (x:ApiEntry):(entI x).length=11:=by simp [entI,mapI,pairI,entV,textI,bytesI,uintI]
theorem Vi2 {x:ApiEntry} (h:GoodE x):∀ y∈entI x,y.data.length < 100000:=by
 have:=h.r; have:=h.u; have:=h.n; have:=h.i
 intro y hy
 simp only [entI,mapI,pairI,entV,textI,bytesI,uintI,keyI,List.map_cons,List.map_nil,List.zip_cons_cons,List.zip_nil_right,List.flatMap_cons,List.flatMap_nil,List.append_nil,List.cons_append,List.nil_append,List.mem_cons,List.not_mem_nil,or_false] at hy
 rcases hy with rfl | rfl | rfl | rfl | rfl | rfl | rfl | rfl | rfl | rfl | rfl<;>dsimp only [List.length_nil]<;>omega
def entsI (l:List ApiEntry):List ApiItem:=arrI (l.map entI)
theorem Vgd (l:List ApiEntry):(entsI l).length=1+11 * l.length:=by
 unfold entsI arrI
 rw [List.length_cons,flat1 entI 11 l fun x _=>Vd6 x]; omega
theorem Vj8 {l:List ApiEntry} (hl:l.length≤8) (h:∀ x∈l,GoodE x):Zbh l=some ((),entsI l,())∧VT 3 (entsI l):=by
 obtain ⟨a1,a2⟩:=Vp3 (v:=l.map entI) (h:=2) (by simp; omega) (by omega) (by omega)
  (by intro o ho; obtain ⟨c,hc,rfl⟩:=List.mem_map.1 ho; exact ⟨by rw [Vd6]; omega,Vi2 (h c hc)⟩)
  (by intro o ho; obtain ⟨c,hc,rfl⟩:=List.mem_map.1 ho; exact (Vp4 (h c hc)).2) (by have:=Vgd l; unfold entsI at this; omega) (by intro o ho; obtain ⟨c,hc,rfl⟩:=List.mem_map.1 ho; rw [Vd6]; omega)
 refine ⟨?_,a2⟩
 unfold Zbh Zbh_L0
 rw [show ((0:Int))=((0:Nat):Int) from rfl,Vhl l entI (fun i t=>(t,l,(l.length:Int),(i:Int),())) (Sum.inr (l.map entI,())) (by omega)]
 ·simp only [bindS,Sum.elim_inr]; rw [a1]; rfl
 ·intro i x hx
  have h1:=Van hx
  have hm:=(Vp4 (h x (List.mem_of_getElem? hx))).1
  unfold entV at hm
  simp only [Zbh_L0b,Vbk hx,gIn hx,Vxb,Vaxa,Vaya,bindS,cond_true,Var (i:=i) (by omega)]
  rw [hm]
  simp only [bindS,decide_true,Bool.not_true,cond_false]
  rw [Vgx (by simp; omega)]
  rfl
 ·simp [Zbh_L0b]
end Go.Proofs.YthoblablopmhfaaGreatDoor

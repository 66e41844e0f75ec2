/- Maps out of ascending keys: the program's sorting leaves ascending keys alone. -/
import Derived.Test.YthoblablopmhfaaGreatDoorFns
import Derived.Test.YthoblablopmhfaaGreatDoorMsB
import Derived.Test.YthoblablopmhfaaGreatDoorCrE
namespace Go.Proofs.YthoblablopmhfaaGreatDoor
set_option linter.unusedVariables false
set_option linter.unusedSimpArgs false
set_option maxRecDepth 100000
open Go Go.Abs
def asc (keys:List (BitVec 64)):Prop:=∀ i j,i < j→j < keys.length→kk keys i < kk keys j
abbrev rg (n:Nat):List Int:=ci (List.range n)
theorem Vw7 (n:Nat):(rg n).length=n:=by simp
theorem rg_at {n i:Nat} (h:i < n):(rg n)[i]? = some (i:Int):=by
 refine Vow ?_
 rw [List.getElem?_range h]
theorem up_ok {keys:List (BitVec 64)} (h:asc keys) {i j:Nat} (hij:i < j) (hj:j < keys.length):Zdp (j:Int) (i:Int) keys=some ((),1,()):=by
 rw [Vbla keys j i hj (by omega)]
 unfold cmpI
 have:=h i j hij hj
 rw [decide_eq_false (show ¬ kk keys j < kk keys i by omega),decide_eq_true this]; rfl
theorem Vjya {keys:List (BitVec 64)} (h:asc keys) {n:Nat} (hn:keys.length=n) (h31:n≤31) {i:Nat} (h0:1≤i) (hi:i < n):Zac_L2 (rg n,0,(n:Int),(keys,()),(i:Int),(i:Int),())=some (rg n,0,(n:Int),(keys,()),(i:Int),()):=by
 unfold Zac_L2
 rw [Vam,show (1180591620717411303424:Nat)=1180591620717411303423+1 from rfl,Vae]
 dsimp only
 unfold Zac_L2b
 rw [Vw7,decide_eq_true (show (0:Int) < (i:Int) by omega),Vg0 (show (0:Int)≤(i:Int) by omega) (show (i:Int) < (n:Int) by omega),Vad (n:=(i:Int) - 1) (by omega) (by omega),show (i:Int) - 1=((i - 1:Nat):Int) by omega,Vg0 (show (0:Int)≤((i - 1:Nat):Int) by omega) (show ((i - 1:Nat):Int) < (n:Int) by omega),Int.toNat_natCast,Int.toNat_natCast,rg_at hi,rg_at (show i - 1 < n by omega)]
 simp only [cond_true,bindS]
 rw [up_ok h (show i - 1 < i by omega) (by omega)]
 rfl
theorem insA {keys:List (BitVec 64)} (h:asc keys) {n:Nat} (hn:keys.length=n) (h31:n≤31):Zac (rg n) 0 (n:Int) (keys,())=some ((rg n,()),()):=by
 unfold Zac Zac_L0
 rw [show IntKind.wrap .i64 ((0:Int)+1)=((0+1:Nat):Int) from rfl,Ve4 (List.replicate (n - 1) ()) (fun (t:Unit) _=>t) (fun i t=>(rg n,0,(n:Int),(keys,()),((i+1:Nat):Int),())) (fun _=>(rg n,())) (by simp; omega) ()]
 ·rfl
 ·intro i t x hx
  have h1:=Van hx
  rw [List.length_replicate] at h1
  simp only [Zac_L0b]
  rw [decide_eq_true (show ((i+1:Nat):Int) < (n:Int) by omega),Vjya h hn h31 (by omega) (by omega)]
  simp only [cond_true,bindS,Var (i:=i+1) (by omega)]
 ·intro t
  simp only [Zac_L0b,List.length_replicate]
  rw [decide_eq_false (show ¬ ((n - 1+1:Nat):Int) < (n:Int) by omega)]; rfl
theorem ordA {keys:List (BitVec 64)} (h:asc keys) {n:Nat} (hn:keys.length=n) {i j:Nat} (hij:i < j) (hj:j < n) (s:Int):Zaj (rg n) (i:Int) (j:Int) (s,()) (keys,())=some (((s,()),()),(i:Int),(j:Int),()):=by
 unfold Zaj
 rw [gIn (rg_at hj),gIn (rg_at (show i < n by omega))]
 simp only [bindS]
 rw [up_ok h hij (by omega)]
 rfl
theorem medA {keys:List (BitVec 64)} (h:asc keys) {n:Nat} (hn:keys.length=n) {i j k:Nat} (hij:i < j) (hjk:j < k) (hk:k < n) (s:Int):Zai (rg n) (i:Int) (j:Int) (k:Int) (s,()) (keys,())=some (((s,()),()),(j:Int),()):=by
 unfold Zai
 rw [ordA h hn hij (by omega)]
 simp only [bindS]
 rw [ordA h hn hjk hk]
 simp only [bindS]
 rw [ordA h hn hij (by omega)]
 rfl
theorem pivA {keys:List (BitVec 64)} (h:asc keys) {n:Nat} (hn:keys.length=n) (h8:12 < n) (h31:n≤31):∃ p,Zad (rg n) 0 (n:Int) (keys,())=some ((),p,1,()):=by
 unfold Zad
 have e0:IntKind.wrap .i64 ((n:Int) - 0)=(n:Int):=by rw [Vad (by omega) (by omega)]; omega
 have e1:Int.tdiv (n:Int) 4=((n / 4:Nat):Int):=rfl
 rw [e0,e1,Vad (n:=((n / 4:Nat):Int)) (by omega) (by omega)]
 dsimp only
 rw [Vad (n:=((n / 4:Nat):Int) * 1) (by omega) (by omega),Vad (n:=((n / 4:Nat):Int) * 2) (by omega) (by omega),Vad (n:=((n / 4:Nat):Int) * 3) (by omega) (by omega),Vad (n:=0+((n / 4:Nat):Int) * 1) (by omega) (by omega),Vad (n:=0+((n / 4:Nat):Int) * 2) (by omega) (by omega),Vad (n:=0+((n / 4:Nat):Int) * 3) (by omega) (by omega)]
 rw [decide_eq_true (show (8:Int)≤(n:Int) by omega),decide_eq_false (show ¬ (50:Int)≤(n:Int) by omega),show 0+((n / 4:Nat):Int) * 1=((n / 4:Nat):Int) by omega,show 0+((n / 4:Nat):Int) * 2=((n / 4 * 2:Nat):Int) by omega,show 0+((n / 4:Nat):Int) * 3=((n / 4 * 3:Nat):Int) by omega]
 rw [medA h hn (show n / 4 < n / 4 * 2 by omega) (show n / 4 * 2 < n / 4 * 3 by omega) (by omega)]
 exact ⟨_,rfl⟩
theorem parA {keys:List (BitVec 64)} (h:asc keys) {n:Nat} (hn:keys.length=n) (h8:12 < n) (h31:n≤31):Zaa (rg n) 0 (n:Int) (keys,())=some ((rg n,()),true,()):=by
 unfold Zaa Zaa_L0
 have e2:Zaa_L2 (rg n,0,(n:Int),(keys,()),1,0,())=some (rg n,0,(n:Int),(keys,()),(n:Int),0,()):=by
  unfold Zaa_L2
  rw [show ((1:Int))=((0+1:Nat):Int) from rfl,Ve4 (List.replicate (n - 1) ()) (fun (t:Unit) _=>t) (fun i t=>(rg n,0,(n:Int),(keys,()),((i+1:Nat):Int),0,())) (fun _=>(rg n,0,(n:Int),(keys,()),(n:Int),0,())) (by simp; omega) ()]
  ·intro i t x hx
   have h1:=Van hx
   rw [List.length_replicate] at h1
   simp only [Zaa_L2b]
   rw [Vw7,decide_eq_true (show ((i+1:Nat):Int) < (n:Int) by omega),decide_eq_true (show (0:Int)≤((i+1:Nat):Int) by omega),Vad (n:=((i+1:Nat):Int) - 1) (by omega) (by omega),show ((i+1:Nat):Int) - 1=(i:Int) by omega,Vg0 (show (0:Int)≤(i:Int) by omega) (show (i:Int) < (n:Int) by omega),Int.toNat_natCast,Int.toNat_natCast,rg_at (show i+1 < n by omega),rg_at (show i < n by omega)]
   simp only [cond_true,bindS,Bool.and_true]
   rw [up_ok h (show i < i+1 by omega) (by omega)]
   simp only [bindS,Var (i:=i+1) (by omega)]
   rfl
  ·intro t
   simp only [Zaa_L2b,List.length_replicate]
   rw [decide_eq_false (show ¬ ((n - 1+1:Nat):Int) < (n:Int) by omega),show n - 1+1=n by omega]; rfl
 rw [Vam,show (1180591620717411303424:Nat)=1180591620717411303423+1 from rfl,Vae]
 dsimp only
 unfold Zaa_L0b
 rw [show IntKind.wrap .i64 ((0:Int)+1)=1 from rfl,e2]
 simp only [bindS,decide_true,cond_true,Sum.elim_inl,Sum.elim_inr,show decide ((0:Int) < 5)=true from rfl]
theorem Vzb (n:Nat) (h:n≤17):∃ k,Zcz (BitVec.ofInt 64 (n:Int))=some ((),k,())∧(12 < n→k≠0):=by
 by_cases h12:n≤12
 ·obtain ⟨k,hk⟩:=Vbma n h12
  exact ⟨k,hk,fun h=>absurd h (by omega)⟩
 ·have:n=13∨n=14∨n=15∨n=16∨n=17:=by omega
  rcases this with rfl | rfl | rfl | rfl | rfl
  ·exact ⟨4,by kernel_rfl,fun _=>by decide⟩
  ·exact ⟨4,by kernel_rfl,fun _=>by decide⟩
  ·exact ⟨4,by kernel_rfl,fun _=>by decide⟩
  ·exact ⟨5,by kernel_rfl,fun _=>by decide⟩
  ·exact ⟨5,by kernel_rfl,fun _=>by decide⟩
theorem sortA {keys:List (BitVec 64)} (h:asc keys) {n:Nat} (hn:keys.length=n) (h17:n≤17):Zal (rg n) (keys,())=some ((rg n,()),()):=by
 unfold Zal
 obtain ⟨k,hk,hk0⟩:=Vzb n h17
 rw [Vw7,hk]
 simp only [bindS]
 unfold Zag Zag_L0
 rw [Vam,show (1180591620717411303424:Nat)=1180591620717411303423+1 from rfl,Vae]
 dsimp only
 unfold Zag_L0b
 rw [Vad (n:=(n:Int) - 0) (by omega) (by omega)]
 by_cases h12:n≤12
 ·rw [decide_eq_true (show (n:Int) - 0≤12 by omega),insA h hn (by omega)]
  rfl
 ·obtain ⟨p,hp⟩:=pivA h hn (by omega) (by omega)
  rw [decide_eq_false (show ¬ (n:Int) - 0≤12 by omega),decide_eq_false (hk0 (by omega))]
  simp only [cond_false,cond_true,Bool.not_true,bindS]
  rw [hp]
  simp only [bindS,decide_true,cond_true,cond_false,show decide ((1:Int)=2)=false from rfl]
  rw [parA h hn (by omega) (by omega)]
  simp only [bindS,cond_true,Sum.elim_inr]
end Go.Proofs.YthoblablopmhfaaGreatDoor

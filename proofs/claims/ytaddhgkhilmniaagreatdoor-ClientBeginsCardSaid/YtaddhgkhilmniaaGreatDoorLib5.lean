/- The library of abstract values, part 5: see the remarks ahead of each part. No condition. -/
import Derived.Test.YtaddhgkhilmniaaGreatDoorLib4
import Derived.Laws.MakeOwn
import Derived.Laws.IdiomStrings
import Derived.Test.YtaddhgkhilmniaaGreatDoorLib3
set_option linter.unusedVariables false
set_option linter.unusedSimpArgs false
namespace Go.Abs
open Go
section
variable {T:Nat->Type} {R:Type}
theorem Vax {α β:Type} (c:Bool) (a:Option α) (K:α->Option β):(bif c then a else none).bind K=bif c then a.bind K else none:=by cases c<;>rfl
theorem Vcj {α β:Type} (c:Bool) (a b:Option α) (K:α->Option β):(bif c then a else b).bind K=bif c then a.bind K else b.bind K:=by cases c<;>rfl
theorem Vgd {α β S:Type} (f:{R:Type}->α->(β->Option R)->Option R) (hf:∀ {R:Type} (x:α) (K:β->Option R),f x K=(f x some).bind K) :
  ∀ (l:List α) {R:Type} (K:List β->Option R),mapK (λx=>f (R:=R) x) l K=(mapK (λx=>f (R:=List β) x) l some).bind K
 | [],R,K=>rfl
 | x::r,R,K=>by
  simp only [mapK];rw [hf x,hf x (R:=List β)];simp only [Option.bind_assoc];congr 1; funext y;rw [Vgd (S:=S) f hf r (λr'=>K (y::r')),Vgd (S:=S) f hf r (λr'=>some (y::r'))];simp only [Option.bind_assoc,Option.bind_some]
theorem Vjo {α:Type} (l:List α) (x:DT T) (K:α->Option R):atK l x K=(atK l x some).bind K:=by
 unfold atK; split<;>simp
theorem Vbq (x:DT T) (n:Nat) (K:Nat->Option R):ltK x n K=(ltK x n some).bind K:=by
 unfold ltK; split<;>simp [Vax]
theorem Vbc (x:DT T) (n:Nat) (K:Nat->Option R):leK x n K=(leK x n some).bind K:=by
 unfold leK; split<;>simp [Vax]
theorem Vb1 (n:Nat) (lo hi:Option (DT T)) (K:Option Nat->Option Nat->Option R):cutK n lo hi K=(cutK n lo hi λa b=>some (a,b)).bind λp=>K p.1 p.2:=by
 unfold cutK;split
 ·rfl
 ·rw [Vbc,Vbc (K:=λa=>some (some a,none))]; simp [Option.bind_assoc]
 ·rw [Vbc,Vbc (K:=λa=>some (none,some a))]; simp [Option.bind_assoc]
 ·rw [Vbc,Vbc (R:=Option Nat×Option Nat)];simp only [Option.bind_assoc];congr 1; funext b;rw [Vbc,Vbc (R:=Option Nat×Option Nat)]; simp [Option.bind_assoc]
theorem Vge (y:DT T) (K:Nat->Option R):cntK y K=(cntK y some).bind K:=by
 unfold cntK; split<;>simp [Vax]
theorem Vwy (op:BinOp) (k:IntKind) (a:Int) (k':IntKind) (b:Int) (K:DT T->Option R):intK op k a k' b K=(intK op k a k' b some).bind K:=by
 unfold intK;split
 ·rfl
 ·cases op<;>first | rfl | (simp [Vcj]; done)
theorem Vjp {w:Nat} (op:BinOp) (a b:BitVec w) {S:Type} (f:BitVec w->S) (g:Bool->S) (K:S->Option R):bvK op a b (λz=>K (f z)) (λq=>K (g q))=(bvK op a b (λz=>some (f z)) (λq=>some (g q))).bind K:=by
 cases op<;>first | rfl | (simp [bvK,Vcj]; done)
theorem Vwz (x:DT T) (n:Nat) (K:DT T->Option R):shlK x n K=(shlK x n some).bind K:=by
 unfold shlK; split<;>rfl
theorem Vw0 (x:DT T) (n:Nat) (K:DT T->Option R):shrK x n K=(shrK x n some).bind K:=by
 unfold shrK; split<;>rfl
theorem Vw1 (op:BinOp) (a b:List UInt8) (K:DT T->Option R):strK op a b K=(strK op a b some).bind K:=by
 unfold strK; cases op<;>first | rfl | (simp [Vax]; done)
theorem Vw2 (Y:Nat->Option TI) (op:BinOp) (t:Nat) (x y:DT T) (K:DT T->Option R):binK Y op t x y K=(binK Y op t x y some).bind K:=by
 unfold binK;split
 ·rw [Vge,Vge (R:=DT T)]; simp only [Option.bind_assoc]; congr 1; funext n; exact Vwz x n K
 ·rw [Vge,Vge (R:=DT T)]; simp only [Option.bind_assoc]; congr 1; funext n; exact Vw0 x n K
 ·split
  ·split
   ·exact Vwy _ _ _ _ _ K
   ·rfl
  ·split
   ·exact Vjp op _ _ (λz=>DT.u8 (UInt8.ofBitVec z)) DT.bool K
   ·rfl
  ·split
   ·exact Vjp op _ _ DT.u16 DT.bool K
   ·rfl
  ·split
   ·exact Vjp op _ _ DT.u32 DT.bool K
   ·rfl
  ·split
   ·exact Vjp op _ _ DT.u64 DT.bool K
   ·rfl
  ·split
   ·exact Vw1 _ _ _ K
   ·rfl
  ·repeat' split
   all_goals rfl
  ·repeat' split
   all_goals rfl
  ·repeat' split
   all_goals rfl
  ·rfl
theorem Vara (op:UnOp) (x:DT T) (K:DT T->Option R):unK op x K=(unK op x some).bind K:=by
 unfold unK; split<;>rfl
theorem Vuc (Y:Nat->Option TI) (src dst:Nat) (x:DT T) (K:DT T->Option R):convK Y src dst x K=(convK Y src dst x some).bind K:=by
 unfold convK;repeat' split
 all_goals rfl
theorem Vhj (Y:Nat->Option TI) (t:Nat) (cs:List (DT T)) (K:DT T->Option R):ldK Y t cs K=(ldK Y t cs some).bind K:=by
 unfold ldK; split<;>rfl
theorem Vft (f:Nat->DT T) (K:DT T->Option R):∀ n k:Nat,(splitN n k λk=>K (f k))=(splitN n k λk=>some (f k)).bind K
 | 0,_=>rfl
 | n+1,k=>by
  simp only [splitN];cases Nat.beq k n
  ·simpa using Vft f K n k
  ·rfl
theorem Vib (Y:Nat->Option TI) (C:Cd T) (t:Nat) (x i:DT T) (K:DT T->Option R):indexAddrK Y C t x i K=(indexAddrK Y C t x i some).bind K:=by
 unfold indexAddrK;split
 ·split
  ·rw [Vjo,Vjo (R:=DT T)]; simp only [Option.bind_assoc,Option.bind_some]
  ·rfl
 ·split
  ·rw [Vbq,Vbq (R:=DT T)]; simp only [Option.bind_assoc,Option.bind_some]
  ·rfl
 ·split
  ·rw [Vbq,Vbq (R:=DT T)]; simp only [Option.bind_assoc,Option.bind_some]
  ·rfl
 ·split
  ·rw [Vbq,Vbq (R:=DT T)]; simp only [Option.bind_assoc,Option.bind_some]; congr 1; funext k; exact Vft _ K _ _
  ·rfl
 ·split
  ·split
   ·rw [Vbq,Vbq (R:=DT T)]; simp only [Option.bind_assoc,Option.bind_some]
   ·rw [Vbq,Vbq (R:=DT T)]; simp only [Option.bind_assoc,Option.bind_some]; congr 1; funext k; exact Vft _ K _ _
  ·rfl
 ·split
  ·split
   ·rw [Vbq,Vbq (R:=DT T)]; simp only [Option.bind_assoc,Option.bind_some]
   ·rfl
  ·rfl
 ·rfl
theorem Vbx (C:Cd T) (c:Nat) (l:List (T c)):∀ (n i:Nat) {R:Type} (K:List (DT T)->Option R),firstsK C c l n i K=(firstsK C c l n i some).bind K
 | 0,_,_,K=>rfl
 | n+1,i,R,K=>by
  simp only [firstsK,Option.bind_assoc];congr 1; funext x;rw [Vbx C c l n (i+1) (λcs=>K (C.enc c x++cs)),Vbx C c l n (i+1) (λcs=>some (C.enc c x++cs))];simp only [Option.bind_assoc,Option.bind_some]
theorem Vlg (Y:Nat->Option TI) (C:Cd T) (t:Nat) (x:DT T) (K:DT T->Option R):arrayAtK Y C t x K=(arrayAtK Y C t x some).bind K:=by
 unfold arrayAtK;split
 ·split
  ·split
   ·split
    ·rw [Vbx,Vbx (R:=DT T)]; simp only [Option.bind_assoc,Option.bind_some]
    ·rfl
   ·split
    ·simp [Vax]
    ·rfl
   ·split
    ·simp [Vax]
    ·rfl
   ·rfl
  ·rfl
 ·rfl
theorem Vw3 (Y:Nat->Option TI) (t:Nat) (x:DT T) (K:DT T->Option R):capK Y t x K=(capK Y t x some).bind K:=by
 unfold capK;split
 ·split<;>rfl
 ·rfl
theorem Vo0 (Y:Nat->Option TI) (t:Nat) (x i:DT T) (K:DT T->Option R):indexK Y t x i K=(indexK Y t x i some).bind K:=by
 unfold indexK;split
 ·split
  ·rw [Vjo,Vjo (R:=DT T)]; simp only [Option.bind_assoc,Option.bind_some]
  ·rfl
 ·split
  ·rw [Vbq,Vbq (R:=DT T)]; simp only [Option.bind_assoc]; congr 1; funext k; exact Vhj _ _ _ K
  ·rfl
 ·rfl
theorem Vo1 (Y:Nat->Option TI) (C:Cd T) (t:Nat) (x:DT T) (lo hi:Option (DT T)) (K:DT T->Option R):sliceK Y C t x lo hi K=(sliceK Y C t x lo hi some).bind K:=by
 unfold sliceK;split
 ·split
  ·rw [Vb1,Vb1 (R:=DT T)]; simp only [Option.bind_assoc,Option.bind_some]
  ·rfl
 ·split
  ·split
   ·rw [Vb1,Vb1 (R:=DT T)]; simp only [Option.bind_assoc,Option.bind_some]
   ·rfl
  ·rfl
 ·split
  ·rw [Vb1,Vb1 (R:=DT T)]; simp only [Option.bind_assoc,Option.bind_some]
  ·rfl
 ·split
  ·rw [Vb1,Vb1 (R:=DT T)]; simp only [Option.bind_assoc,Option.bind_some]
  ·rfl
 ·split
  ·rw [Vb1,Vb1 (R:=DT T)]; simp only [Option.bind_assoc,Option.bind_some]
  ·rfl
 ·rfl
theorem Vmg (Y:Nat->Option TI) (C:Cd T) (t:Nat) (x h m:DT T) (K:DT T->Option R):sliceMK Y C t x h m K=(sliceMK Y C t x h m some).bind K:=by
 unfold sliceMK;split
 ·split
  ·rw [Vbc,Vbc (R:=DT T)]; simp only [Option.bind_assoc]; congr 1; funext k; rw [Vbc,Vbc (R:=DT T)]; simp only [Option.bind_assoc,Option.bind_some]
  ·rfl
 ·split
  ·rw [Vbc,Vbc (R:=DT T)]; simp only [Option.bind_assoc]; congr 1; funext k; rw [Vbc,Vbc (R:=DT T)]; simp only [Option.bind_assoc,Option.bind_some]
  ·rfl
 ·rfl
theorem Vw4 (Y:Nat->Option TI) (t:Nat) (x:DT T) (K:DT T->Option R):lenK Y t x K=(lenK Y t x some).bind K:=by
 unfold lenK;repeat' split
 all_goals rfl
theorem Vasa (x y:DT T) (K:DT T->Option R):mnK x y K=(mnK x y some).bind K:=by unfold mnK; split<;>rfl
theorem Vata (x y:DT T) (K:DT T->Option R):mxK x y K=(mxK x y some).bind K:=by unfold mxK; split<;>rfl
theorem Vhk (f:{R:Type}->DT T->DT T->(DT T->Option R)->Option R) (hf:∀ {R:Type} (x y:DT T) (K:DT T->Option R),f x y K=(f x y some).bind K) :
  ∀ (l:List (DT T)) (x:DT T) {R:Type} (K:DT T->Option R),foldK (λa b=>f (R:=R) a b) x l K=(foldK (λa b=>f (R:=DT T) a b) x l some).bind K
 | [],x,R,K=>rfl
 | y::r,x,R,K=>by
  simp only [foldK];rw [hf x y (λz=>foldK (λa b=>f (R:=R) a b) z r K),hf x y (λz=>foldK (λa b=>f (R:=DT T) a b) z r some)];simp only [Option.bind_assoc];congr 1; funext z;exact Vhk f hf r z K
theorem Vud (q:Bool) (a b:DT T) (K:DT T->Option R):pickK q a b K=(pickK q a b some).bind K:=by
 unfold pickK;split
 ·rfl
 ·split<;>rfl
 ·simp [Vcj]
theorem Vns (Y:Nat->Option TI) (C:Cd T) (o:Op) (e:Operand->DT T) (K:DT T->Option R):nK Y C o e K=(nK Y C o e some).bind K:=by
 unfold nK;split
 ·rfl
 ·rfl
 ·split
  ·exact Vud _ _ _ K
  ·rfl
 ·split<;>rfl
 ·exact Vw2 _ _ _ _ _ K
 ·exact Vara _ _ K
 ·exact Vuc _ _ _ _ K
 ·split<;>rfl
 ·split<;>rfl
 ·split<;>rfl
 ·exact Vib _ _ _ _ _ K
 ·exact Vo0 _ _ _ _ K
 ·exact Vo1 _ _ _ _ _ _ K
 ·exact Vmg _ _ _ _ _ _ K
 ·split
  ·split<;>rfl
  ·rfl
 ·split<;>rfl
 ·split
  ·exact Vw4 _ _ _ K
  ·rfl
 ·exact Vlg _ _ _ _ K
 ·split
  ·exact Vw3 _ _ _ K
  ·rfl
 ·split
  ·exact Vhk (λa b K=>mnK a b K) (λx y K=>Vasa x y K) _ _ K
  ·rfl
 ·split
  ·exact Vhk (λa b K=>mxK a b K) (λx y K=>Vata x y K) _ _ K
  ·rfl
 ·rfl
theorem Vjq {α:Type} (l:List α) (i n:Nat) (K:List α->Option R):winK l i n K=(winK l i n some).bind K:=by
 unfold winK; rw [Vax]; rfl
theorem Va4 (m:MT T) (c:Nat) (x:DT T) (K:List (T c)->Option R):rowsK m c x K=(rowsK m c x some).bind K:=by
 unfold rowsK;split
 ·rfl
 ·split<;>rfl
 ·split
  ·split<;>rfl
  ·rfl
 ·split
  ·split
   ·exact Vjq _ _ _ K
   ·rfl
  ·rfl
 ·rfl
theorem Ve4 (C:Cd T) (m:MT T) (sn:Bool):∀ (n:Nat) {R:Type} (d:DT T) (K:DT T->Option R),purK C m sn n d K=(purK C m sn n d some).bind K
 | 0,R,d,K=>rfl
 | n+1,R,d,K=>by
  have ml:=λ(l:List (DT T)) {R:Type} (K:List (DT T)->Option R)=>Vgd (S:=Unit) (λ{R} x K=>purK C m sn n (R:=R) x K) (λ{R} x K=>Ve4 C m sn n x K) l K;simp only [purK];cases d with
  | bw b g c k=>simp only []; split<;>rfl
  | bs b g c i k=>
   simp only []; split
   ·rw [Vjq,Vjq (R:=DT T)]; simp only [Option.bind_assoc,Option.bind_some]
   ·rfl
  | bp b off=>
   simp only []; split
   ·split
    ·rw [ml,ml (R:=DT T)]; simp only [Option.bind_assoc,Option.bind_some]
    ·rfl
   ·rfl
  | ap b g c i off=>
   simp only []; split
   ·split
    ·simp only [Option.bind_assoc,Option.bind_some]
    ·rfl
   ·rfl
  | agg cs=>simp only []; rw [ml,ml (R:=DT T)]; simp only [Option.bind_assoc,Option.bind_some]
  | fn f cs=>simp only []; rw [ml,ml (R:=DT T)]; simp only [Option.bind_assoc,Option.bind_some]
  | _=>rfl
theorem Vbr (C:Cd T) (m:MT T) (sn:Bool) (n:Nat) (l:List (DT T)) {R:Type} (K:List (DT T)->Option R):mapK (purK C m sn n) l K=(mapK (purK C m sn n) l some).bind K:=
 Vgd (S:=Unit) (λ{R} x K=>purK C m sn n (R:=R) x K) (λ{R} x K=>Ve4 C m sn n x K) l K
theorem Vb5 (C:Cd T) (m:MT T) (cs:List (DT T)) (K:List (DT T)->MT T->Option R):frK C m cs K=(frK C m cs λa b=>some (a,b)).bind λp=>K p.1 p.2:=by
 unfold frK;rw [Vbr,Vbr (R:=List (DT T)×MT T)];simp only [Option.bind_assoc,Option.bind_some]
theorem Vue (Y:Nat->Option TI) (C:Cd T) (o:Op) (e:Operand->DT T) (m:MT T) (K:DT T->Option R):rK Y C o e m K=(rK Y C o e m some).bind K:=by
 unfold rK;split
 ·split
  ·split
   ·exact Vhj _ _ _ K
   ·rfl
  ·split
   ·split
    ·split
     ·rw [Vbx,Vbx (R:=DT T)]; simp only [Option.bind_assoc]; congr 1; funext cs; exact Vhj _ _ _ K
     ·rfl
    ·simp only [Option.bind_assoc]; congr 1; funext x; exact Vhj _ _ _ K
   ·rfl
  ·exact Vhj _ _ _ K
  ·rfl
 ·split
  ·split
   ·split
    ·simp [Vax]
    ·rfl
   ·rfl
  ·rfl
 ·split
  ·split
   ·split
    ·split
     ·simp only [Vcj,Option.bind_some]; rfl
     ·rfl
    ·rfl
   ·rfl
  ·rfl
 ·split
  ·split
   ·rw [Va4,Va4 (R:=DT T)]; simp only [Option.bind_assoc,Option.bind_some]
   ·rfl
  ·rfl
 ·rfl
theorem Vfu (C:Cd T) (el:Nat):∀ (ps:List (Nat×DT T)) (m:MT T) (rows:List (T el)) {R:Type} (K:List (T el)->MT T->Option R),partsK C el ps m rows K=(partsK C el ps m rows λa b=>some (a,b)).bind λp=>K p.1 p.2
 | [],m,rows,R,K=>rfl
 | (i, x)::r, m, rows, R, K => by
  simp only [partsK];split
  ·rw [Vb5,Vb5 (R:=List (T el)×MT T)];simp only [Option.bind_assoc];congr 1; funext p;split
   ·split
    ·exact Vfu C el r _ _ K
    ·rfl
   ·rfl
  ·rfl
theorem Vjr (m:MT T) (bts el:Nat) (s:DT T) (rows:List (T el)) (K:DT T->MT T->Option R):appK m bts el s rows K=(appK m bts el s rows λa b=>some (a,b)).bind λp=>K p.1 p.2:=by
 unfold appK;split
 ·simp [Vax]
 ·split
  ·split
   ·simp [Vax]
   ·rfl
  ·rfl
 ·split
  ·split
   ·simp [Vax]
   ·rfl
  ·rfl
 ·rfl
theorem Vlh (m:MT T) (b g c:Nat) (rows:List (T c)) (K:DT T->MT T->Option R):copyK m b g c rows K=(copyK m b g c rows λa b=>some (a,b)).bind λp=>K p.1 p.2:=by
 unfold copyK;split
 ·simp [Vax]
 ·rfl
theorem Vuf (m:MT T) (b g c i n:Nat) (rows:List (T c)) (K:DT T->MT T->Option R):copyA m b g c i n rows K=(copyA m b g c i n rows λa b=>some (a,b)).bind λp=>K p.1 p.2:=by
 unfold copyA;split
 ·simp only [Vcj,Option.bind_some]; rfl
 ·rfl
theorem Vug (Y:Nat->Option TI) (C:Cd T) (m:MT T) (b g c t':Nat) (d:DT T) (K:DT T->MT T->Option R):copyS Y C m b g c t' d K=(copyS Y C m b g c t' d λa b=>some (a,b)).bind λp=>K p.1 p.2:=by
 unfold copyS;split
 ·split
  ·split
   ·exact Vlh _ _ _ _ _ K
   ·rfl
  ·rfl
 ·rfl
theorem Vuh (Y:Nat->Option TI) (C:Cd T) (m:MT T) (src dst:Nat) (d:DT T) (K:DT T->MT T->Option R):sameK Y C m src dst d K=(sameK Y C m src dst d λa b=>some (a,b)).bind λp=>K p.1 p.2:=by
 unfold sameK;split
 ·split
  ·split
   ·split
    ·split
     ·rename_i l _;cases l.isEmpty<;>rfl
     ·rfl
    ·rfl
   ·rfl
  ·rfl
 ·rfl
theorem Vjs:∀ (qs:List Bool) (cs:List (DT T)) {R:Type} (K:List (DT T)->Option R),rnK qs cs K=(rnK qs cs some).bind K
 | _,[],_,K=>by simp only [rnK,Option.bind_some]
 | [],d::cs,_,K=>by simp only [rnK,Option.bind_some]
 | q::qs,d::cs,R,K=>by
  have keep:∀ d':DT T,rnK qs cs (λr'=>K (d'::r'))=(rnK qs cs λr'=>some (d'::r')).bind K:=λd'=>by
   rw [Vjs qs cs (λr'=>K (d'::r')),Vjs qs cs (λr'=>some (d'::r')),Option.bind_assoc];rfl
  simp only [rnK];split
  ·split
   ·rename_i c l;rw [keep,Vcj];rfl
   ·exact keep d
  ·exact keep d
theorem Vcka (Y : Nat->Option TI) (C : Cd T) (o : Op) (e : Operand->DT T) (m : MT T) (K : DT T->MT T->Option R) : wK Y C o e m K = (wK Y C o e m λa b => some (a, b)).bind λp => K p.1 p.2 := by
 unfold wK;split
 ·split
  ·split
   ·split
    ·split<;>rfl
    ·rfl
   ·rfl
  ·rfl
 ·split
  ·split
   ·split<;>rfl
   ·split
    ·split
     ·rw [Vb5,Vb5 (R:=DT T×MT T)];simp only [Option.bind_assoc];congr 1; funext p;split<;>rfl
     ·rfl
    ·rfl
  ·rfl
 ·split
  ·split
   ·split
    ·split
     ·split<;>rfl
     ·rfl
    ·split
     ·split
      ·split
       ·rw [Vb5,Vb5 (R:=DT T×MT T)];simp only [Option.bind_assoc];congr 1; funext p;split
        ·split
         ·simp [Vax]
         ·rfl
        ·rfl
       ·rfl
      ·rfl
     ·split
      ·simp only [Option.bind_assoc]; congr 1; funext x;rw [Vb5,Vb5 (R:=DT T×MT T)];simp only [Option.bind_assoc];congr 1; funext p;rw [Vjs,Vjs (R:=DT T×MT T)];simp only [Option.bind_assoc];congr 1; funext q;split
       ·split
        ·split<;>rfl
        ·rfl
       ·rfl
      ·rfl
    ·rfl
   ·rfl
  ·rfl
 ·split
  ·split
   ·split
    ·split
     ·rw [Vfu,Vfu (R:=DT T×MT T)]; simp only [Option.bind_assoc,Option.bind_some]
     ·rfl
    ·rfl
   ·rfl
  ·rfl
 ·split
  ·split<;>rfl
  ·rfl
 ·split
  ·split
   ·simp only [Vcj,Option.bind_some]
   ·rfl
  ·rfl
 ·repeat' split
  all_goals first | rfl | exact Vuh _ _ _ _ _ _ K
 ·split
  ·split
   ·split
    ·split
     ·split
      ·simp only [Vax,Option.bind_some]
      ·rfl
     ·rfl
    ·rfl
   ·rfl
  ·rfl
 ·split
  ·split
   ·split
    ·split
     ·rw [Va4,Va4 (R:=DT T×MT T)]; simp only [Option.bind_assoc]; congr 1; funext rows; exact Vlh _ _ _ _ _ K
     ·exact Vug _ _ _ _ _ _ _ _ K
    ·rfl
   ·split
    ·split
     ·rw [Va4,Va4 (R:=DT T×MT T)]; simp only [Option.bind_assoc]; congr 1; funext rows; exact Vuf _ _ _ _ _ _ _ K
     ·rfl
    ·rfl
   ·rfl
  ·rfl
 ·split
  ·split
   ·split
    ·split
     ·split
      ·split
       ·split
        ·simp [Vax]
        ·rfl
       ·split
        ·rw [Vjr]; simp only [Vax]
        ·rfl
      ·split
       ·split
        ·exact Vjr _ _ _ _ _ K
        ·rfl
       ·rfl
      ·split
       ·rw [Va4,Va4 (R:=DT T×MT T)]; simp only [Option.bind_assoc]; congr 1; funext rows; exact Vjr _ _ _ _ _ K
       ·rfl
     ·rfl
    ·rfl
   ·rfl
  ·rfl
 ·rfl
theorem Vdx (m:MT T) (c:Nat) (d:DT T) (K:List (T c)->MT T->Option R):decOK m c d K=(decOK m c d λa b=>some (a,b)).bind λp=>K p.1 p.2:=by
 unfold decOK;split
 ·rfl
 ·split
  ·split<;>rfl
  ·rfl
 ·split
  ·split
   ·simp [Vax]
   ·rfl
  ·rfl
 ·rfl
theorem Vck (C:Cd T) (m:MT T) (t:VT) (cs:List (DT T)) {R:Type} (K:t.ty T->MT T->Option R):decVK C m t cs K=(decVK C m t cs λa b=>some (a,b)).bind λp=>K p.1 p.2:=by
 unfold decVK;rw [Vb5,Vb5 (R:=VT.ty T t×MT T)];simp only [Option.bind_assoc];congr 1; funext p;split<;>rfl
theorem Vo2 (C:Cd T) (m:MT T) (a:VT) (c:Nat) (b:VT) (cs:List (DT T)) {R:Type} (K:a.ty T×List (T c)×b.ty T->MT T->Option R):decStK C m a c b cs K=(decStK C m a c b cs λa b=>some (a,b)).bind λp=>K p.1 p.2:=by
 unfold decStK;split
 ·rw [Vck,Vck (R:=(a.ty T×List (T c)×b.ty T)×MT T)];simp only [Option.bind_assoc];congr 1; funext p;rw [Vdx,Vdx (R:=(a.ty T×List (T c)×b.ty T)×MT T)];simp only [Option.bind_assoc];congr 1; funext q;rw [Vck,Vck (R:=(a.ty T×List (T c)×b.ty T)×MT T)];simp only [Option.bind_assoc];rfl
 ·rfl
theorem Vc1 (C:Cd T) (m:MT T) (f:Fld) (cs:List (DT T)) {R:Type} (K:f.ty T->MT T->Option R):decFK C m f cs K=(decFK C m f cs λa b=>some (a,b)).bind λp=>K p.1 p.2:=by
 cases f with
 | v t=>exact Vck C m t cs K
 | own c=>
  simp only [decFK];split
  ·exact Vdx _ _ _ K
  ·rfl
 | pt t=>
  simp only [decFK];split
  ·split
   ·exact Vck C _ t _ K
   ·rfl
  ·rfl
 | st a c b=>exact Vo2 C m a c b cs K
 | fp f t=>
  simp only [decFK];split
  ·split
   ·split
    ·exact Vck C _ t _ K
    ·rfl
   ·rfl
  ·rfl
theorem Vec (C:Cd T):∀ (fs:List Fld) (m:MT T) (cs:List (DT T)) {R:Type} (K:tyFs T fs->MT T->Option R),decFsK C fs m cs K=(decFsK C fs m cs λa b=>some (a,b)).bind λp=>K p.1 p.2
 | [],m,cs,R,K=>by simp only [decFsK]; split<;>rfl
 | f::r,m,cs,R,K=>by
  simp only [decFsK];rw [Vc1,Vc1 (R:=tyFs T (f::r)×MT T)];simp only [Option.bind_assoc];congr 1; funext p;rw [Vec C r,Vec C r (R:=tyFs T (f::r)×MT T)];simp only [Option.bind_assoc,Option.bind_some]
end
section
variable {T:Nat->Type} {C:Cd T} {O I:Nat->Prop} {w:World} {loc:Nat->Nat->Loc} {L:Nat->Nat->Nat} {m:MT T}
theorem Vjt {b:Nat} (h:m.length<=b):m.get b = .gone:=by
 simp [MT.get,List.getD_eq_getElem?_getD,List.getElem?_eq_none h]
theorem Va9 {b b':Nat} {x:BoxT T} (h:b < m.length):(m.put b x).get b'=if b'=b then x else m.get b':=by
 simp only [MT.get,MT.put,List.getD_eq_getElem?_getD,List.getElem?_set];by_cases e:b'=b
 ·subst e; simp [h]
 ·rw [if_neg (λq=>e q.symm),if_neg e]
theorem Vby {b:Nat} {x:BoxT T}:(m.put b x).length=m.length:=by simp [MT.put]
theorem Vfv {x:BoxT T} {b:Nat}:MT.get (m++[x]) b=if b=m.length then x else m.get b:=by
 simp only [MT.get,List.getD_eq_getElem?_getD];by_cases e:b=m.length
 ·subst e; simp
 ·rw [if_neg e];rcases Nat.lt_or_ge b m.length with h | h
  ·rw [List.getElem?_append_left h]
  ·rw [List.getElem?_eq_none h,List.getElem?_eq_none (by simp; omega)]
theorem Vb9 {b:Nat} {x:BoxT T} (h:b < m.length):denM C (m.put b x)=(denM C m).set b (denB C x):=by
 unfold denM Mem.set;simp only [Vby,Mem.mk.injEq,true_and];funext b';simp only [upd,Va9 h];split<;>rfl
theorem Ved {x:BoxT T}:denM C (m++[x])=(denM C m).add (denB C x):=by
 unfold denM Mem.add;simp only [List.length_append,List.length_cons,List.length_nil,Mem.mk.injEq,Nat.zero_add,true_and];funext b';simp only [upd,Vfv];split<;>rfl
theorem Vdy {b:Nat} {x:BoxT T} (h:b < m.length) (hm:WfM L m) (hx:WfB L b x):WfM L (m.put b x):=λb'=>by
 rw [Va9 h];split
 ·rename_i e; subst e; exact hx
 ·exact hm b'
theorem Vui {x:BoxT T} (hm:WfM L m) (hx:WfB L m.length x):WfM L (m++[x]):=λb'=>by
 rw [Vfv];split
 ·rename_i e; subst e; exact hx
 ·exact hm b'
theorem Va5 (h:MRel O I loc (denM C m) w) {b g:Nat} (hl:loc b g≠.free):b < m.length:=lt_nb (m:=denM C m) h hl
theorem Vcq (h:MRel O I loc (denM C m) w) {b:Nat} (hb:b < m.length):RelB I w loc b (denB C (m.get b)):=h.box b hb
theorem Vbf {b g c:Nat} {l:List (T c)} (h:boxL m b g c=some l):m.get b = .arr g c l\/m.get b = .frz g c l:=by
 unfold boxL at h;split at h
 ·rename_i g' c' l' hb;split at h
  ·rename_i hg;have hg:=Nat.eq_of_beq_eq_true hg;split at h
   ·rename_i hc _;subst hc; subst hg;simp only [Option.some.injEq] at h; subst h;exact .inl hb
   ·cases h
  ·cases h
 ·rename_i g' c' l' hb;split at h
  ·rename_i hg;have hg:=Nat.eq_of_beq_eq_true hg;split at h
   ·rename_i hc _;subst hc; subst hg;simp only [Option.some.injEq] at h; subst h;exact .inr hb
   ·cases h
  ·cases h
 ·cases h
theorem Vba {b g c:Nat} {l:List (T c)} (h:boxA m b g c=some l):m.get b = .arr g c l:=by
 unfold boxA at h;split at h
 ·rename_i g' c' l' hb;split at h
  ·rename_i hg;have hg:=Nat.eq_of_beq_eq_true hg;split at h
   ·rename_i hc _;subst hc; subst hg;simp only [Option.some.injEq] at h; subst h;exact hb
   ·cases h
  ·cases h
 ·cases h
theorem Vmh (hm:MRel O I loc (denM C m) w) (hw:WfM L m) {b g c:Nat} {l:List (T c)} (h:boxL m b g c=some l) (hb:b < m.length) :
  L b g=l.length/\((loc b g = .nil/\l=[])\/∃ k,loc b g = .blk k/\VR I w (C.sz c) (l.map (C.encD c)) k 0):=by
 have hr:(denM C m).rows b g (C.sz c)=some (l.map (C.encD c)):=by
  rcases Vbf h with e | e<;>simp [Mem.rows,denM,e,denB]
 refine ⟨?_,?_⟩
 ·have:=hw b;rcases Vbf h with e | e<;>(rw [e] at this; exact this)
 ·rcases Ver (m:=denM C m) hm hb hr with ⟨h1,h2⟩ | h1
  ·exact .inl ⟨h1,by simpa using h2⟩
  ·exact .inr h1
theorem MRel.freeze {M:Mem} {b g s:Nat} {rows:List (List D)} (hm:MRel O I loc M w) (hb:b < M.nb) (hx:M.bx b = .arr g s rows) :
  MRel O (λk=>I k\/loc b g = .blk k) loc (M.set b (.frz g s rows)) w:=by
 have ho:(M.bx b).owned=true:=by rw [hx]; rfl
 have he:Ext I (λk=>I k\/loc b g = .blk k) w w:=imm_all' (λ_ h=>.inl h);have hbx:∀ b',(M.set b (.frz g s rows)).bx b'=if b'=b then .frz g s rows else M.bx b':=λb'=>rfl
 refine ⟨λb' hb'=>?_,hm.free,λb' g' k hb' ho' hk=>?_,λb1 b2 g1 g2 k h1 h2 o1 o2 k1 k2=>?_,λk hk=>?_,hm.up⟩
 ·rw [hbx];by_cases e:b'=b
  ·subst e;rw [if_pos rfl];have hr:=hm.box b' hb;rw [hx] at hr;simp only [RelB] at hr |-;refine ⟨hr.1,?_⟩;rcases hr.2 with h | ⟨k,c,el,fz,h1,h2,h3,h4,h5⟩
   ·exact .inl h
   ·exact .inr ⟨k,h1,.inr h1,Vb4 he s rows k 0 rfl h5⟩
  ·rw [if_neg e];exact Va3 he (.refl _) (λ_=>rfl) (λ_ _ _ _=>rfl) (hm.box b' hb')
 ·rw [hbx] at ho';by_cases e:b'=b
  ·rw [if_pos e] at ho'; cases ho'
  ·rw [if_neg e] at ho';have:=hm.own b' g' k hb' ho' hk;refine ⟨this.1,λh=>?_,this.2.2⟩;rcases h with h | h
   ·exact this.2.1 h
   ·exact e (hm.inj b' b g' g k hb' hb ho' ho hk h)
 ·rw [hbx] at o1 o2;by_cases e1:b1=b
  ·rw [if_pos e1] at o1; cases o1
  ·by_cases e2:b2=b
   ·rw [if_pos e2] at o2; cases o2
   ·rw [if_neg e1] at o1; rw [if_neg e2] at o2;exact hm.inj b1 b2 g1 g2 k h1 h2 o1 o2 k1 k2
 ·rcases hk with h | h
  ·exact hm.imm k h
  ·exact (hm.own b g k hb ho h).2.2
where imm_all' {J:Nat->Prop} {w:World} (hI:∀ k,I k->J k):Ext I J w w:=⟨hI,λ_ _=>rfl,λ_=>Nat.le_refl _⟩
theorem Vae {J:Nat->Prop} (hI:∀ k,I k->J k):Ext I J w w:=⟨hI,λ_ _=>rfl,λ_=>Nat.le_refl _⟩
theorem Vnt:∀ (ids:List Nat) {m:MT T} {I:Nat->Prop},MRel O I loc (denM C m) w->WfM L m->∃ I',MRel O I' loc (denM C (fzAll m ids)) w/\WfM L (fzAll m ids)/\(∀ k,I k->I' k)/\(∀ k,I' k->I k\/∃ b g c l,b < m.length/\m.get b = .arr g c l/\loc b g = .blk k) /\
  (fzAll m ids).length=m.length/\(∀ b,(fzAll m ids).get b=m.get b\/∃ g c l,m.get b = .arr g c l/\(fzAll m ids).get b = .frz g c l) /\
  ∀ b∈ids,∀ g c l,b < m.length->(m.get b = .arr g c l\/m.get b = .frz g c l)->∀ k,loc b g = .blk k->I' k
 | [],m,I,hm,hw=>⟨I,hm,hw,λ_ h=>h,λ_ h=>.inl h,rfl,λ_=>.inl rfl,λb hb=>by simp at hb⟩
 | b::r,m,I,hm,hw=>by
  show ∃ I',MRel O I' loc (denM C (fzAll (fz1 m b) r)) w/\_;have key:∃ I1,MRel O I1 loc (denM C (fz1 m b)) w/\WfM L (fz1 m b)/\(∀ k,I k->I1 k)/\(∀ k,I1 k->I k\/∃ b g c l,b < m.length/\m.get b = .arr g c l/\loc b g = .blk k)/\(fz1 m b).length=m.length /\
    (∀ b',(fz1 m b).get b'=m.get b'\/∃ g c l,m.get b' = .arr g c l/\(fz1 m b).get b' = .frz g c l)/\∀ g c l,b < m.length->(m.get b = .arr g c l\/m.get b = .frz g c l)->∀ k,loc b g = .blk k->I1 k:=by
   cases hb:m.get b with
   | arr g c l=>
    have hlt:b < m.length:=by
     rcases Nat.lt_or_ge b m.length with h | h
     ·exact h
     ·rw [Vjt h] at hb; cases hb
    have e:fz1 m b=m.put b (.frz g c l):=by simp only [fz1,hb]
    rw [e];have hf:=hm.freeze (b:=b) (g:=g) (s:=C.sz c) (rows:=l.map (C.encD c)) hlt (by simp [denM,hb,denB]);have e2:denM C (m.put b (.frz g c l))=(denM C m).set b (.frz g (C.sz c) (l.map (C.encD c))):=by rw [Vb9 hlt]; rfl
    rw [e2];have hwb:=hw b;rw [hb] at hwb;refine ⟨_,hf,Vdy hlt hw hwb,λ_ h=>.inl h,λk h=>?_,Vby,λb'=>?_,λg' c' l' _ h k hk=>?_⟩
    ·rcases h with h | h
     ·exact .inl h
     ·exact .inr ⟨b,g,c,l,hlt,hb,h⟩
    ·rw [Va9 hlt];by_cases q:b'=b
     ·subst q; rw [if_pos rfl]; exact .inr ⟨g,c,l,hb,rfl⟩
     ·rw [if_neg q]; exact .inl rfl
    ·rcases h with h | h
     ·cases h; exact .inr hk
     ·cases h
   | frz g c l=>
    have e:fz1 m b=m:=by simp only [fz1,hb]
    rw [e];refine ⟨I,hm,hw,λ_ h=>h,λ_ h=>.inl h,rfl,λ_=>.inl rfl,λg' c' l' hlt h k hk=>?_⟩;rcases h with h | h
    ·cases h
    ·cases h;have:=Vcq hm hlt;rw [hb] at this;simp only [denB,RelB] at this;rcases this.2 with ⟨h1,_⟩ | ⟨k',h1,h2,_⟩
     ·rw [hk] at h1; cases h1
     ·rw [hk] at h1; cases h1; exact h2
   | _=>
    have e:fz1 m b=m:=by simp only [fz1,hb]
    rw [e];exact ⟨I,hm,hw,λ_ h=>h,λ_ h=>.inl h,rfl,λ_=>.inl rfl,λg' c' l' hlt h k hk=>by rcases h with h | h<;>cases h⟩
  obtain ⟨I1,h1,h2,h3,h4,h5,h6,h7⟩:=key;obtain ⟨I2,g1,g2,g3,g4,g5,g6,g7⟩:=Vnt r h1 h2;refine ⟨I2,g1,g2,λk h=>g3 k (h3 k h),λk h=>?_,g5.trans h5,λb'=>?_,λb' hb' g c l hlt h k hk=>?_⟩
  ·rcases g4 k h with h | ⟨b2,g2',c2,l2,q1,q2,q3⟩
   ·exact h4 k h
   ·refine .inr ⟨b2,g2',c2,l2,by rw [<- h5]; exact q1,?_,q3⟩;rcases h6 b2 with p | ⟨g3',c3,l3,p1,p2⟩
    ·rw [<- p]; exact q2
    ·rw [p2] at q2; cases q2
  ·rcases h6 b' with q | ⟨g,c,l,q1,q2⟩
   ·rcases g6 b' with p | ⟨g,c,l,p1,p2⟩
    ·exact .inl (p.trans q)
    ·exact .inr ⟨g,c,l,q ▸ p1,p2⟩
   ·rcases g6 b' with p | ⟨g',c',l',p1,p2⟩
    ·exact .inr ⟨g,c,l,q1,p.trans q2⟩
    ·rw [q2] at p1; cases p1
  ·rcases List.mem_cons.1 hb' with e | e
   ·subst e; exact g3 k (h7 g c l hlt h k hk)
   ·refine g7 b' e g c l (by rw [h5]; exact hlt) ?_ k hk;rcases h6 b' with q | ⟨g',c',l',q1,q2⟩
    ·rw [q]; exact h
    ·rcases h with h | h
     ·rw [q1] at h; cases h; exact .inr q2
     ·rw [q1] at h; cases h
mutual
def DT.clean:DT T->Bool
 | .bp _ _=>false
 | .mp _=>false
 | .ap _ _ _ _ _=>false
 | .bs _ _ _ _ _=>false
 | .bw _ _ _ _=>false
 | .tup _=>false
 | .agg cs=>cleanL cs
 | .fn _ cs=>cleanL cs
 | _=>true
def cleanL:List (DT T)->Bool
 | []=>true
 | d::r=>d.clean&&cleanL r
end
mutual
theorem Vnu:∀ d:DT T,d.clean=true->WfD L d
 | .agg cs,h=>by simp only [DT.clean] at h; simp only [WfD]; exact Vat cs h
 | .fn _ cs,h=>by simp only [DT.clean] at h; simp only [WfD]; exact Vat cs h
 | .dead,_=>trivial
 | .bool _,_=>trivial
 | .int _ _,_=>trivial
 | .u8 _,_=>trivial
 | .u16 _,_=>trivial
 | .u32 _,_=>trivial
 | .u64 _,_=>trivial
 | .str _,_=>trivial
 | .lit _,_=>trivial
 | .nilp,_=>trivial
 | .nils,_=>trivial
 | .rs _ _,_=>trivial
 | .rn _ _,_=>trivial
 | .rp _,_=>trivial
 | .bp _ _,h=>by cases h
 | .mp _,h=>by cases h
 | .ap _ _ _ _ _,h=>by cases h
 | .bs _ _ _ _ _,h=>by cases h
 | .bw _ _ _ _,h=>by cases h
 | .tup _,h=>by cases h
theorem Vat:∀ l:List (DT T),cleanL l=true->WfL L l
 | [],_=>trivial
 | d::r,h=>by
  simp only [cleanL,Bool.and_eq_true] at h;exact ⟨Vnu d h.1,Vat r h.2⟩
end
theorem Vuj (hm:MRel O I loc (denM C m) w) {b g c:Nat} {l:List (T c)} (h:boxL m b g c=some l) (hb:b < m.length) {k:Nat} (hk:loc b g = .blk k):k < w.heap.size:=by
 rcases Vbf h with e | e
 ·exact (hm.own b g k hb (by simp [denM,e,denB,Box.owned]) hk).2.2
 ·have:=Vcq hm hb;rw [e] at this;simp only [denB,RelB] at this;rcases this.2 with ⟨h1,_⟩ | ⟨k',h1,h2,_⟩
  ·rw [hk] at h1; cases h1
  ·rw [hk] at h1; cases h1; exact hm.imm k h2
def Held (J:Nat->Prop) (loc:Nat->Nat->Loc) (m:MT T) (ids:List Nat):Prop:=∀ b∈ids,∀ g c l,b < m.length->(m.get b = .arr g c l\/m.get b = .frz g c l)->∀ k,loc b g = .blk k->J k
theorem Vw5 (hm:MRel O I loc (denM C m) w) (hw:WfM L m) {b g c n:Nat} {l:List (T c)} {v:Value} {J:Nat->Prop} (hI:∀ k,I k->J k) (h:boxL m b g c=some l)
  (hwf:WfD L (.bw b g c n:DT T)) (hv:V I w (den C (.bw b g c n:DT T)) loc v) (hJ:∀ k,loc b g = .blk k->J k):V J w (den C (.rs c l:DT T)) free v:=by
 simp only [den,V] at hv |-;have hb:b < m.length:=Va5 (C:=C) (g:=g) hm (by intro e; simp [e] at hv);obtain ⟨hl,hat⟩:=Vmh hm hw h hb;simp only [WfD] at hwf;have hn:n=l.length:=by rw [<- hwf,hl]
 rcases hat with ⟨h1,rfl⟩ | ⟨k,h1,h2⟩
 ·simp only [h1] at hv;obtain ⟨_,_,rfl⟩:=hv;exact .inl ⟨rfl,_,_,rfl⟩
 ·simp only [h1] at hv;obtain ⟨o,cap,rfl,hc,ho,_⟩:=hv;by_cases h0:cap=0
  ·have:l=[]:=by
    have:l.length=0:=by omega
    exact List.eq_nil_of_length_eq_zero this
   subst this;left; exact ⟨rfl,_,_,by rw [hn]; rfl⟩
  ·have ho:o=0:=by
    rcases ho with ho | ho
    ·exact absurd ho h0
    ·simpa using ho
   subst ho;right;refine ⟨k,0,cap,by simp [hn],by simpa [<- hn] using hc,hJ k h1,Vb4 (Vae hI) _ _ k 0 rfl h2⟩
theorem Vw6 (hm:MRel O I loc (denM C m) w) (hw:WfM L m) {b g c i n:Nat} {l:List (T c)} {v:Value} {J:Nat->Prop} (hI:∀ k,I k->J k) (h:boxL m b g c=some l) (hle:n+i<=l.length)
  (hv:V I w (den C (.bs b g c i n:DT T)) loc v) (hJ:∀ k,loc b g = .blk k->J k):V J w (den C (.rs c ((l.drop i).take n):DT T)) free v:=by
 simp only [den,V] at hv |-;have hb:b < m.length:=Va5 (C:=C) (g:=g) hm (by intro e; simp [e] at hv);obtain ⟨hl,hat⟩:=Vmh hm hw h hb;have hlen:((l.drop i).take n).length=n:=by simp; omega
 rcases hat with ⟨h1,rfl⟩ | ⟨k,h1,h2⟩
 ·simp only [h1] at hv;obtain ⟨_,_,rfl⟩:=hv;exact .inl ⟨by simp,_,_,rfl⟩
 ·simp only [h1] at hv;obtain ⟨o,cap,rfl,hc,ho,_⟩:=hv;by_cases h0:cap=0
  ·have hn0:n=0:=by omega
   subst hn0;left; exact ⟨by simp,_,_,rfl⟩
  ·have ho:o=i * C.sz c:=by
    rcases ho with ho | ho
    ·exact absurd ho h0
    ·exact ho
   subst ho;right;refine ⟨k,i * C.sz c,cap,by rw [List.length_map,hlen],by rw [List.length_map,hlen]; exact hc,hJ k h1,?_⟩;have:=Vdr n (Vg3 i h2);simp only [Nat.zero_add] at this;rw [List.map_take,List.map_drop];exact Vb4 (Vae hI) _ _ k _ rfl this
theorem Vhl {α β:Type} (f:α->(β->Option (List β))->Option (List β)) (f1:α->Option β) (hf:∀ x K,f x K=(f1 x).bind K):∀ (l:List α) (r:List β),mapK f l some=some r->l.mapM f1=some r:=by
 have gen:∀ (l:List α) (K:List β->Option (List β)),mapK f l K=(l.mapM f1).bind K:=by
  intro l;induction l with
  | nil=>intro K; simp [mapK]
  | cons x l ih=>
   intro K;simp only [mapK,hf,List.mapM_cons,Option.bind_eq_bind,Option.bind_assoc];congr 1; funext y;rw [ih];simp [Option.bind_assoc]
 intro l r h;rw [gen l some] at h;simpa using h
theorem Vju {f1:DT T->Option (DT T)} {J:Nat->Prop} {loc':Nat->Nat->Loc}:∀ (l r:List (DT T)) (vs:List Value),l.mapM f1=some r->VL I w (denL C l) loc vs ->
  (∀ d d' v,d∈l->f1 d=some d'->V I w (den C d) loc v->V J w (den C d') loc' v/\d'.clean=true)->VL J w (denL C r) loc' vs/\cleanL r=true
 | [],r,vs,h,hv,_=>by
  simp only [List.mapM_nil,Option.pure_def,Option.some.injEq] at h; subst h;exact ⟨by simpa only [denL,VL] using hv,rfl⟩
 | d::l,r,vs,h,hv,hf=>by
  simp only [List.mapM_cons,Option.bind_eq_bind,Option.bind_eq_some_iff,Option.pure_def,Option.some.injEq] at h;obtain ⟨d',h1,r',h2,rfl⟩:=h;simp only [denL,VL] at hv |-;obtain ⟨v,vr,rfl,hv1,hv2⟩:=hv;obtain ⟨g1,g2⟩:=hf d d' v (by simp) h1 hv1;obtain ⟨g3,g4⟩:=Vju l r' vr h2 hv2 (λd d' v hd=>hf d d' v (by simp [hd]));exact ⟨⟨v,vr,rfl,g1,g3⟩,by simp [cleanL,g2,g4]⟩
theorem Vmi (hC:CdOk C) (hm:MRel O I loc (denM C m) w) (hw:WfM L m) {J:Nat->Prop} (hI:∀ k,I k->J k) (sn:Bool):∀ (n:Nat) (d d':DT T) (v:Value),
  ((∀ k,k < w.heap.size->J k)\/(sn=false/\Held J loc m (refs n d)))->purK C m sn n d some=some d'->WfD L d->V I w (den C d) loc v->V J w (den C d') free v/\d'.clean=true
 | 0,d,d',v,hJ,h,hwf,hv=>by cases h
 | n+1,d,d',v,hJ,h,hwf,hv=>by
  have list:∀ (cs cs':List (DT T)) (vs:List Value),(∀ d∈cs,WfD L d)->(∀ d∈cs,(∀ k,k < w.heap.size->J k)\/(sn=false/\Held J loc m (refs n d)))->mapK (purK C m sn n) cs some=some cs'->VL I w (denL C cs) loc vs->VL J w (denL C cs') free vs/\cleanL cs'=true:=by
   intro cs cs' vs hwf hJ h hv;have h2:=Vhl (purK C m sn n) (λd=>purK C m sn n d some) (λx K=>Ve4 C m sn n x K) cs cs' h;exact Vju cs cs' vs h2 hv (λd d' v hd h1 hv1=>Vmi hC hm hw hI sn n d d' v (hJ d hd) h1 (hwf d hd) hv1)
  have fin:∀ {d0:DT T},d0.clean=true->some d0=some d'->V J w (den C d0) free v->V J w (den C d') free v/\d'.clean=true:=by
   intro d0 hc he hv0;simp only [Option.some.injEq] at he; subst he;exact ⟨hv0,hc⟩
  have up:∀ {d0:DT T},(den C d0).pure=true->V I w (den C d0) loc v->V J w (den C d0) free v:=λhp hv0=>
   Vaz (Vae hI) _ free free v (.refl _) (Vyv hp hv0)
  simp only [purK] at h;cases d<;>simp only [] at h
  case bw b g c k=>
   split at h
   case h_2=>cases h
   rename_i l hl;have hb:b < m.length:=by
    simp only [den,V] at hv;exact Va5 (C:=C) (g:=g) hm (by intro e; simp [e] at hv)
   refine fin rfl h (Vw5 hm hw hI hl hwf hv λk hk=>?_);rcases hJ with hJ | ⟨_,hJ⟩
   ·exact hJ k (Vuj hm hl hb hk)
   ·exact hJ b (by simp [refs]) g c l hb (Vbf hl) k hk
  case bs b g c i k=>
   split at h
   case h_2=>cases h
   rename_i l hl;have hb:b < m.length:=by
    simp only [den,V] at hv;exact Va5 (C:=C) (g:=g) hm (by intro e; simp [e] at hv)
   unfold winK at h;cases hd:decide (k+i<=l.length)<;>simp only [hd,cond_true,cond_false] at h
   ·cases h
   refine fin rfl h (Vw6 hm hw hI hl (of_decide_eq_true hd) hv λk hk=>?_);rcases hJ with hJ | ⟨_,hJ⟩
   ·exact hJ k (Vuj hm hl hb hk)
   ·exact hJ b (by simp [refs]) g c l hb (Vbf hl) k hk
  case bp b off=>
   split at h
   case h_2=>cases h
   have hJ':∀ k,k < w.heap.size->J k:=by
    rcases hJ with hJ | ⟨hf,_⟩
    ·exact hJ
    ·cases hf
   split at h
   case h_2=>cases h
   rename_i cs hb;rw [Vbr,Option.bind_eq_some_iff] at h;obtain ⟨cs',h1,h2⟩:=h;simp only [den,V] at hv;have hlt:b < m.length:=Va5 (C:=C) (g:=0) hm (by intro e; simp [e] at hv);have hbx:=Vcq hm hlt;rw [hb] at hbx; simp only [denB,RelB] at hbx;obtain ⟨_,k,c,el,fz,hl,hwk,_,hone,hvl⟩:=hbx;simp only [hl] at hv; subst hv;have hwb:=hw b;rw [hb] at hwb;have hvd:=Vct off hvl;rw [<- Va1] at hvd;obtain ⟨g1,g2⟩:=list (cs.drop off) cs' _ (λd hd=>WfL_iff.1 hwb d (List.mem_of_mem_drop hd)) (λ_ _=>.inl hJ') h1 hvd;have hk:k < w.heap.size:=by
    rcases Nat.lt_or_ge k w.heap.size with h | h
    ·exact h
    ·rw [Array.getElem?_eq_none h] at hwk; cases hwk
   refine fin rfl h2 ?_;simp only [den,V];refine ⟨k,off,rfl,hJ' k hk,Vc6 g1 (λx hx=>hone x (List.mem_of_mem_drop hx)) λj x hj=>?_⟩;rw [List.getElem?_drop] at hj;simp [World.cell?,hwk];simpa using hj
  case ap b g c i off=>
   split at h
   case h_2=>cases h
   have hJ':∀ k,k < w.heap.size->J k:=by
    rcases hJ with hJ | ⟨hf,_⟩
    ·exact hJ
    ·cases hf
   split at h
   case h_2=>cases h
   rename_i l hl;rw [Option.bind_eq_some_iff] at h;obtain ⟨x,h1,h2⟩:=h;simp only [den,V] at hv;have hlt:b < m.length:=Va5 (C:=C) (g:=g) hm (by intro e; simp [e] at hv);obtain ⟨_,hat⟩:=Vmh hm hw hl hlt;rcases hat with ⟨_,rfl⟩ | ⟨k,hk,hvr⟩
   ·simp at h1
   simp only [hk] at hv; subst hv;have hrow:=Vde hvr (i:=i) (row:=C.encD c x) (by simp [h1]);refine fin rfl h2 ?_;simp only [den,V,Va1,hC.enc];refine ⟨k,_,rfl,hJ' k (Vuj hm hl hlt hk),?_⟩;have:=Vfm off hrow.2;simp only [Nat.zero_add] at this;exact Vfk (Vae hI) _ k _ rfl this
  case agg cs=>
   rw [Vbr,Option.bind_eq_some_iff] at h;obtain ⟨cs',h1,h2⟩:=h;simp only [den,V] at hv;obtain ⟨vs,rfl,hone,hvl⟩:=hv;simp only [WfD] at hwf;obtain ⟨g1,g2⟩:=list cs cs' vs (WfL_iff.1 hwf) (λd hd=>by
    rcases hJ with hJ | ⟨hf,hJ⟩
    ·exact .inl hJ
    ·exact .inr ⟨hf,λb hb=>hJ b (by simp only [refs,List.mem_flatMap]; exact ⟨d,hd,hb⟩)⟩) h1 hvl
   exact fin (d0:=.agg cs') (by simp [DT.clean,g2]) h2 (by simp only [den,V]; exact ⟨vs,rfl,hone,g1⟩)
  case fn f cs=>
   rw [Vbr,Option.bind_eq_some_iff] at h;obtain ⟨cs',h1,h2⟩:=h;simp only [den,V] at hv;obtain ⟨vs,rfl,hvl⟩:=hv;simp only [WfD] at hwf;obtain ⟨g1,g2⟩:=list cs cs' vs (WfL_iff.1 hwf) (λd hd=>by
    rcases hJ with hJ | ⟨hf,hJ⟩
    ·exact .inl hJ
    ·exact .inr ⟨hf,λb hb=>hJ b (by simp only [refs,List.mem_flatMap]; exact ⟨d,hd,hb⟩)⟩) h1 hvl
   exact fin (d0:=.fn f cs') (by simp [DT.clean,g2]) h2 (by simp only [den,V]; exact ⟨vs,rfl,g1⟩)
  case tup cs=>cases h
  case mp b=>cases h
  case rn c l=>exact fin rfl h (up (by cases l<;>rfl) hv)
  all_goals exact fin rfl h (up rfl hv)
end
section
variable {T:Nat->Type} {C:Cd T} {O I:Nat->Prop} {w:World} {loc:Nat->Nat->Loc} {L:Nat->Nat->Nat} {m:MT T} {P:Program} {Y:Nat->Option TI} {R:Type}
mutual
theorem Vo3:∀ d:DT T,d.pure=true->d.clean=true
 | .agg cs,h=>by simp only [DT.pure] at h; simp only [DT.clean]; exact Vcr cs h
 | .dead,_=>rfl
 | .bool _,_=>rfl
 | .int _ _,_=>rfl
 | .u8 _,_=>rfl
 | .u16 _,_=>rfl
 | .u32 _,_=>rfl
 | .u64 _,_=>rfl
 | .str _,_=>rfl
 | .lit _,_=>rfl
 | .nilp,_=>rfl
 | .nils,_=>rfl
 | .rs _ _,_=>rfl
 | .rn _ _,_=>rfl
 | .rp _,_=>rfl
 | .bp _ _,h=>by cases h
 | .mp _,h=>by cases h
 | .ap _ _ _ _ _,h=>by cases h
 | .bs _ _ _ _ _,h=>by cases h
 | .bw _ _ _ _,h=>by cases h
 | .tup _,h=>by cases h
 | .fn _ _,h=>by cases h
theorem Vcr:∀ l:List (DT T),pureTL l=true->cleanL l=true
 | [],_=>rfl
 | d::r,h=>by
  simp only [pureTL,Bool.and_eq_true] at h;simp only [cleanL,Bool.and_eq_true];exact ⟨Vo3 d h.1,Vcr r h.2⟩
end
theorem Ve5:∀ {a b:List (DT T)},cleanL a=true->cleanL b=true->cleanL (a++b)=true
 | [],_,_,hb=>hb
 | d::r,b,ha,hb=>by
  simp only [cleanL,Bool.and_eq_true,List.cons_append] at ha |-;exact ⟨ha.1,Ve5 ha.2 hb⟩
theorem Vao (hC:CdOk C):∀ (t:VT) (x:t.ty T),cleanL (encC C t x)=true
 | .agg c,x=>Vcr _ (hC.epure c x)
 | .fn f cs,x=>by simp only [encC,cleanL,DT.clean,Vao hC cs x,Bool.and_self]
 | .cons a b,x=>Ve5 (Vao hC a x.1) (Vao hC b x.2)
 | .bool,_=>rfl
 | .int _,_=>rfl
 | .u8,_=>rfl
 | .u16,_=>rfl
 | .u32,_=>rfl
 | .u64,_=>rfl
 | .str,_=>rfl
 | .rs _,_=>rfl
 | .ref _,_=>rfl
 | .nil,_=>rfl
 | .kn,_=>rfl
theorem Vcl (a b:List (DT T)):denL C (a++b)=denL C a++denL C b:=by simp [Vaq]
theorem Vbz {cs:List (DT T)} {d:DT T} (h:one1 cs=d) (hd:d≠.dead):cs=[d]:=by
 unfold one1 at h;split at h
 ·rw [h]
 ·exact absurd h.symm hd
theorem Vhm {d:DT T} {x:Bool} (h:asBool d=some x):d = .bool x:=by
 unfold asBool at h; split at h<;>simp_all
theorem Vin {k:IntKind} {d:DT T} {x:Int} (h:asInt k d=some x):d = .int k x:=by
 unfold asInt at h;split at h
 ·split at h
  ·rename_i hk; have hk:=of_decide_eq_true hk; simp_all
  ·cases h
 ·cases h
theorem Vli {d:DT T} {x:UInt8} (h:asU8 d=some x):d = .u8 x:=by
 unfold asU8 at h; split at h<;>simp_all
theorem Vio {d:DT T} {x:BitVec 16} (h:asU16 d=some x):d = .u16 x:=by
 unfold asU16 at h; split at h<;>simp_all
theorem Vip {d:DT T} {x:BitVec 32} (h:asU32 d=some x):d = .u32 x:=by
 unfold asU32 at h; split at h<;>simp_all
theorem Viq {d:DT T} {x:BitVec 64} (h:asU64 d=some x):d = .u64 x:=by
 unfold asU64 at h; split at h<;>simp_all
theorem Vir {d:DT T} {x:List UInt8} (h:asStr d=some x):d = .str x:=by
 unfold asStr at h; split at h<;>simp_all
theorem Vlj {c:Nat} {d:DT T} {l:List (T c)} (h:asRs c d=some l):(d = .nils/\l=[])\/d = .rs c l\/d = .rn c l:=by
 unfold asRs at h;split at h
 ·simp only [Option.some.injEq] at h; exact .inl ⟨rfl,h.symm⟩
 ·split at h
  ·rename_i hc _;subst hc;simp only [Option.some.injEq] at h; subst h; exact .inr (.inl rfl)
  ·cases h
 ·split at h
  ·rename_i hc _;subst hc;simp only [Option.some.injEq] at h; subst h; exact .inr (.inr rfl)
  ·cases h
 ·cases h
theorem Vuk {c:Nat} {d:DT T} {l:List (T c)} (h:asRn c d=some l):(d = .nils/\l=[])\/d = .rn c l:=by
 unfold asRn at h;split at h
 ·simp only [Option.some.injEq] at h; exact .inl ⟨rfl,h.symm⟩
 ·split at h
  ·rename_i hc _;subst hc;simp only [Option.some.injEq] at h; subst h; exact .inr rfl
  ·cases h
 ·cases h
theorem Vul {d:DT T} {x:List (DT T)} (h:asRp d=some x):d = .rp x:=by
 unfold asRp at h; split at h<;>simp_all
theorem Vmj {d:DT T} {x:Unit} (h:asNils d=some x):d = .nils:=by
 unfold asNils at h; split at h<;>simp_all
theorem Vum {f:Nat} {d:DT T} {x:List (DT T)} (h:asFn f d=some x):d = .fn f x:=by
 unfold asFn at h;split at h
 ·split at h
  ·rename_i hk; have hk:=Nat.eq_of_beq_eq_true hk; simp_all
  ·cases h
 ·cases h
theorem Vjv {I:Nat->Prop} {w:World} {v:Value} {s:Nat} (h:V I w .nils free v):V I w (.rs s []) free v:=by
 simp only [V] at h |-;exact .inl ⟨trivial,none,0,h⟩
theorem Vmk {I:Nat->Prop} {w:World} {v:Value} {s:Nat} {rows:List (List D)} (h:V I w (rnD s rows) free v):V I w (.rs s rows) free v:=by
 cases rows with
 | nil=>exact Vjv h
 | cons _ _=>exact h
theorem Vun (hC:CdOk C):∀ (t:VT) (cs:List (DT T)) (x:t.ty T),decC C t cs=some x->∀ (I:Nat->Prop) (w:World) (vs:List Value),VL I w (denL C cs) free vs->VL I w (denL C (encC C t x)) free vs:=by
 intro t;induction t with
 | bool=>intro cs x h I w vs hv; rw [Vbz (Vhm h) (by simp)] at hv; exact hv
 | int k=>intro cs x h I w vs hv; rw [Vbz (Vin h) (by simp)] at hv; exact hv
 | u8=>intro cs x h I w vs hv; rw [Vbz (Vli h) (by simp)] at hv; exact hv
 | u16=>intro cs x h I w vs hv; rw [Vbz (Vio h) (by simp)] at hv; exact hv
 | u32=>intro cs x h I w vs hv; rw [Vbz (Vip h) (by simp)] at hv; exact hv
 | u64=>intro cs x h I w vs hv; rw [Vbz (Viq h) (by simp)] at hv; exact hv
 | str=>intro cs x h I w vs hv; rw [Vbz (Vir h) (by simp)] at hv; exact hv
 | kn=>intro cs x h I w vs hv; rw [Vbz (Vmj h) (by simp)] at hv; exact hv
 | rs c=>
  intro cs x h I w vs hv;rcases Vlj h with ⟨h1,h2⟩ | h1
  ·subst h2;rw [Vbz h1 (by simp)] at hv;simp only [denL,den,VL,encC] at hv |-;obtain ⟨v,vr,rfl,h3,h4⟩:=hv;exact ⟨v,vr,rfl,Vjv h3,h4⟩
  ·rcases h1 with h1 | h1
   ·rw [Vbz h1 (by simp)] at hv; exact hv
   ·rw [Vbz h1 (by simp)] at hv;simp only [denL,den,VL,encC] at hv |-;obtain ⟨v,vr,rfl,h3,h4⟩:=hv;exact ⟨v,vr,rfl,Vmk h3,h4⟩
 | agg c=>intro cs x h I w vs hv; exact (congrArg (λq=>VL I w q free vs) (hC.enc c x)).mpr ((hC.dec c cs x h).2 I w vs hv)
 | ref t ih=>
  intro cs x h I w vs hv;simp only [decC] at h;split at h
  case h_2=>cases h
  rename_i ds hd;rw [Vbz (Vul hd) (by simp)] at hv;simp only [denL,den,VL,encC] at hv |-;obtain ⟨v,vr,rfl,h3,h4⟩:=hv;refine ⟨v,vr,rfl,?_,h4⟩;simp only [V] at h3 |-;obtain ⟨b,o,rfl,hI,hvc⟩:=h3;obtain ⟨us,u1,u2,u3⟩:=Vcu (Vts (t.sz C) hvc);rw [<- Vcz] at u1;exact ⟨b,o,rfl,hI,Vc6 (ih _ x h I w us u1) u2 u3⟩
 | fn f c ih=>
  intro cs x h I w vs hv;simp only [decC] at h;split at h
  case h_2=>cases h
  rename_i ds hd;rw [Vbz (Vum hd) (by simp)] at hv;simp only [denL,den,VL,encC] at hv |-;obtain ⟨v,vr,rfl,h3,h4⟩:=hv;refine ⟨v,vr,rfl,?_,h4⟩;simp only [V] at h3 |-;obtain ⟨us,rfl,hu⟩:=h3;exact ⟨us,rfl,ih _ x h I w us hu⟩
 | nil=>
  intro cs x h I w vs hv;simp only [decC] at h;split at h
  ·exact hv
  ·cases h
 | cons a b iha ihb=>
  intro cs x h I w vs hv;simp only [decC] at h;split at h
  case h_2=>cases h
  rename_i y hy;split at h
  case h_2=>cases h
  rename_i z hz;cases h;show VL I w (denL C (encC C a y++encC C b z)) free vs;rw [Vcl];have h1:=iha _ y hy I w (vs.take (a.sz C)) (by rw [Vcz]; exact Vdq _ hv);have h2:=ihb _ z hz I w (vs.drop (a.sz C)) (by rw [Va1]; exact Vct _ hv);have:=Var h1 h2;rwa [List.take_append_drop] at this
def encLD1 (C:Cd T):(l:Lf)->l.ty T->D
 | .bool,x=>.bool x
 | .int k,x=>.int k x
 | .u8,x=>.int .u8 x.toNat
 | .u16,x=>.int .u16 x.toNat
 | .u32,x=>.int .u32 x.toNat
 | .u64,x=>.int .u64 x.toNat
 | .str,x=>.str x
 | .rs c,x=>.rs (C.sz c) (x.map (C.encD c))
 | .rn c,x=>rnD (C.sz c) (x.map (C.encD c))
def encLD (C:Cd T):(ls:List Lf)->tyLs T ls->List D
 | [],_=>[]
 | l::r,x=>encLD1 C l x.1::encLD C r x.2
theorem Vw7 (C:Cd T) {l:Lf} {d:DT T} {x:l.ty T} (h:decL1 l d=some x):(d.pure&&d.one)=true/\∀ (I:Nat->Prop) (w:World) (v:Value),V I w (den C d) free v->V I w (encLD1 C l x) free v:=by
 cases l with
 | bool=>rw [Vhm h]; exact ⟨rfl,λ_ _ _ hv=>hv⟩
 | int k=>rw [Vin h]; exact ⟨rfl,λ_ _ _ hv=>hv⟩
 | u8=>rw [Vli h]; exact ⟨rfl,λ_ _ _ hv=>hv⟩
 | u16=>rw [Vio h]; exact ⟨rfl,λ_ _ _ hv=>hv⟩
 | u32=>rw [Vip h]; exact ⟨rfl,λ_ _ _ hv=>hv⟩
 | u64=>rw [Viq h]; exact ⟨rfl,λ_ _ _ hv=>hv⟩
 | str=>rw [Vir h]; exact ⟨rfl,λ_ _ _ hv=>hv⟩
 | rs c=>
  rcases Vlj h with ⟨h1,h2⟩ | h1
  ·subst h2; rw [h1]; exact ⟨rfl,λ_ _ _ hv=>Vjv hv⟩
  ·rcases h1 with h1 | h1
   ·rw [h1]; exact ⟨rfl,λ_ _ _ hv=>hv⟩
   ·rw [h1]; exact ⟨rfl,λ_ _ _ hv=>Vmk hv⟩
 | rn c=>
  rcases Vuk h with ⟨h1,h2⟩ | h1
  ·subst h2; rw [h1]; exact ⟨rfl,λ_ _ _ hv=>hv⟩
  ·rw [h1]; exact ⟨rfl,λ_ _ _ hv=>hv⟩
theorem Vuo (C:Cd T):∀ (ls:List Lf) (ds:List (DT T)) (x:tyLs T ls),decL ls ds=some x->solidL ds=true/\∀ (I:Nat->Prop) (w:World) (vs:List Value),VL I w (denL C ds) free vs->VL I w (encLD C ls x) free vs
 | [],[],x,_=>⟨rfl,λ_ _ _ hv=>hv⟩
 | [],_::_,x,h=>by cases h
 | _::_,[],x,h=>by cases h
 | l::r,d::ds,x,h=>by
  simp only [decL] at h;split at h
  case h_2=>cases h
  rename_i y hy;split at h
  case h_2=>cases h
  rename_i z hz;cases h;obtain ⟨h1,h2⟩:=Vw7 C hy;obtain ⟨h3,h4⟩:=Vuo C r ds z hz;refine ⟨by simp only [solidL,h1,h3,Bool.and_self],λI w vs hv=>?_⟩;simp only [denL,VL] at hv;obtain ⟨v,vr,rfl,hv1,hv2⟩:=hv;simp only [encLD,VL];exact ⟨v,vr,rfl,h2 I w v hv1,h4 I w vr hv2⟩
theorem Vaj (C:Cd T) {c:Nat} (ls:List Lf) {of:tyLs T ls->T c} {e:T c->List D} (he:∀ y,e (of y)=encLD C ls y) (ds:List (DT T)) (x:T c) (h:(decL ls ds).map of=some x) :
  solidL ds=true/\∀ (I:Nat->Prop) (w:World) (vs:List Value),VL I w (denL C ds) free vs->VL I w (e x) free vs:=by
 rw [Option.map_eq_some_iff] at h;obtain ⟨y,hy,rfl⟩:=h;rw [he];exact Vuo C ls ds y hy
theorem Vis (hC:CdOk C) (hm:MRel O I loc (denM C m) w) (hw:WfM L m) {cs:List (DT T)} {vs:List Value} {K:List (DT T) -> MT T -> Option R} {r:R} (hwf:WfL L cs) (hv:VL I w (denL C cs) loc vs) (h:frK C m cs K=some r) :
    ∃ cs' m' I',MRel O I' loc (denM C m') w /\ WfM L m' /\ (∀ k,I k -> I' k) /\ (∀ k,I' k -> I k \/ ∃ b g c l,b < m.length /\ m.get b = .arr g c l /\ loc b g = .blk k) /\ VL I' w (denL C cs') free vs /\ cleanL cs'=true /\ m'.length=m.length /\
      (∀ b,m'.get b=m.get b \/ ∃ g c l,m.get b = .arr g c l /\ m'.get b = .frz g c l) /\ K cs' m'=some r:=by
  unfold frK at h;rw [Vbr,Option.bind_eq_some_iff] at h;obtain ⟨cs',h1,h2⟩:=h;obtain ⟨I',g1,g2,g3,g4,g5,g6,g7⟩:=Vnt (cs.flatMap (refs 4)) hm hw;have h3:=Vhl (purK C m false 4) (λd=>purK C m false 4 d some) (λx K=>Ve4 C m false 4 x K) cs cs' h1;have:=Vju cs cs' vs h3 hv (λd d' v hd hp hv1=>Vmi hC hm hw g3 false 4 d d' v (.inr ⟨rfl,λb hb=>g7 b (by simp only [List.mem_flatMap]; exact ⟨d,hd,hb⟩)⟩) hp (WfL_iff.1 hwf d hd) hv1);exact ⟨cs',_,I',g1,g2,g3,g4,this.1,this.2,g5,g6,h2⟩
theorem Vlk (hm:MRel O I loc (denM C m) w) {I':Nat->Prop} (h:∀ k,I' k->I k\/∃ b g c l,b < m.length/\m.get b=BoxT.arr g c l/\loc b g = .blk k):∀ k,I' k->I k\/O k:=λk hk=>by
 rcases h k hk with h | ⟨b,g,c,l,h1,h2,h3⟩
 ·exact .inl h
 ·exact .inr (hm.own b g k h1 (by simp [denM,h2,denB,Box.owned]) h3).1
end
section
variable {P:Program} {I:Nat->Prop} {w:World} {loc:Nat->Nat->Loc}
def hit {α:Type} (f:α->Bool):List α->Nat->Option Nat
 | [],_=>none
 | x::r,i=>match f x with
  | true=>some i
  | false=>hit f r (i+1)
def Ents (es:List MapEntry) (ks:List Value):Prop:=es.map (λe=>(e.key,e.val))=ks.map λx=>(x,.bool true)
theorem Ents.len {es:List MapEntry} {ks:List Value} (h:Ents es ks):es.length=ks.length:=by
 have:=congrArg List.length h;simpa using this
end
section
variable {T:Nat->Type} {C:Cd T} {I:Nat->Prop} {w:World} {loc:Nat->Nat->Loc} {P:Program} {Y:Nat->Option TI}
end
section
variable {T:Nat->Type} {C:Cd T} {O I:Nat->Prop} {w:World} {loc:Nat->Nat->Loc} {L:Nat->Nat->Nat} {m:MT T} {P:Program} {Y:Nat->Option TI} {R:Type} {G:Nat->Option (List D)}
def LExt (loc:Nat->Nat->Loc) (L L':Nat->Nat->Nat):Prop:=∀ b g,loc b g≠.free->L' b g=L b g
theorem LExt.refl (loc:Nat->Nat->Loc) (L:Nat->Nat->Nat):LExt loc L L:=λ_ _ _=>rfl
mutual
theorem Vjw {L':Nat->Nat->Nat} (hl:LExt loc L L'):∀ (d:DT T) (v:Value),V I w (den C d) loc v->WfD L d->WfD L' d
 | .bw b g c n,v,hv,h=>by
  simp only [WfD] at h |-;rw [<- h];exact hl b g (by simp only [den,V] at hv; intro e; simp [e] at hv)
 | .agg cs,v,hv,h=>by
  simp only [WfD] at h |-;simp only [den,V] at hv;obtain ⟨vs,_,_,hvs⟩:=hv;exact Ves hl cs vs hvs h
 | .tup cs,v,hv,h=>by
  simp only [WfD] at h |-;simp only [den,V] at hv;obtain ⟨vs,_,hvs⟩:=hv;exact Ves hl cs vs hvs h
 | .fn f cs,v,hv,h=>by
  simp only [WfD] at h |-;simp only [den,V] at hv;obtain ⟨vs,_,hvs⟩:=hv;exact Ves hl cs vs hvs h
 | .dead,_,_,_=>trivial
 | .bool _,_,_,_=>trivial
 | .int _ _,_,_,_=>trivial
 | .u8 _,_,_,_=>trivial
 | .u16 _,_,_,_=>trivial
 | .u32 _,_,_,_=>trivial
 | .u64 _,_,_,_=>trivial
 | .str _,_,_,_=>trivial
 | .lit _,_,_,_=>trivial
 | .nilp,_,_,_=>trivial
 | .nils,_,_,_=>trivial
 | .rs _ _,_,_,_=>trivial
 | .rn _ _,_,_,_=>trivial
 | .rp _,_,_,_=>trivial
 | .bp _ _,_,_,_=>trivial
 | .mp _,_,_,_=>trivial
 | .ap _ _ _ _ _,_,_,_=>trivial
 | .bs _ _ _ _ _,_,_,_=>trivial
theorem Ves {L':Nat->Nat->Nat} (hl:LExt loc L L'):∀ (ds:List (DT T)) (vs:List Value),VL I w (denL C ds) loc vs->WfL L ds->WfL L' ds
 | [],_,_,_=>trivial
 | d::r,vs,hv,h=>by
  simp only [denL,VL] at hv;obtain ⟨v,vr,_,h1,h2⟩:=hv;exact ⟨Vjw hl d v h1 h.1,Ves hl r vr h2 h.2⟩
end
mutual
theorem Vnv:∀ (d:DT T) (v:Value),V I w (den C d) free v->WfD L d
 | .bw b g c n,v,hv=>by simp [den,V,free] at hv
 | .agg cs,v,hv=>by
  simp only [den,V] at hv;obtain ⟨vs,_,_,hvs⟩:=hv;exact Ve6 cs vs hvs
 | .tup cs,v,hv=>by
  simp only [den,V] at hv;obtain ⟨vs,_,hvs⟩:=hv;exact Ve6 cs vs hvs
 | .fn f cs,v,hv=>by
  simp only [den,V] at hv;obtain ⟨vs,_,hvs⟩:=hv;exact Ve6 cs vs hvs
 | .dead,_,_=>trivial
 | .bool _,_,_=>trivial
 | .int _ _,_,_=>trivial
 | .u8 _,_,_=>trivial
 | .u16 _,_,_=>trivial
 | .u32 _,_,_=>trivial
 | .u64 _,_,_=>trivial
 | .str _,_,_=>trivial
 | .lit _,_,_=>trivial
 | .nilp,_,_=>trivial
 | .nils,_,_=>trivial
 | .rs _ _,_,_=>trivial
 | .rn _ _,_,_=>trivial
 | .rp _,_,_=>trivial
 | .bp _ _,_,_=>trivial
 | .mp _,_,_=>trivial
 | .ap _ _ _ _ _,_,_=>trivial
 | .bs _ _ _ _ _,_,_=>trivial
theorem Ve6:∀ (ds:List (DT T)) (vs:List Value),VL I w (denL C ds) free vs->WfL L ds
 | [],_,_=>trivial
 | d::r,vs,hv=>by
  simp only [denL,VL] at hv;obtain ⟨v,vr,_,h1,h2⟩:=hv;exact ⟨Vnv d v h1,Ve6 r vr h2⟩
end
theorem Vml {L':Nat->Nat->Nat} (hm:MRel O I loc (denM C m) w) (hl:LExt loc L L') (h:WfM L m):∀ b,b < m.length->WfB L' b (m.get b):=λb hb=>by
 have hx:=Vcq hm hb;have hw:=h b;cases hg:m.get b with
 | var cs=>
  rw [hg] at hx hw;simp only [denB,RelB] at hx;obtain ⟨_,k,c,el,fz,_,_,_,_,hv⟩:=hx;exact Ves hl cs _ hv hw
 | arr g c l=>
  rw [hg] at hx hw;simp only [WfB] at hw |-;rw [<- hw];refine hl b g ?_;simp only [denB,RelB] at hx;rcases hx.2 with ⟨h1,_⟩ | ⟨k,_,_,_,h1,_⟩<;>rw [h1]<;>simp
 | frz g c l=>
  rw [hg] at hx hw;simp only [WfB] at hw |-;rw [<- hw];refine hl b g ?_;simp only [denB,RelB] at hx;rcases hx.2 with ⟨h1,_⟩ | ⟨k,h1,_⟩<;>rw [h1]<;>simp
 | _=>trivial
def ResT (C:Cd T) (O I:Nat->Prop) (loc:Nat->Nat->Loc) (L:Nat->Nat->Nat) (w:World) (r:Result Next) (d:DT T) (m':MT T):Prop:=
 ∃ v w' I' loc' L',(r = .ok (.value v) w'\/(r = .ok .skip w'/\v=undef))/\MRel O I' loc' (denM C m') w'/\WfM L' m'/\V I' w' (den C d) loc' v/\WfD L' d/\Ext I I' w w'/\(∀ k,I' k->I k\/O k)/\LocExt loc loc'/\LExt loc L L'/\Fr O w w'
theorem ResT.of_res {r:Result Next} {d:DT T} {m':MT T} (L':Nat->Nat->Nat) (hl:LExt loc L L') (hd:WfD L' d) (hm':WfM L' m') (h:Res O I loc w r (den C d) (denM C m')):ResT C O I loc L w r d m':=by
 obtain ⟨v,w',loc',h1,h2,h3,h4,h5,h6⟩:=h;exact ⟨v,w',I,loc',L',h1,h2,hm',h3,hd,h4,λ_ h=>.inl h,h5,hl,h6⟩
theorem ResT.pre {I1:Nat->Prop} {r:Result Next} {d:DT T} {m':MT T} (h1:∀ k,I k->I1 k) (h2:∀ k,I1 k->I k\/O k) (h:ResT C O I1 loc L w r d m'):ResT C O I loc L w r d m':=by
 obtain ⟨v,w',I',loc',L',g1,g2,g3,g4,g5,g6,g7,g8,g9,g10⟩:=h;refine ⟨v,w',I',loc',L',g1,g2,g3,g4,g5,(Vae h1).trans g6,λk hk=>?_,g8,g9,g10⟩;rcases g7 k hk with h | h
 ·exact h2 k h
 ·exact .inr h
def updL (L:Nat->Nat->Nat) (b g n:Nat):Nat->Nat->Nat:=λb' g'=>if b'=b/\g'=g then n else L b' g'
theorem LExt.upd {b g n:Nat} (h:loc b g = .free):LExt loc L (updL L b g n):=λb' g' hne=>by
 unfold updL;split
 ·rename_i e; rw [e.1,e.2] at hne; exact absurd h hne
 ·rfl
theorem Ve7 (hm:MRel O I loc (denM C m) w) (hw:WfM L m) {x:BoxT T} {n:Nat} (hx:WfB (updL L m.length 0 n) m.length x):WfM (updL L m.length 0 n) (m++[x]):=λb=>by
 rw [Vfv];split
 ·rename_i e; subst e; exact hx
 ·rcases Nat.lt_or_ge b m.length with h | h
  ·exact Vml hm (LExt.upd (hm.free _ _ (Nat.le_refl _))) hw b h
  ·rw [Vjt h]; trivial
theorem glob0:SpecsOk P ⟨G,λ_=>none⟩:=λf k F h=>by cases h
theorem Vhn {t:Nat} {a b:List D} {d:D} (h:loadD P t a=some d):loadD P t (a++b)=some d:=by
 unfold loadD at h |-;split at h
 ·split at h
  case h_2=>cases h
  rename_i m hm;split at h
  case isFalse=>cases h
  rename_i hle;try simp only [hm]
  rw [if_pos (by rw [List.length_append]; omega),List.take_append_of_le_length hle];exact h
 ·cases a with
  | nil=>cases h
  | cons x r=>exact h
 ·cases h
theorem Vup (hC:CdOk C) (hY:TysOk P Y) (hm:MRel O I loc (denM C m) w) (hw:WfM L m) {t:Nat} {x:DT T} {u:Value} {K:DT T->Option R} {r:R} (hwx:WfD L x) (hx:V I w (den C x) loc u) (e:Operand->DT T) (o:Operand) (he:e o=x)
  (h:rK Y C (.load t o) e m K=some r):∃ d:DT T,loadR P (denM C m) t (den C x)=some (den C d)/\WfD L d/\K d=some r:=by
 simp only [rK,he] at h;have ld:∀ (cs:List (DT T)),WfL L cs->ldK Y t cs K=some r->∃ d:DT T,loadD P t (denL C cs)=some (den C d)/\WfD L d/\K d=some r:=by
  intro cs hwc h;unfold ldK at h;split at h
  ·rename_i d hd;have:=Vjh (C:=C) (P:=P) hY hwc hd;exact ⟨d,this.1,this.2,h⟩
  ·cases h
 split at h
 ·rename_i b off;split at h
  case h_2=>cases h
  rename_i cs hb;have hwb:=hw b;rw [hb] at hwb;obtain ⟨d,h1,h2,h3⟩:=ld _ (Veb off hwb) h;refine ⟨d,?_,h2,h3⟩;simp only [den,loadR,denM,hb,denB,<- Va1,h1]
 ·rename_i b g c i off;split at h
  case h_2=>cases h
  rename_i l hl;have hr:(denM C m).rows b g (C.sz c)=some (l.map (C.encD c)):=by
   rcases Vbf hl with e | e<;>simp [Mem.rows,denM,e,denB]
  split at h
  ·rename_i n hn;split at h
   case h_2=>cases h
   obtain ⟨cs,h1,h2,h3,h4,_⟩:=Vfs hC h;obtain ⟨d,q1,q2,q3⟩:=ld cs (Vje L cs h4) h1;refine ⟨d,?_,q2,q3⟩;rw [h2] at q1;simp only [den,loadR,hr,List.drop_zero];have e:((l.map (C.encD c)).drop i).flatten=(((l.drop i).take n).map (C.encD c)).flatten++(((l.drop i).drop n).map (C.encD c)).flatten:=by
    rw [<- List.flatten_append,<- List.map_append,List.take_append_drop,List.map_drop]
   rw [e];exact Vhn q1
  ·rw [Option.bind_eq_some_iff] at h;obtain ⟨y,hy,h⟩:=h;obtain ⟨d,h1,h2,h3⟩:=ld _ (Veb off (Vat _ (Vcr _ (hC.epure c y)))) h;refine ⟨d,?_,h2,h3⟩;rw [Va1,hC.enc] at h1;simp only [den,loadR,hr];have hi:i < l.length:=(List.getElem?_eq_some_iff.1 hy).1;have hd:(l.map (C.encD c)).drop i=C.encD c y::(l.map (C.encD c)).drop (i+1):=by
    rw [List.drop_eq_getElem_cons (by simpa using hi)];congr 1;rw [List.getElem?_eq_getElem hi] at hy;simp [Option.some.inj hy]
   rw [hd,List.flatten_cons];by_cases ho:off<=(C.encD c y).length
   ·rw [List.drop_append_of_le_length ho];exact Vhn h1
   ·rw [List.drop_eq_nil_of_le (by omega)] at h1;have:=Vhn (b:=(List.drop off (C.encD c y++(List.drop (i+1) (l.map (C.encD c))).flatten))) h1;simpa using this
 ·rename_i cs;have hwc:WfL L cs:=by
   simp only [den,V] at hx;obtain ⟨b,o,_,_,hvc⟩:=hx;obtain ⟨us,hu,_⟩:=Vcu hvc;exact Ve6 cs us hu
  obtain ⟨d,h1,h2,h3⟩:=ld _ hwc h;exact ⟨d,by simp only [den,loadR,h1],h2,h3⟩
 ·cases h
theorem Vgf (hw:WfM L m) {c:Nat} {x:DT T} {rows:List (T c)} (hwx:WfD L x) (h:rowsK m c x some=some rows):rowsOf (denM C m) (C.sz c) (den C x)=some (rows.map (C.encD c)):=by
 unfold rowsK at h;have hr:∀ {b g:Nat} {l:List (T c)},boxL m b g c=some l->(denM C m).rows b g (C.sz c)=some (l.map (C.encD c))/\L b g=l.length:=λ{b g l} hl=>by
  have:=hw b;rcases Vbf hl with e | e<;>rw [e] at this<;>exact ⟨by simp [Mem.rows,denM,e,denB],this⟩
 split at h
 ·simp only [Option.some.injEq] at h; subst h; simp [den,rowsOf]
 ·split at h
  ·rename_i hc _;subst hc;simp only [Option.some.injEq] at h; subst h;simp [den,rowsOf,castL]
  ·cases h
 ·split at h
  ·rename_i hc;have hc:=Nat.eq_of_beq_eq_true hc;subst hc;split at h
   ·rename_i l hl;simp only [Option.some.injEq] at h; subst h;obtain ⟨h1,h2⟩:=hr hl;simp only [WfD] at hwx;simp only [den,rowsOf,if_true,Mem.cut,h1];rw [if_pos (by simp; omega)];have:l.length=(l.map (C.encD _)).length:=by simp
    rw [List.drop_zero,<- hwx,h2,this,List.take_length]
   ·cases h
  ·cases h
 ·rename_i b g c' i n;split at h
  ·rename_i hc;have hc:=Nat.eq_of_beq_eq_true hc;subst hc;split at h
   ·rename_i l hl;obtain ⟨h1,h2⟩:=hr hl;unfold winK at h;cases hd:decide (n+i<=l.length)<;>simp only [hd,cond_true,cond_false] at h
    ·cases h
    simp only [Option.some.injEq] at h; subst h;have hd:=of_decide_eq_true hd;simp only [den,rowsOf,if_true,Mem.cut,h1];rw [if_pos (by simp; omega)];simp
   ·cases h
  ·cases h
 ·cases h
theorem Vo4 (hC:CdOk C):∀ (l:List (T C.bt)),bytesOf (l.map (C.encD C.bt))=some (castB C l):=by
 have gen:∀ (α:Type) (h:α=UInt8) (e:α->List D),(∀ x,e x=[.int .u8 (cast h x).toNat])->∀ l:List α,bytesOf (l.map e)=some (cast (congrArg List h) l):=by
  intro α h e he l;subst h;simp only [cast_eq] at he |-;induction l with
  | nil=>rfl
  | cons x l ih=>
   simp only [List.map_cons,he,bytesOf];have hx:=x.toNat_lt;rw [if_pos ⟨by omega,by omega⟩,ih];simp
 exact gen _ C.hb (C.encD C.bt) hC.byte
theorem Ve8 (hC:CdOk C) (l:List UInt8):(castT C l).map (C.encD C.bt)=bytesD l:=by
 have gen:∀ (α:Type) (h:α=UInt8) (e:α->List D),(∀ x,e x=[.int .u8 (cast h x).toNat])->∀ l:List UInt8,(cast (congrArg List h.symm) l:List α).map e=bytesD l:=by
  intro α h e he l;subst h;simp only [cast_eq] at he |-;unfold bytesD;congr 1; funext x; exact he x
 exact gen _ C.hb (C.encD C.bt) hC.byte l
theorem Vw8 {b o:Nat} {v:Value} (h:w.cell? ⟨b,o,none⟩=some v):o < rowSize w b:=by
 unfold World.cell? at h;unfold rowSize;cases hh:w.heap[b]? with
 | none=>rw [hh] at h; cases h
 | some ob=>
  rw [hh] at h;cases ob with
  | cells c t fz=>
   simp only [] at h |-;rcases Nat.lt_or_ge o c.size with h2 | h2
   ·exact h2
   ·have:c[o]? = none:=by simp; omega
    simp [this] at h
  | _=>cases h
theorem Vuq {s:Nat} {rows:List (List D)} {b:Nat} (h:VR I w s rows b 0):rows.length * s<=rowSize w b:=by
 obtain ⟨vs,h1,h2,h3⟩:=Vcu (Vmb h);have hl:vs.length=rows.length * s:=by rw [Vac h1,Vad rows (Vtz h)]
 rcases Nat.eq_zero_or_pos vs.length with h0 | h0
 ·omega
 ·have:=Vw8 (h3 (vs.length - 1) vs[vs.length - 1] (by simp));omega
theorem Vur (hY:TysOk P Y) {t s n:Nat} (h:arrN Y t s=some n):∃ e,tarr P t=some (n,e)/\tsz P e=some s:=by
 unfold arrN at h;split at h
 case h_2=>cases h
 rename_i n' e s' ha;have ha:=Vc8 hY ha;split at h
 case h_2=>cases h
 rename_i hs;have hs:=Nat.eq_of_beq_eq_true hs;subst hs;simp only [Option.some.injEq] at h;subst h;exact ⟨e,ha.1,ha.2⟩
theorem rK_ok (hC:CdOk C) (hY:TysOk P Y) (hm:MRel O I loc (denM C m) w) (hw:WfM L m) (hG:Glob G I w) {e:Operand->DT T} {ρ:Operand->Value} (he:∀ x,V I w (den C (e x)) loc (ρ x)) (hwe:∀ x,WfD L (e x)) {o:Oper} {K:DT T->Option R} {r:R}
  (h:rK Y C o.op e m K=some r):∃ d:DT T,Follows P ⟨G,λ_=>none⟩ O I loc w o ((execOp ρ o).run P w) (den C d) (denM C m)/\WfD L d/\K d=some r:=by
 obtain ⟨dst,op,type,pos,after,guard⟩:=o;simp only at h;have h0:=h;unfold rK at h;split at h
 ·rename_i t x;obtain ⟨d,h1,h2,h3⟩:=Vup (P:=P) hC hY hm hw (hwe x) (he x) e x rfl h0;exact ⟨d,Vt1 (Sp:=⟨G,λ_=>none⟩) glob0 hm hG (e:=λx=>den C (e x)) he (by simp only [semR]; exact h1),h2,h3⟩
 ·rename_i t x;split at h
  case h_2=>cases h
  rename_i b g c hx;split at h
  case h_2=>cases h
  rename_i n hn;split at h
  case h_2=>cases h
  rename_i l hl;cases hq:decide (l.length=n)<;>simp only [hq,cond_true,cond_false] at h
  ·cases h
  have hln:l.length=n:=by simpa using hq
  obtain ⟨e',ha,hs⟩:=Vur (P:=P) hY hn;have hv:=he x;rw [hx] at hv;simp only [den,V] at hv;have hb:b < m.length:=Va5 (C:=C) (g:=g) hm (by intro e; simp [e] at hv);have hL:L b g=l.length:=by
   have hwb:=hw b;rcases Vbf hl with e | e<;>rw [e] at hwb<;>exact hwb
  refine ⟨.bw b g c l.length,?_,by simp only [WfD]; exact hL,h⟩;have hr:(denM C m).rows b g (C.sz c)=some (l.map (C.encD c)):=by
   rcases Vbf hl with e | e<;>simp [Mem.rows,denM,e,denB]
  rcases Ver hm hb hr with ⟨hlc,hnil⟩ | ⟨k,hlc,hvr⟩
  ·simp only [hlc] at hv
  simp only [hlc] at hv;refine Follows.of_res hG (Res.of_same hm ⟨.slice (some ⟨k,0,none⟩) n n,?_,?_⟩)
  ·have hz:(0:Nat) * C.sz c+0=0:=by omega
   rw [hz] at hv;simp [execOp,Instr.sliceAt,run_underlying (Vcg ha),hv,Instr.sureAddr,run_sizeOf' hs,Instr.sliceBounds];cases n<;>simp [Vap]
  ·simp only [den,V,hlc];refine ⟨0,n,by rw [hln],by omega,.inr (by omega),?_⟩;have hrow:=Vuq hvr;rw [List.length_map,hln] at hrow;rw [Nat.zero_add];exact hrow
 ·rename_i t x lo;split at h
  case h_2=>cases h
  rename_i b g c hx;split at h
  case h_2=>cases h
  rename_i z hz;split at h
  case h_2=>cases h
  rename_i n hn;split at h
  case h_2=>cases h
  rename_i l hl;cases hq:(decide (l.length=n)&&(decide (0<=z)&&decide (z < (n:Int))))<;>simp only [hq,cond_true,cond_false] at h
  ·cases h
  simp only [Bool.and_eq_true,decide_eq_true_eq] at hq;obtain ⟨hln,hz0,hzn⟩:=hq;obtain ⟨e',ha,hs⟩:=Vur (P:=P) hY hn;have hv:=he x;rw [hx] at hv;have hvz:=he lo;rw [hz] at hvz;simp only [den,V] at hv hvz;have hb:b < m.length:=Va5 (C:=C) (g:=g) hm (by intro e; simp [e] at hv);refine ⟨.bs b g c z.toNat (n - z.toNat),?_,trivial,h⟩;have hr:(denM C m).rows b g (C.sz c)=some (l.map (C.encD c)):=by
   rcases Vbf hl with e | e<;>simp [Mem.rows,denM,e,denB]
  rcases Ver hm hb hr with ⟨hlc,hnil⟩ | ⟨k,hlc,hvr⟩
  ·simp only [hlc] at hv
  simp only [hlc] at hv;have hzz:(z.toNat:Int)=z:=Int.toNat_of_nonneg hz0;have hzN:z.toNat < n:=by omega
  refine Follows.of_res hG (Res.of_same hm ⟨.slice (some ⟨k,z.toNat * C.sz c,none⟩) (n - z.toNat) (n - z.toNat),?_,?_⟩)
  ·have hz:(0:Nat) * C.sz c+0=0:=by omega
   rw [hz] at hv;have hbad:¬ ((n:Int) < z):=by omega
   have hne:¬ (n=z.toNat):=by omega
   have hm2:z<=(n:Int):=by omega
   have hb:(Instr.sliceBounds false n n (some (.int .i64 z)) none none).run P w = .ok (z.toNat,n,n) w:=by
    simp [Instr.sliceBounds,Instr.sliceBound,asIntOf,hz0,hm2]
   have hsz:(sizeOf e').run P w = .ok (C.sz c) w:=run_sizeOf' hs w;simp [execOp,Instr.sliceAt,run_underlying (Vcg ha),hv,hvz,Instr.sureAddr,hb,hsz,hne,Vap]
  ·simp only [den,V,hlc];refine ⟨z.toNat * C.sz c,n - z.toNat,rfl,Nat.le_refl _,.inr rfl,?_⟩;have hrow:=Vuq hvr;rw [List.length_map,hln] at hrow;have:z.toNat+(n - z.toNat)=n:=by omega
   rw [this];exact hrow
 ·rename_i src dst' x;split at h
  case h_2=>cases h
  rename_i el hel;split at h
  case h_2=>cases h
  rename_i hc;simp only [Bool.and_eq_true] at hc;rw [Va4,Option.bind_eq_some_iff] at h;obtain ⟨l,h1,h2⟩:=h;have hr:=Vgf (C:=C) hw (hwe x) h1;rw [hC.bsz] at hr;have hu:tint P el=some .u8:=by
   have:=hc.1;unfold isU8 at this;split at this
   ·rename_i i hi;split at this
    ·rename_i hk; exact (hY el i hi).int _ hk
    ·cases this
   ·cases this
  refine ⟨.str (castB C l),Vt1 (Sp:=⟨G,λ_=>none⟩) glob0 hm hG (e:=λx=>den C (e x)) he ?_,trivial,h2⟩;simp only [semR,Vaw hY hel,hu,Vc9 hY hc.2,and_self,if_true,hr,Vo4 hC,Option.map_some,den]
 ·cases h
end
section
variable {T:Nat->Type} {C:Cd T} {O I:Nat->Prop} {w:World} {loc:Nat->Nat->Loc} {L:Nat->Nat->Nat} {m:MT T} {P:Program} {Y:Nat->Option TI} {R:Type} {G:Nat->Option (List D)}
def Imp (row row':List D):Prop:=row'.length=row.length/\∀ (I:Nat->Prop) (w:World) (vs:List Value),VL I w row free vs->VL I w row' free vs
theorem Imp.refl (row:List D):Imp row row:=⟨rfl,λ_ _ _ h=>h⟩
theorem Imp.vc {row row':List D} (h:Imp row row') {b o:Nat} (hv:VC I w row b o):VC I w row' b o:=by
 obtain ⟨vs,h1,h2,h3⟩:=Vcu hv;exact Vc6 (h.2 I w vs h1) h2 h3
def ImpR (s:Nat) (rows rows':List (List D)):Prop:=rows'.length=rows.length/\∀ (i:Nat) (row row':List D),rows[i]? = some row->rows'[i]? = some row'->row.length=s->Imp row row'
theorem ImpR.vr {s:Nat} {rows rows':List (List D)} (h:ImpR s rows rows') {b o:Nat} (hv:VR I w s rows b o):VR I w s rows' b o:=by
 rw [Vg9] at hv |-;intro i row' hi;have hlt:i < rows.length:=by
  rw [<- h.1];rcases Nat.lt_or_ge i rows'.length with q | q
  ·exact q
  ·rw [List.getElem?_eq_none q] at hi; cases hi
 have hr:rows[i]? = some rows[i]:=List.getElem?_eq_getElem hlt;obtain ⟨h1,h2⟩:=hv i _ hr;have hi':=h.2 i _ row' hr hi h1;exact ⟨by rw [hi'.1]; exact h1,hi'.vc h2⟩
theorem MRel.weakR {M:Mem} {b g s:Nat} {rows rows':List (List D)} (hm:MRel O I loc M w) (hb:b < M.nb) (hx:M.bx b = .arr g s rows) (hr:ImpR s rows rows'):MRel O I loc (M.set b (.arr g s rows')) w:=by
 have hbx:∀ b',(M.set b (.arr g s rows')).bx b'=if b'=b then .arr g s rows' else M.bx b':=λb'=>rfl
 have hown:∀ b',((M.set b (.arr g s rows')).bx b').owned=(M.bx b').owned:=λb'=>by
  rw [hbx];split
  ·rename_i e; rw [e,hx]; rfl
  ·rfl
 refine ⟨λb' hb'=>?_,hm.free,λb' g' k hb' ho hk=>hm.own b' g' k hb' (by rw [<- hown]; exact ho) hk,λb1 b2 g1 g2 k h1 h2 o1 o2 k1 k2=>hm.inj b1 b2 g1 g2 k h1 h2 (by rw [<- hown]; exact o1) (by rw [<- hown]; exact o2) k1 k2,hm.imm,hm.up⟩;rw [hbx];by_cases e:b'=b
 ·subst e;rw [if_pos rfl];have:=hm.box b' hb;rw [hx] at this;simp only [RelB] at this |-;refine ⟨this.1,?_⟩;rcases this.2 with ⟨h1,h2⟩ | ⟨k,c,el,fz,h1,h2,h3,h4,h5⟩
  ·subst h2;exact .inl ⟨h1,List.eq_nil_of_length_eq_zero hr.1⟩
  ·exact .inr ⟨k,c,el,fz,h1,h2,h3,by rw [hr.1]; exact h4,hr.vr h5⟩
 ·rw [if_neg e]; exact hm.box b' hb'
theorem Vdz {d:D} {v:Value} (h:V I w d loc v) (hf:d.fit=true) (hn:∀ cs,d≠.agg cs):v.cells = #[v]:=by
 cases d<;>simp [D.fit,D.one] at hf
 case agg cs=>exact absurd rfl (hn cs)
 case lit x=>
  simp only [V] at h;subst h;cases v<;>first | rfl | simp at hf
 all_goals
  cases v<;>first | rfl | (simp [V] at h; try (split at h<;>simp at h))
def DT.re (y:DT T) (cs:List (DT T)):DT T:=
 match y with
 | .agg _=>.agg cs
 | _=>one1 cs
theorem re_ok {I':Nat->Prop} {y:DT T} {cs:List (DT T)} {v:Value} (hf:y.fit=true) (hv:V I w (den C y) loc v) (hc:VL I' w (denL C cs) free v.cells.toList) (hs:solidL cs=true) (hl:cs.length=y.cells.length) :
  V I' w (den C (y.re cs)) free v/\(y.re cs).cells=cs/\(y.re cs).pure=true/\(den C (y.re cs)).fit=true:=by
 have hp:=Vcy hs;by_cases ha:∃ l,y = .agg l
 ·obtain ⟨l,rfl⟩:=ha;simp only [den,V] at hv;obtain ⟨vs,rfl,h1,_⟩:=hv;refine ⟨?_,rfl,hp,rfl⟩;simp only [DT.re,den,V];exact ⟨vs,rfl,h1,by simpa [Value.cells] using hc⟩
 ·have hn:∀ l,den C y≠.agg l:=by
   intro l e;cases y
   case rn c l'=>cases l'<;>simp [den,rnD] at e
   all_goals simp [den] at e
   exact ha ⟨_,rfl⟩
  have hone:=Vdz hv (Vbw C y hf) hn;rw [hone] at hc;have hyc:y.cells=[y]:=by
   cases y<;>first | rfl | exact absurd ⟨_,rfl⟩ ha
  rw [hyc] at hl;match cs,hl with
  | [d],_=>
   simp only [denL,VL] at hc;obtain ⟨v',vr,he,h1,h2⟩:=hc;simp only [List.cons.injEq] at he;obtain ⟨rfl,rfl⟩:=he;have hre:y.re [d]=d:=by
    cases y<;>first | rfl | exact absurd ⟨_,rfl⟩ ha
   rw [hre];obtain ⟨hd1,hd2⟩:=Vhf hs d (by simp);refine ⟨h1,?_,hd1,Vbw C d ?_⟩
   ·cases d<;>first | rfl | (simp [DT.one] at hd2)
   ·cases d<;>first | rfl | exact hd2
theorem Vjx:∀ {cs:List (DT T)} {k:Nat} {vs:List (DT T)},k+vs.length<=cs.length->∀ d∈vs,d∈setT cs k vs
 | cs,k,[],_,d,hd=>by simp at hd
 | [],k,v::vs,h,d,hd=>by simp at h
 | c::cs,0,v::vs,h,d,hd=>by
  simp only [setT,List.mem_cons];rcases List.mem_cons.1 hd with rfl | hd
  ·exact .inl rfl
  ·exact .inr (Vjx (k:=0) (by simpa using h) d hd)
 | c::cs,k+1,v::vs,h,d,hd=>by
  simp only [setT,List.mem_cons];exact .inr (Vjx (by simp at h |-; omega) d hd)
theorem Vnw {l l':List (DT T)} (h:solidL l=true) (hm:∀ d∈l',d∈l):solidL l'=true:=by
 induction l' with
 | nil=>rfl
 | cons d r ih=>
  have:=Vhf h d (hm d (by simp));simp only [solidL,this.1,this.2,Bool.and_self,Bool.true_and];exact ih λx hx=>hm x (by simp [hx])
theorem Vcm {y:DT T} {v:Value} (hf:y.fit=true) (hv:V I w (den C y) loc v):VL I w (denL C y.cells) loc v.cells.toList:=by
 have:=(Vbj hv (Vbw C y hf)).1;rwa [Vbe] at this
theorem Vus (C:Cd T):∀ (qs:List Bool) (cs:List (DT T)) {K:List (DT T)->Option R} {r:R},rnK qs cs K=some r->∃ cs',denL C cs'=denL C cs/\cs'.length=cs.length/\(cleanL cs=true->cleanL cs'=true)/\K cs'=some r
 | _,[],K,r,h=>⟨[],rfl,rfl,λh=>h,by simpa only [rnK] using h⟩
 | [],d::cs,K,r,h=>⟨d::cs,rfl,rfl,λh=>h,by simpa only [rnK] using h⟩
 | q::qs,d::cs,K,r,h=>by
  have keep:rnK qs cs (λr'=>K (d::r'))=some r->∃ cs',denL C cs'=denL C (d::cs)/\cs'.length=(d::cs).length/\(cleanL (d::cs)=true->cleanL cs'=true)/\K cs'=some r:=λh=>by
   obtain ⟨cs',h1,h2,h3,h4⟩:=Vus C qs cs h;refine ⟨d::cs',by simp only [denL,h1],by simp [h2],λhc=>?_,h4⟩;simp only [cleanL,Bool.and_eq_true] at hc |-;exact ⟨hc.1,h3 hc.2⟩
  simp only [rnK] at h;split at h
  ·split at h
   ·rename_i c l;cases l with
    | nil=>cases h
    | cons x l=>
     simp only [List.isEmpty_cons,cond_false] at h;obtain ⟨cs',h1,h2,h3,h4⟩:=Vus C qs cs h;refine ⟨.rn c (x::l)::cs',by simp only [denL,h1]; rfl,by simp [h2],λhc=>?_,h4⟩;simp only [cleanL,Bool.and_eq_true] at hc |-;exact ⟨rfl,h3 hc.2⟩
   ·exact keep h
  ·exact keep h
theorem Vd0 (hC:CdOk C) {c:Nat}:∀ (n:Nat) (cs:List (DT T)) (l:List (T c)),elemsT C c n cs=some l->l.length=n/\solidL cs=true/\∀ (I:Nat->Prop) (w:World) (vs:List Value),VL I w (denL C cs) free vs->VL I w (l.map (C.encD c)).flatten free vs
 | 0,cs,l,h=>by
  simp only [elemsT] at h;split at h
  ·simp only [Option.some.injEq] at h; subst h;exact ⟨rfl,rfl,λI w vs hv=>by simpa [denL] using hv⟩
  ·cases h
 | n+1,cs,l,h=>by
  simp only [elemsT] at h;split at h
  case h_2=>cases h
  rename_i x hx;split at h
  case h_2=>cases h
  rename_i l' hl;simp only [Option.some.injEq] at h; subst h;obtain ⟨h1,h2,h3⟩:=Vd0 hC n _ l' hl;obtain ⟨g1,g2⟩:=hC.dec c _ x hx;refine ⟨by simp [h1],?_,λI w vs hv=>?_⟩
  ·refine Vnw (l:=cs) ?_ (λd hd=>hd);have:∀ {a b:List (DT T)},solidL a=true->solidL b=true->solidL (a++b)=true:=by
    intro a b ha hb;induction a with
    | nil=>exact hb
    | cons d r ih=>
     simp only [solidL,Bool.and_eq_true,List.cons_append] at ha |-;exact ⟨ha.1,ih ha.2⟩
   have:=this g1 h2;rwa [List.take_append_drop] at this
  ·have e1:=Vdq (C.sz c) hv;have e2:=Vct (C.sz c) hv;rw [<- Vcz] at e1;rw [<- Va1] at e2;have:=Var (g2 I w _ e1) (h3 I w _ e2);rw [List.take_append_drop] at this;simpa using this
theorem Vjy {M:Mem} (hm:MRel O I loc M w) {t:TypeId} {b g s sz:Nat} {rows rows':List (List D)} {u v:Value} (hx:V I w (.ap b g s 0 0) loc u) (hv:VL I w rows'.flatten free v.cells.toList) (h1:∀ x∈v.cells.toList,x.oneCell'=true) (hs:∀ row∈rows',row.length=s)
  (hsz:tsz P t=some sz) (hvs:v.cells.size=sz) (hbx:M.bx b = .arr g s rows) (hn:rows'.length=rows.length) :
  ∃ w',(Instr.storeAt t u v).run P w = .ok () w'/\MRel O I loc (M.set b (.arr g s rows')) w'/\Ext I I w w'/\Fr O w w':=by
 simp only [V] at hx;have hlt:b < M.nb:=lt_nb (g:=g) hm (by intro e; simp [e] at hx);have hb:=hm.box b hlt;rw [hbx] at hb; simp only [RelB] at hb;obtain ⟨h0,hb⟩:=hb;have hvl:v.cells.toList.length=rows'.length * s:=by rw [Vac hv,Vad rows' hs]
 rcases hb with ⟨hl,_⟩ | ⟨k,c,el,fz,hl,hw,hu,hrc,hvr⟩
 ·simp [hl] at hx
 simp only [hl] at hx; subst hx;have hz:(0:Nat) * s+0=0:=by omega
 rw [hz];have hfit:0+0+v.cells.toList.length<=c.size:=by rw [hvl,hn]; omega
 have hrun:=Vak (P:=P) k 0 el fz v.cells.toList 0 c w hw hu hfit h1;simp only [Nat.add_zero,Nat.zero_add,List.take_zero,List.nil_append] at hrun;let l':=v.cells.toList++c.toList.drop v.cells.toList.length;have hl':l'.length=c.size:=by simp [l'] at hfit |-; omega
 have he:=Vbv (hm.own b g k hlt (by rw [hbx]; rfl) hl).2.1 hw (c':=l'.toArray) (by simp [hl']);have hnew:VR I (w.setRow k l'.toArray) s rows' k 0:=Va6 hs (Vaf he _ free free _ (.refl _) hv) h1 λj z hj=>by
  have hjl:j < v.cells.toList.length:=(List.getElem?_eq_some_iff.1 hj).1;rw [cell_setRow_same w k _ c l'.toArray el fz hw,Nat.zero_add];simp only [l',List.getElem?_toArray];rw [List.getElem?_append_left hjl];exact hj
 have hst:=hm.store (x:=.arr g s rows') (c':=l'.toArray) hlt (by rw [hbx]; rfl) hl hw (by simp [hl']) (by
  simp only [RelB];refine ⟨h0,.inr ⟨k,l'.toArray,el,fz,hl,setRow_heap w k c _ el fz hw,by simpa [hl'] using hu,?_,hnew⟩⟩;rw [hn];simpa [hl'] using hrc)
 refine ⟨w.setRow k l'.toArray,?_,hst.1,hst.2.1,hst.2.2⟩;simp only [Instr.storeAt,Instr.sureAddr,storeVar,Sem.run_bind,Sem.run_pure,Result.andThen_ok,run_sizeOf' hsz];simp [hvs];exact hrun
theorem Vw9 (hC:CdOk C) (hY:TysOk P Y) (hm:MRel O I loc (denM C m) w) (hw:WfM L m) {t:Nat} {x y:DT T} {u v:Value} (hwx:WfD L x) (hwy:WfD L y) (hx:V I w (den C x) loc u) (hv:V I w (den C y) loc v) {K:DT T->MT T->Option R} {r:R} (e:Operand->DT T) (ox oy:Operand) (hex:e ox=x) (hey:e oy=y)
  (h:wK Y C (.store t ox oy) e m K=some r):∃ (m':MT T) (w':World) (I':Nat->Prop),(Instr.storeAt t u v).run P w = .ok () w'/\MRel O I' loc (denM C m') w'/\WfM L m'/\Ext I I' w w'/\(∀ k,I' k->I k\/O k)/\Fr O w w'/\K .dead m'=some r:=by
 simp only [wK,hex,hey] at h;split at h
 case h_2=>cases h
 rename_i i hi;have hsz:=(hY t i hi).sz;split at h
 case h_2=>cases h
 rename_i hc;simp only [Bool.and_eq_true] at hc;have hlen:y.cells.length=i.sz:=Nat.eq_of_beq_eq_true hc.2;split at h
 ·rename_i b off;split at h
  case h_2=>cases h
  rename_i cs hb;split at h
  case h_2=>cases h
  rename_i hle;have hle:off+i.sz<=cs.length:=by simpa using hle
  have hlt:b < m.length:=by
   simp only [den,V] at hx;exact Va5 (C:=C) (g:=0) hm (by intro e; simp [e] at hx)
  have hbx:(denM C m).bx b = .var (denL C cs):=by simp [denM,hb,denB]
  obtain ⟨w',h1,h2,h3,h4⟩:=Vi9 (P:=P) hm hx hv (Vbw C y hc.1) hsz (by rw [Vbe,Van]; exact hlen) hbx (by rw [Van]; exact hle);have hwb:=hw b;rw [hb] at hwb;refine ⟨m.put b (.var (setT cs off y.cells)),w',I,h1,?_,Vdy hlt hw (Vgb cs off y.cells hwb (Vbp hwy)),h3,λ_ h=>.inl h,h4,h⟩;rw [Vb9 hlt];simpa [denB,Vc0,Vbe] using h2
 ·rename_i b g c k off;split at h
  ·rename_i c' hla;split at h
   case h_2=>cases h
   rename_i hck;simp only [Bool.and_eq_true] at hck;have hk0:=Nat.eq_of_beq_eq_true hck.2.1;have ho0:=Nat.eq_of_beq_eq_true hck.2.2;subst hk0; subst ho0;split at h
   case h_2=>cases h
   rename_i n hn;have hcs:=Vcm hc.1 hv;obtain ⟨cs',m1,I1,g1,g2,g3,g4,g5,g6,g7,g8,h⟩:=Vis hC hm hw (Vbp hwy) hcs h;have g4:=Vlk hm g4;split at h
   case h_2=>cases h
   rename_i l' hl';split at h
   case h_2=>cases h
   rename_i l hl;cases hq:decide (l.length=n)<;>simp only [hq,cond_true,cond_false] at h
   ·cases h
   have hq:l.length=n:=by simpa using hq
   have hbA:=Vba hl;obtain ⟨q1,q2,q3⟩:=Vd0 hC n cs' l' hl';have hlt:b < m1.length:=by
    rw [g7];simp only [den,V] at hx;exact Va5 (C:=C) (g:=g) hm (by intro e; simp [e] at hx)
   have hbx:(denM C m1).bx b = .arr g (C.sz c) (l.map (C.encD c)):=by simp [denM,hbA,denB]
   have hxI:V I1 w (den C (.ap b g c 0 0:DT T)) loc u:=Vaz (Vae g3) _ loc loc u (.refl _) hx;have hcl:=Vac hcs;rw [Van,hlen] at hcl;obtain ⟨w',h1,h2,h3,h4⟩:=Vjy (P:=P) (rows':=l'.map (C.encD c)) g1 hxI (q3 I1 w _ g5) (Vbj hv (Vbw C y hc.1)).2 (by
    intro row hr;obtain ⟨x,_,rfl⟩:=List.mem_map.1 hr;exact hC.len c x) hsz (by simpa using hcl) hbx (by simp [q1,hq])
   refine ⟨_,w',I1,h1,?_,Vdy hlt g2 ?_,(Vae g3).trans h3,g4,h4,h⟩
   ·rw [Vb9 hlt]; exact h2
   ·have:=g2 b;rw [hbA] at this;simp only [WfB] at this |-;omega
  split at h
  case h_2=>cases h
  rename_i l hl;have hbA:=Vba hl;rw [Option.bind_eq_some_iff] at h;obtain ⟨x0,hx0,h⟩:=h;have hcs:=Vcm hc.1 hv;obtain ⟨cs0,m1,I1,g1,g2,g3,g4,g5,g6,g7,g8,h⟩:=Vis hC hm hw (Vbp hwy) hcs h;have g4:=Vlk hm g4;obtain ⟨cs',q1,q2,q3,h⟩:=Vus C _ _ h;rw [<- q1] at g5;have g6:=q3 g6;split at h
  case h_2=>cases h
  rename_i hle;have hle:off+i.sz<=(C.enc c x0).length:=by simpa using hle
  split at h
  case h_2=>cases h
  rename_i x' hx';split at h
  case h_2=>cases h
  rename_i g' c' l' hb1
  -- the box is still one's own
  have hsame:m1.get b = .arr g c l:=by
   rcases g8 b with q | ⟨g2',c2,l2,q1,q2⟩
   ·rw [q,hbA]
   ·rw [q2] at hb1; cases hb1
  have hlc:cs'.length=y.cells.length:=by
   have h1:=Vac g5;have h2:=Vac hcs;rw [Van] at h1 h2;omega
  obtain ⟨hs,himp⟩:=hC.dec c _ x' hx';have hsol:solidL cs'=true:=Vnw hs (Vjx (by rw [hlc,hlen]; exact hle));obtain ⟨r1,r2,r3,r4⟩:=re_ok hc.1 hv g5 hsol hlc;have hlt:b < m1.length:=by
   rw [g7];simp only [den,V] at hx;exact Va5 (C:=C) (g:=g) hm (by intro e; simp [e] at hx)
  have hbx:(denM C m1).bx b = .arr g (C.sz c) (l.map (C.encD c)):=by simp [denM,hsame,denB]
  have hxI:V I1 w (den C (.ap b g c k off:DT T)) loc u:=Vaz (Vae g3) _ loc loc u (.refl _) hx;have hrow:(l.map (C.encD c))[k]? = some (C.encD c x0):=by simp [hx0]
  have hel:(C.encD c x0).length=(C.enc c x0).length:=by rw [<- hC.enc,Van]
  obtain ⟨w',h1,h2,h3,h4⟩:=Vja (P:=P) g1 hxI (Vni r1) r4 (DT.pure_den C _ r3) hsz (by rw [Vbe,r2,Van,hlc,hlen]) hbx hrow (by rw [hel]; exact hle);refine ⟨_,w',I1,h1,?_,Vdy hlt g2 ?_,(Vae g3).trans h3,g4,h4,h⟩
  ·rw [Vb9 hlt];have hb2:((denM C m1).set b (.arr g (C.sz c) ((l.map (C.encD c)).set k (setCells (C.encD c x0) off (den C (y.re cs')).cells)))).bx b = .arr g (C.sz c) ((l.map (C.encD c)).set k (setCells (C.encD c x0) off (den C (y.re cs')).cells)):=by simp [Mem.set,upd]
   have:=h2.weakR (b:=b) (rows':=(l.set k x').map (C.encD c)) hlt hb2 ⟨by simp,λi row row' hi hi' _=>?_⟩
   ·have e:((denM C m1).set b (.arr g (C.sz c) ((l.map (C.encD c)).set k (setCells (C.encD c x0) off (den C (y.re cs')).cells)))).set b (.arr g (C.sz c) ((l.set k x').map (C.encD c)))=(denM C m1).set b (denB C (.arr g c (l.set k x'))):=by
     simp only [Mem.set,denB,Mem.mk.injEq,true_and];funext b'; simp only [upd]; split<;>rfl
    rw [<- e]; exact this
   ·rw [List.getElem?_set] at hi;rw [List.getElem?_map,List.getElem?_set] at hi';by_cases q:k=i
    ·subst q;have hk:k < l.length:=by
      rcases Nat.lt_or_ge k l.length with h | h
      ·exact h
      ·rw [List.getElem?_eq_none h] at hx0; cases hx0
     simp only [if_true,List.length_map,hk,Option.some.injEq,Option.map_some] at hi hi';subst hi; subst hi';rw [Vbe,r2,<- hC.enc,<- Vc0];refine ⟨?_,himp⟩;rw [hC.len,Vc0,Vbo _ _ _ (by simp only [Van]; rw [hlc,hlen]; exact hle),hC.enc,hC.len]
    ·rw [if_neg q] at hi hi';rw [List.getElem?_map] at hi;rw [hi] at hi';cases hi';exact .refl _
  ·have:=g2 b;rw [hsame] at this;simp only [WfB] at this |-;simpa using this
 ·cases h
end
section
variable {T:Nat->Type} {C:Cd T} {O I:Nat->Prop} {w:World} {loc:Nat->Nat->Loc} {L:Nat->Nat->Nat} {m:MT T} {P:Program} {Y:Nat->Option TI} {R:Type} {G:Nat->Option (List D)}
def Rw (C:Cd T) (c:Nat) (rowsD:List (List D)) (rows:List (T c)):Prop:=
 rowsD.length=rows.length/\∀ (i:Nat) (row:List D) (x:T c),rowsD[i]? = some row->rows[i]? = some x->row.length=C.sz c/\pureL row=true/\Imp row (C.encD c x)
theorem Rw.imp {c:Nat} {rowsD:List (List D)} {rows:List (T c)} (h:Rw C c rowsD rows):ImpR (C.sz c) rowsD (rows.map (C.encD c)):=by
 refine ⟨by simp [h.1],λi row row' hi hi' _=>?_⟩;rw [List.getElem?_map,Option.map_eq_some_iff] at hi';obtain ⟨x,hx,rfl⟩:=hi';exact (h.2 i row x hi hx).2.2
theorem Rw.set {c:Nat} {rowsD:List (List D)} {rows:List (T c)} (h:Rw C c rowsD rows) {i:Nat} {row:List D} {x:T c} (h1:row.length=C.sz c) (h2:pureL row=true) (h3:Imp row (C.encD c x)):Rw C c (rowsD.set i row) (rows.set i x):=by
 refine ⟨by simp [h.1],λj row' x' hj hj'=>?_⟩;rw [List.getElem?_set] at hj hj';by_cases q:i=j
 ·subst q;rw [if_pos rfl] at hj hj';split at hj
  ·split at hj'
   ·simp only [Option.some.injEq] at hj hj';subst hj; subst hj';exact ⟨h1,h2,h3⟩
   ·cases hj'
  ·cases hj
 ·rw [if_neg q] at hj hj';exact h.2 j row' x' hj hj'
theorem Rw.rep {c:Nat} {row:List D} {x:T c} (n:Nat) (h1:row.length=C.sz c) (h2:pureL row=true) (h3:Imp row (C.encD c x)):Rw C c (List.replicate n row) (List.replicate n x):=by
 refine ⟨by simp,λj row' x' hj hj'=>?_⟩;rw [List.getElem?_replicate] at hj hj';split at hj
 ·rename_i hq;rw [if_pos hq] at hj';simp only [Option.some.injEq] at hj hj';subst hj; subst hj';exact ⟨h1,h2,h3⟩
 ·cases hj
theorem Vll (hC:CdOk C) {c:Nat}:∀ (ps:List (Nat × DT T)) (vs:List Value) {m:MT T} {I:Nat -> Prop} {rowsD:List (List D)} {rows:List (T c)} {K:List (T c) -> MT T -> Option R} {r:R},MRel O I loc (denM C m) w -> WfM L m ->
    ps.length=vs.length -> (∀ (j:Nat) (p:Nat × DT T) (v:Value),ps[j]? = some p -> vs[j]? = some v -> WfD L p.2 /\ V I w (den C p.2) loc v) -> Rw C c rowsD rows -> partsK C c ps m rows K=some r ->
    ∃ (ds:List D) (rowsD':List (List D)) (rows':List (T c)) (m':MT T) (I':Nat -> Prop),ds.length=ps.length /\ rowParts P (C.sz c) rowsD (List.zipWith (λp d=>(p.1,d)) ps ds)=some rowsD' /\ Rw C c rowsD' rows' /\ MRel O I' loc (denM C m') w /\ WfM L m' /\ (∀ k,I k -> I' k) /\ (∀ k,I' k -> I k \/ O k) /\
      (∀ (j:Nat) (d:D) (v:Value),ds[j]? = some d -> vs[j]? = some v -> V I' w d free v) /\ m'.length=m.length /\ K rows' m'=some r
  | [],[],m,I,rowsD,rows,K,r,hm,hw,hl,hv,hr,h=>⟨[],rowsD,rows,m,I,rfl,rfl,hr,hm,hw,λ_ h=>h,λ_ h=>.inl h,by simp,rfl,h⟩
  | [],_ :: _,m,I,rowsD,rows,K,r,hm,hw,hl,hv,hr,h=>by simp at hl
  | _ :: _,[],m,I,rowsD,rows,K,r,hm,hw,hl,hv,hr,h=>by simp at hl
  | (i, x) :: ps, v :: vs, m, I, rowsD, rows, K, r, hm, hw, hl, hv, hr, h => by
    simp only [partsK] at h;split at h
    case h_2=>cases h
    rename_i hf;obtain ⟨hwx,hvx⟩:=hv 0 (i,x) v (by simp) (by simp);have hcs:=Vcm hf hvx;obtain ⟨cs',m1,I1,g1,g2,g3,g4,g5,g6,g7,g8,h⟩:=Vis hC hm hw (Vbp hwx) hcs h;have g4:=Vlk hm g4;split at h
    case h_2=>cases h
    rename_i y hy;split at h
    case h_2=>cases h
    rename_i hlt;have hlt:i < rows.length:=by simpa [Nat.blt_eq] using hlt
    obtain ⟨hs,himp⟩:=hC.dec c _ y hy;have hlc:cs'.length=x.cells.length:=by
      have h1:=Vac g5;have h2:=Vac hcs;rw [Van] at h1 h2;omega
    obtain ⟨r1,r2,r3,r4⟩:=re_ok hf hvx g5 hs hlc;have hsz:(denL C cs').length=C.sz c:=by
      have h1:=Vac g5;have h2:=Vac (himp I1 w _ g5);rw [hC.len] at h2;omega
    have hr':Rw C c (rowsD.set i (denL C cs')) (rows.set i y):=hr.set hsz (Vca C _ (Vcy hs)) ⟨by rw [hC.len,hsz],himp⟩;obtain ⟨ds,rowsD',rows',m',I',k1,k2,k3,k4,k5,k6,k7,k8,k9,k10⟩:=Vll hC ps vs g1 g2 (by simpa using hl) (λj p v' hj hj'=>by
      obtain ⟨q1,q2⟩:=hv (j + 1) p v' (by simpa using hj) (by simpa using hj');exact ⟨q1,Vaz (Vae g3) _ loc loc v' (.refl _) q2⟩) hr' h
    refine ⟨den C (x.re cs') :: ds,rowsD',rows',m',I',by simp [k1],?_,k3,k4,k5,λk h=>k6 k (g3 k h),λk h=>?_,λj d v' hj hj'=>?_,k9.trans g7,k10⟩
    · simp only [List.zipWith_cons_cons,rowParts,Vbe,r2]
      rw [if_pos ⟨r4,hsz,DT.pure_den C _ r3,by rw [hr.1]; exact hlt⟩];exact k2
    · rcases k7 k h with h | h
      · exact g4 k h
      · exact .inr h
    · cases j with
      | zero=>
        simp only [List.getElem?_cons_zero,Option.some.injEq] at hj hj';subst hj; subst hj';exact Vaz (Vae k6) _ free free v (.refl _) r1
      | succ j=>exact k8 j d v' (by simpa using hj) (by simpa using hj')
theorem Vee (hC:CdOk C) (hY:TysOk P Y) {el:Nat} {j:TI} (hj:Y el=some j) {z:T j.code} (hz:zeroE C j=some z) :
  ∃ row,zrow P el j.sz=some row/\row.length=C.sz j.code/\pureL row=true/\Imp row (C.encD j.code z)/\j.sz=C.sz j.code:=by
 unfold zeroE at hz;split at hz
 case h_2=>cases hz
 rename_i hs;have hs:=Nat.eq_of_beq_eq_true hs;obtain ⟨h1,h2⟩:=hC.dec _ _ z hz;have ht:=hY el j hj;have hden:denL C (j.zero.map Zc.toT:List (DT T))=j.zero.map Zc.toD:=Vdw j.zero;have hp:pureL (j.zero.map Zc.toD)=true:=by rw [<- hden]; exact Vca C _ (Vcy h1)
 have hcells:(if j.kind.agg=true then D.agg (j.zero.map Zc.toD) else (j.zero.map Zc.toD).headD .dead).cells=j.zero.map Zc.toD/\(if j.kind.agg=true then D.agg (j.zero.map Zc.toD) else (j.zero.map Zc.toD).headD .dead).fit=true/\(if j.kind.agg=true then D.agg (j.zero.map Zc.toD) else (j.zero.map Zc.toD).headD .dead).pure=true:=by
  cases hk:j.kind.agg with
  | true=>simp only [if_true,D.cells,D.fit,D.pure,hp,and_self]
  | false=>
   have h1:=ht.zlen;rw [ht.one hk] at h1;match hzz:j.zero,h1 with
   | [q],_=>
    simp only [Bool.false_eq_true,if_false,List.map_cons,List.map_nil,List.headD_cons];cases q<;>exact ⟨rfl,rfl,rfl⟩
 refine ⟨j.zero.map Zc.toD,?_,by simp [ht.zlen,hs],hp,⟨by simp [hC.len,ht.zlen,hs],λI w vs hv=>h2 I w vs (by rw [hden]; exact hv)⟩,hs⟩;unfold zrow;simp only [ht.zero];rw [if_pos ⟨hcells.2.1,by rw [hcells.1]; simp [ht.zlen],hcells.2.2⟩,hcells.1]
theorem Vjz (hC:CdOk C) (hY:TysOk P Y) (hm:MRel O I loc (denM C m) w) (hw:WfM L m) {e:Operand->DT T} {ρ:Operand->Value} (he:∀ x,V I w (den C (e x)) loc (ρ x)) (hwe:∀ x,WfD L (e x)) {t el n:Nat} {j:TI} {z:T j.code} {parts:Array (Nat×Operand)} {K:List (T j.code)->MT T->Option R} {r:R}
  (ht:elemT Y t=some el) (hj:Y el=some j) (hz:zeroE C j=some z) (hn:n * j.sz<=16777216) (h:partsK C j.code (parts.toList.map λp=>(p.1,e p.2)) m (List.replicate n z) K=some r) :
  ∃ rows m',ResT C O I loc L w ((do pure (.value (<- Instr.buildSlice t n (parts.map λ(i,x)=>(i,ρ x)))):Sem Next).run P w) (.bw m'.length 0 j.code n) (m'++[.arr 0 j.code rows])/\K rows m'=some r:=by
 obtain ⟨row,z1,z2,z3,z4,z5⟩:=Vee hC hY hj hz;obtain ⟨ds,rowsD,rows,m',I',k1,k2,k3,k4,k5,k6,k7,k8,k9,k10⟩:=Vll (P:=P) hC (parts.toList.map λp=>(p.1,e p.2)) (parts.toList.map λp=>ρ p.2) hm hw (by simp) (λq p v hq hv=>by
  rw [List.getElem?_map,Option.map_eq_some_iff] at hq hv;obtain ⟨a,ha,rfl⟩:=hq;obtain ⟨a',ha',rfl⟩:=hv;rw [ha] at ha'; cases ha';exact ⟨hwe _,he _⟩) (Rw.rep n z2 z3 z4) h
 refine ⟨rows,m',?_,k10⟩
 -- the parts by number
 let ds':Operand->D:=λ| .tmp q=>ds.getD q .dead | _=>.dead
 let vs:=parts.toList.map λp=>ρ p.2;let ρ':Operand->Value:=λ| .tmp q=>vs.getD q undef | _=>undef
 let parts':Array (Nat×Operand):=(parts.toList.mapIdx λq p=>(p.1,Operand.tmp q)).toArray;have hds:ds.length=parts.toList.length:=by simpa using k1
 have hp1:parts'.toList.map (λp=>(p.1,ds' p.2))=List.zipWith (λp d=>(p.1,d)) (parts.toList.map λp=>(p.1,e p.2)) ds:=by
  apply List.ext_getElem?;intro q;simp only [parts',List.getElem?_map,List.getElem?_mapIdx,List.getElem?_zipWith];cases hq:parts.toList[q]? with
  | none=>simp
  | some p=>
   have hlt:q < ds.length:=by
    rw [hds];rcases Nat.lt_or_ge q parts.toList.length with h | h
    ·exact h
    ·rw [List.getElem?_eq_none h] at hq; cases hq
   simp [ds',List.getElem?_eq_getElem hlt,List.getD_eq_getElem?_getD]
 have hp2:parts'.map (λ(i,x)=>(i,ρ' x))=parts.map (λ(i,x)=>(i,ρ x)):=by
  apply Array.ext';apply List.ext_getElem?;intro q;simp only [parts',Array.toList_map,List.getElem?_map,List.getElem?_mapIdx];cases hq:parts.toList[q]? with
  | none=>simp
  | some p=>
   have hq':vs[q]? = some (ρ p.2):=by simp only [vs,List.getElem?_map,hq,Option.map_some]
   simp [ρ',List.getD_eq_getElem?_getD,hq']
 have hv':∀ x,V I' w (ds' x) loc (ρ' x):=by
  intro x;cases x with
  | tmp q=>
   show V I' w (ds.getD q .dead) loc (vs.getD q undef);rcases Nat.lt_or_ge q ds.length with h | h
   ·have h1:ds[q]? = some ds[q]:=List.getElem?_eq_getElem h;have h2:q < vs.length:=by simp only [vs,List.length_map]; rw [<- hds]; exact h
    have h3:vs[q]? = some vs[q]:=List.getElem?_eq_getElem h2;rw [List.getD_eq_getElem?_getD,List.getD_eq_getElem?_getD,h1,h3];exact Vni (k8 q _ _ h1 h3)
   ·rw [List.getD_eq_getElem?_getD,List.getElem?_eq_none h]; trivial
  | _=>trivial
 have hrp:rowParts P j.sz (List.replicate n row) (parts'.toList.map λp=>(p.1,ds' p.2))=some rowsD:=by rw [hp1,z5]; exact k2
 obtain ⟨v,w',b1,b2⟩:=Via (P:=P) k4 hv' (Vaw hY ht) (hY el j hj).sz hn z1 hrp;rw [hp2] at b1;have hres:=Res.bind b1 b2;obtain ⟨v0,w0,loc',c1,c2,c3,c4,c5,c6⟩:=hres;have hlen:rows.length=n:=by
  have h1:=(Vc7 (P:=P) (s:=j.sz) (e:=ds') parts'.toList (List.replicate n row) rowsD (λq hq=>by rw [List.eq_of_mem_replicate hq,z2,z5]) hrp).2.2.1;rw [<- k3.1,h1]; simp
 have hnb:(denM C m').nb=m'.length:=rfl;have hwk:=c2.weakR (b:=m'.length) (g:=0) (s:=j.sz) (rows:=rowsD) (rows':=rows.map (C.encD j.code)) (by simp [Mem.add,hnb]) (by simp [Mem.add,upd,hnb]) (by rw [z5]; exact k3.imp);refine ⟨v0,w0,I',loc',updL L m'.length 0 n,c1,?_,Ve7 k4 k5 (by simp [WfB,updL,hlen]),?_,by simp [WfD,updL],(Vae k6).trans c4,k7,c5,LExt.upd (k4.free _ _ (Nat.le_refl _)),c6⟩
 ·have e:((denM C m').add (.arr 0 j.sz rowsD)).set m'.length (.arr 0 j.sz (rows.map (C.encD j.code)))=denM C (m'++[.arr 0 j.code rows]):=by
   rw [Ved];simp only [Mem.add,Mem.set,denB,hnb,Mem.mk.injEq,true_and,<- z5];funext b'; simp only [upd]; split<;>rfl
  rw [<- e]; exact hwk
 ·simp only [den]; rw [<- z5]; exact c3
end
section
variable {T:Nat->Type} {C:Cd T} {O I:Nat->Prop} {w:World} {loc:Nat->Nat->Loc} {L:Nat->Nat->Nat} {m:MT T} {P:Program} {Y:Nat->Option TI} {R:Type} {G:Nat->Option (List D)}
theorem Vj0 {M:Mem} (hm:MRel O I loc M w) {s n cap:Nat} {rows:List (List D)} {vs:List Value} (el:TypeId) (fz:Nat×Nat) (hs:∀ row∈rows,row.length=s) (hv:VL I w rows.flatten free vs) (h1:∀ x∈vs,x.oneCell'=true) (rest:List Value) (hfz:Unfz fz (vs++rest).length) (hcap:cap * s=(vs++rest).length) (hle:n<=cap) :
  Res O I loc w (.ok (.value (.slice (some ⟨w.heap.size,0,none⟩) n cap)) (w.alloc (.cells (vs++rest).toArray el fz))) (.bs M.nb 0 s 0 n) (M.add (.arr 0 s rows)):=by
 have hvl:=Vac hv;have he:=Vbd hm.imm (.cells (vs++rest).toArray el fz);refine ⟨_,_,locNew loc M.nb (.blk w.heap.size),.inl rfl,hm.alloc _ _ ?_,?_,he,Vav hm _,Vb6 _ _⟩
 ·simp only [RelB];refine ⟨⟨λg hg=>by omega,λg hg=>by simp [locNew]; omega⟩,.inr ⟨w.heap.size,_,el,fz,by simp [locNew],Va2 _ _,by simpa using hfz,?_,?_⟩⟩
  ·rw [Vad rows hs] at hvl;simp; omega
  ·refine Va6 hs (Vaf he _ free free vs (.refl _) hv) h1 λj x hj=>?_;simp only [World.cell?,Va2,Nat.zero_add];have hj':j < vs.length:=by
    rcases Nat.lt_or_ge j vs.length with h | h
    ·exact h
    ·rw [List.getElem?_eq_none h] at hj; cases hj
   simp [List.getElem?_append_left hj',hj]
 ·simp only [V,locNew,if_true];exact ⟨0,cap,rfl,hle,.inr (by simp),by rw [rowSize,Va2]; simpa using Nat.le_of_eq hcap⟩
theorem Vho {c n:Nat} {rowsD:List (List D)} {rows:List (T c)} {r:Result Next} (hm:MRel O I loc (denM C m) w) (hw:WfM L m) (hr:Rw C c rowsD rows) (hn:rows.length=n) (h:Res O I loc w r (.bs (denM C m).nb 0 (C.sz c) 0 n) ((denM C m).add (.arr 0 (C.sz c) rowsD))) :
  ResT C O I loc L w r (.bw m.length 0 c n) (m++[.arr 0 c rows]):=by
 obtain ⟨v0,w0,loc',c1,c2,c3,c4,c5,c6⟩:=h;have hnb:(denM C m).nb=m.length:=rfl;have hwk:=c2.weakR (b:=m.length) (g:=0) (s:=C.sz c) (rows:=rowsD) (rows':=rows.map (C.encD c)) (by simp [Mem.add,hnb]) (by simp [Mem.add,upd,hnb]) hr.imp;refine ⟨v0,w0,I,loc',updL L m.length 0 n,c1,?_,Ve7 hm hw (by simp [WfB,updL,hn]),?_,by simp [WfD,updL],c4,λ_ h=>.inl h,c5,LExt.upd (hm.free _ _ (Nat.le_refl _)),c6⟩
 ·have e:((denM C m).add (.arr 0 (C.sz c) rowsD)).set m.length (.arr 0 (C.sz c) (rows.map (C.encD c)))=denM C (m++[.arr 0 c rows]):=by
   rw [Ved];simp only [Mem.add,Mem.set,denB,hnb,Mem.mk.injEq,true_and];funext b'; simp only [upd]; split<;>rfl
  rw [<- e]; exact hwk
 ·exact c3
theorem Vaua {t n:Nat} (h:tsz P t=some n):∃ i,P.info? t=some i/\i.size=n:=by
 unfold tsz at h;rw [Option.map_eq_some_iff] at h;exact h
theorem Vava (hC:CdOk C) (hY:TysOk P Y) (hm:MRel O I loc (denM C m) w) (hw:WfM L m) {t el:Nat} {j:TI} {z:T j.code} (ht:elemT Y t=some el) (hj:Y el=some j) (hz:zeroE C j=some z) (kl kc:IntKind) (n k:Int)
  (h1:0<=n) (h2:n<=k) (h3:(j.bts:Int) * k<=281474976710656) (h4:k<=9223372036854775807) :
  ResT C O I loc L w ((do pure (.value (<- Instr.makeSlice t (.int kl n) (.int kc k))):Sem Next).run P w) (.bw m.length 0 j.code n.toNat) (m++[.arr 0 j.code (List.replicate n.toNat z)]):=by
 obtain ⟨row,z1,z2,z3,z4,z5⟩:=Vee hC hY hj hz;obtain ⟨zv,q1,q2,q3,q4,q5,q6⟩:=Vdu z1 w;obtain ⟨i,hi,his⟩:=Vaua (hY el j hj).sz;have hib:i.bytes=j.bts:=by
  have:=(hY el j hj).bts;unfold tbytes at this;rw [hi] at this;simpa using this
 have hzero:i.zero=some zv:=by
  have:(zeroValue el).run P w = .ok zv w:=q1;unfold zeroValue typeInfo at this;cases hzz:i.zero with
  | none=>simp [hi,hzz] at this
  | some z0=>simp [hi,hzz] at this; rw [this]
 have hrun:=run_make (P:=P) w t el i zv (Vag (Vaw hY ht)) hi hzero kl kc n k h1 h2 (by rw [hib]; exact h3) h4;have hb:(do pure (.value (<- Instr.makeSlice t (.int kl n) (.int kc k))):Sem Next).run P w = .ok (.value (.slice (some ⟨w.heap.size,0,none⟩) n.toNat k.toNat)) (w.alloc (.cells (madeCells zv.cells (k.toNat * i.size)) el)):=by
  simp [hrun]
 rw [hb];obtain ⟨hc1,hc2⟩:=Vbj (I:=I) (w:=w) (loc:=free) (ofV_V zv) q5;have hflat:∀ n,VL I w (List.replicate n row).flatten free (List.replicate n zv.cells.toList).flatten:=by
  intro n;induction n with
  | zero=>simp [VL]
  | succ n ih=>simp only [List.replicate_succ,List.flatten_cons]; rw [q2]; exact Var hc1 (by rw [q2] at ih; exact ih)
 have hone:∀ n,∀ x∈(List.replicate n zv.cells.toList).flatten,x.oneCell'=true:=by
  intro n x hx;rw [List.mem_flatten] at hx;obtain ⟨l,hl,hx⟩:=hx;rw [List.eq_of_mem_replicate hl] at hx;exact hc2 x hx
 have hmade:madeCells zv.cells (k.toNat * i.size)=((List.replicate n.toNat zv.cells.toList).flatten++(List.replicate (k.toNat - n.toNat) zv.cells.toList).flatten).toArray:=by
  rw [<- List.flatten_append,List.replicate_append_replicate];have e:n.toNat+(k.toNat - n.toNat)=k.toNat:=by omega
  rw [e,his];unfold madeCells;apply Array.ext';have:=Vga zv.cells.toList k.toNat
  simp only [Array.length_toList,q6,Array.toArray_toList] at this;simpa [Array.toList_range,q6] using this
 rw [hmade];have hlen:∀ n,((List.replicate n zv.cells.toList).flatten).length=n * C.sz j.code:=by
  intro n;rw [List.length_flatten]; simp [List.map_replicate,List.sum_replicate_nat,q6,z5]
 refine Vho hm hw (Rw.rep n.toNat z2 z3 z4) (by simp) ?_;refine Vj0 hm (s:=C.sz j.code) (n:=n.toNat) (cap:=k.toNat) (rows:=List.replicate n.toNat row) el (0,0) (λr hr=>by rw [List.eq_of_mem_replicate hr]; exact z2) (hflat _) (hone _) _ (unfz0 _) ?_ (by omega);rw [List.length_append,hlen,hlen,<- Nat.add_mul];congr 1; omega
theorem Vxa (hC:CdOk C) (hY:TysOk P Y) (hm:MRel O I loc (denM C m) w) (hw:WfM L m) {src dst el:Nat} (hs:isStr Y src=true) (hd:elemT Y dst=some el) (hu:isU8 Y el=true) (l:List UInt8) :
  ResT C O I loc L w ((do pure (.value (<- convert src dst (.string ⟨l.toArray⟩))):Sem Next).run P w) (.bw m.length 0 C.bt l.length) (m++[.arr 0 C.bt (castT C l)]):=by
 have hint:tint P el=some .u8:=by
  unfold isU8 at hu;split at hu
  ·rename_i i hi;split at hu
   ·rename_i hk; exact (hY el i hi).int _ hk
   ·cases hu
  ·cases hu
 have hrun:=run_bytes_of_string (P:=P) w src dst el ⟨l.toArray⟩ (Vcf (Vc9 hY hs)) (Vag (Vaw hY hd)) (Vep hint);rw [Vc4] at hrun;rw [Sem.run_bind,hrun,Result.andThen_ok,Sem.run_pure];let cap:=grownCap w l.length 0 el;have hcl:l.length<=cap:=by
  show l.length<=(Question.appendCap l.length 0 el).cut _;simp [Question.cut]
 have hrow:bytesRow ⟨l.toArray⟩ cap=((l.map λ(b:UInt8)=>Value.int .u8 b.toNat)++List.replicate (cap - l.length) (Value.int .u8 0)).toArray:=by
  unfold bytesRow;apply Array.ext';simp [Vc4]
 have hm2:MRel O I loc (denM C m) w.drew:=MRel.of_heap (w:=w) rfl hm;have hv:VL I w.drew (bytesD l).flatten free (l.map λ(b:UInt8)=>Value.int .u8 b.toNat):=by
  clear hrun hrow hcl;unfold bytesD;induction l with
  | nil=>simp [VL]
  | cons b r ih=>simp only [List.map_cons,List.flatten_cons,List.cons_append,List.nil_append,VL]; exact ⟨_,_,rfl,by simp [V],ih⟩
 have hrw:Rw C C.bt (bytesD l) (castT C l):=by
  have e:=Ve8 hC l;refine ⟨by rw [<- e]; simp,λi row x hi hx=>?_⟩;rw [<- e,List.getElem?_map,hx] at hi;simp only [Option.map_some,Option.some.injEq] at hi;subst hi;refine ⟨hC.len _ _,?_,.refl _⟩;rw [<- hC.enc]; exact Vca C _ (hC.epure _ _)
 have hlen:(castT C l).length=l.length:=by
  have:=congrArg List.length (Ve8 hC l);simpa [bytesD] using this
 show ResT C O I loc L w (.ok (.value (.slice (some ⟨w.heap.size,0,none⟩) l.length cap)) (w.drew.alloc (.cells (bytesRow ⟨l.toArray⟩ cap) el ((bytesRow ⟨l.toArray⟩ cap).size,(bytesRow ⟨l.toArray⟩ cap).size+1)))) _ _;rw [hrow];refine Vho hm hw hrw hlen ?_;rw [hC.bsz];refine Res.from (w1:=w.drew) rfl rfl rfl rfl ?_;have:=Vj0 hm2 (s:=1) (n:=l.length) (cap:=cap) (rows:=bytesD l) el ((List.toArray ((l.map λ(b:UInt8)=>Value.int .u8 b.toNat)++List.replicate (cap - l.length) (Value.int .u8 0))).size,(List.toArray ((l.map λ(b:UInt8)=>Value.int .u8 b.toNat)++List.replicate (cap - l.length) (Value.int .u8 0))).size+1) (λr hr=>by
  unfold bytesD at hr;rw [List.mem_map] at hr;obtain ⟨b,_,rfl⟩:=hr; rfl) hv (λx hx=>by
   rw [List.mem_map] at hx;obtain ⟨b,_,rfl⟩:=hx; rfl) (List.replicate (cap - l.length) (Value.int .u8 0)) (⟨Nat.le_succ _,λo ho=>by simp at ho |-; omega⟩) (by simp; omega) hcl
 rw [show w.drew.heap.size=w.heap.size from rfl] at this;exact this
theorem Vut (hm:MRel O I loc (denM C m) w) (hw:WfM L m) {b g c n:Nat} {l:List (T c)} (hb:b < m.length) (hf:loc b (g+1) = .free) (hl:l.length=n):WfM (updL L b (g+1) n) (m.put b (.arr (g+1) c l)):=λb'=>by
 rw [Va9 hb];split
 ·rename_i e; subst e; simp [WfB,updL,hl]
 ·rcases Nat.lt_or_ge b' m.length with h | h
  ·exact Vml hm (LExt.upd hf) hw b' h
  ·rw [Vjt h]; trivial
theorem Vuu (hC:CdOk C) (hY:TysOk P Y) (hm:MRel O I loc (denM C m) w) (hw:WfM L m) {t t' ty el:Nat} {j:TI} {z:T j.code} (ht:elemT Y t=some el) (hj:Y el=some j) (hz:zeroE C j=some z)
  {s:DT T} {u x:Value} (hws:WfD L s) (hs:V I w (den C s) loc u) {rows:List (T j.code)} (hsrc:∃ vs,More P I w t t' ty el (C.sz j.code) j.bts (rows.map (C.encD j.code)) vs x) {K:DT T->MT T->Option R} {r:R} (h:appK m j.bts j.code s rows K=some r) :
  ∃ d m',ResT C O I loc L w ((do pure (.value (<- Builtin.append_ #[t,t'] ty #[u,x])):Sem Next).run P w) d m'/\K d m'=some r:=by
 obtain ⟨row,z1,z2,z3,z4,z5⟩:=Vee hC hY hj hz;have z1':=z1;rw [z5] at z1';have hsz:=(hY el j hj).sz;have hby:=(hY el j hj).bts;have hel:=Vaw hY ht;let more:Nat->Option (List (List D)):=λsz=>if sz=C.sz j.code then some (rows.map (C.encD j.code)) else none
 have hmore:∀ el' sz by' z' rows',telem P t=some el'->tsz P el'=some sz->tbytes P el'=some by'->zrow P el' sz=some z'->more sz=some rows'->∃ vs,More P I w t t' ty el' sz by' rows' vs x:=by
  intro el' sz by' z' rows' q1 q2 q3 q4 hq
  rw [hel] at q1; cases q1;rw [hby] at q3; cases q3;simp only [more] at hq;split at hq
  ·rename_i e; subst e;simp only [Option.some.injEq] at hq; subst hq; exact hsrc
  ·cases hq
 have key:∀ {d:D} {M':Mem},appendW P (denM C m) t (den C s) more=some (d,M')->Res O I loc w ((do pure (.value (<- Builtin.append_ #[t,t'] ty #[u,x])):Sem Next).run P w) d M':=λhq=>Vmd (ty:=ty) hm hs hmore hq;unfold appK at h;split at h
 ·cases hsm:small rows.length j.bts<;>simp only [hsm,cond_true,cond_false] at h
  ·cases h
  refine ⟨_,_,?_,h⟩;have hq:appendW P (denM C m) t (den C (.nils:DT T)) more=some (.bs (denM C m).nb 0 j.sz 0 rows.length,(denM C m).add (.arr 0 j.sz (rows.map (C.encD j.code)))):=by
   simp only [appendW,hel,hsz,hby,z1',more,z5,if_true,den,List.length_map,hsm]
  refine (key hq).elim λv hv=>?_;obtain ⟨w',loc',c1,c2,c3,c4,c5,c6⟩:=hv;refine ⟨v,w',I,loc',updL L m.length 0 rows.length,c1,?_,Ve7 hm hw (by simp [WfB,updL]),?_,by simp [WfD,updL],c4,λ_ h=>.inl h,c5,LExt.upd (hm.free _ _ (Nat.le_refl _)),c6⟩
  ·rw [Ved]; simp only [denB]; rw [<- z5]; exact c2
  ·simp only [den]; rw [<- z5]; exact c3
 ·rename_i b g c' n;split at h
  case h_2=>cases h
  rename_i hc;have hc:=Nat.eq_of_beq_eq_true hc;subst hc;split at h
  case h_2=>cases h
  rename_i l hl;have hb:=Vba hl;have hlt:b < m.length:=by
   simp only [den,V] at hs;exact Va5 (C:=C) (g:=g) hm (by intro e; simp [e] at hs)
  have hwb:=hw b;rw [hb] at hwb;simp only [WfB] at hwb;simp only [WfD] at hws;have hn:n=l.length:=by rw [<- hws,hwb]
  have hbx:(denM C m).bx b = .arr g j.sz (l.map (C.encD j.code)):=by simp [denM,hb,denB,z5]
  cases hsm:small (l.length+rows.length) j.bts<;>simp only [hsm,cond_true,cond_false] at h
  ·cases h
  refine ⟨_,_,?_,h⟩;have hq:appendW P (denM C m) t (den C (.bw b g j.code n:DT T)) more=some (.bs b (g+1) j.sz 0 (n+rows.length),(denM C m).set b (.arr (g+1) j.sz ((l.map (C.encD j.code)).take n++rows.map (C.encD j.code)))):=by
   simp only [appendW,hel,hsz,hby,z1',more,z5,if_true,den,List.length_map,hbx,true_and];rw [if_pos ⟨by omega,by rw [hn]; exact hsm⟩]
  have hfree:loc b (g+1) = .free:=by
   have:=hm.box b hlt;rw [hbx] at this;simp only [RelB] at this;exact this.1.2 (g+1) (by omega)
  have hrows:(l.map (C.encD j.code)).take n++rows.map (C.encD j.code)=(l++rows).map (C.encD j.code):=by
   have:n=(l.map (C.encD j.code)).length:=by simp [hn]
   rw [this,List.take_length,List.map_append]
  obtain ⟨v,w',loc',c1,c2,c3,c4,c5,c6⟩:=key hq;refine ⟨v,w',I,loc',updL L b (g+1) (l++rows).length,c1,?_,Vut hm hw hlt hfree rfl,?_,by simp [WfD,updL],c4,λ_ h=>.inl h,c5,LExt.upd hfree,c6⟩
  ·rw [Vb9 hlt]; simp only [denB]; rw [<- z5,<- hrows]; exact c2
  ·simp only [den]; rw [<- z5,List.length_append,<- hn]; exact c3
 ·rename_i b g c' n;split at h
  case h_2=>cases h
  rename_i hc;have hc:=Nat.eq_of_beq_eq_true hc;subst hc;split at h
  case h_2=>cases h
  rename_i l hl;have hb:=Vba hl;have hlt:b < m.length:=by
   simp only [den,V] at hs;exact Va5 (C:=C) (g:=g) hm (by intro e; simp [e] at hs)
  have hbx:(denM C m).bx b = .arr g j.sz (l.map (C.encD j.code)):=by simp [denM,hb,denB,z5]
  cases hsm:(decide (n<=l.length)&&small (n+rows.length) j.bts)<;>simp only [hsm,cond_true,cond_false] at h
  ·cases h
  simp only [Bool.and_eq_true,decide_eq_true_eq] at hsm;refine ⟨_,_,?_,h⟩;have hq:appendW P (denM C m) t (den C (.bs b g j.code 0 n:DT T)) more=some (.bs b (g+1) j.sz 0 (n+rows.length),(denM C m).set b (.arr (g+1) j.sz ((l.map (C.encD j.code)).take n++rows.map (C.encD j.code)))):=by
   simp only [appendW,hel,hsz,hby,z1',more,z5,if_true,den,List.length_map,hbx,true_and];rw [if_pos ⟨hsm.1,hsm.2⟩]
  have hfree:loc b (g+1) = .free:=by
   have:=hm.box b hlt;rw [hbx] at this;simp only [RelB] at this;exact this.1.2 (g+1) (by omega)
  have hrows:(l.map (C.encD j.code)).take n++rows.map (C.encD j.code)=(l.take n++rows).map (C.encD j.code):=by
   rw [List.map_append,List.map_take]
  have hlen:(l.take n++rows).length=n+rows.length:=by rw [List.length_append,List.length_take,Nat.min_eq_left hsm.1]
  obtain ⟨v,w',loc',c1,c2,c3,c4,c5,c6⟩:=key hq;refine ⟨v,w',I,loc',updL L b (g+1) (l.take n++rows).length,c1,?_,Vut hm hw hlt hfree rfl,?_,by simp [WfD,updL],c4,λ_ h=>.inl h,c5,LExt.upd hfree,c6⟩
  ·rw [Vb9 hlt]; simp only [denB]; rw [<- z5,<- hrows]; exact c2
  ·simp only [den]; rw [<- z5,hlen]; exact c3
 ·cases h
theorem Vyx (hC:CdOk C) (hY:TysOk P Y) (hm:MRel O I loc (denM C m) w) (hw:WfM L m) {t t' ty el:Nat} {dsc:TypeDesc} {j:TI} {z:T j.code} (ht:elemT Y t=some el) (hj:Y el=some j) (hz:zeroE C j=some z) (ht':P.underlying t'=some dsc) (hni:dsc = .string\/∃ e,dsc = .slice e)
  {s:DT T} {u x:Value} (hws:WfD L s) (hs:V I w (den C s) loc u) {rows:List (T j.code)} (hsrc:∃ vs,Src P I w (C.sz j.code) (rows.map (C.encD j.code)) vs x) {K:DT T->MT T->Option R} {r:R} (h:appK m j.bts j.code s rows K=some r) :
  ∃ d m',ResT C O I loc L w ((do pure (.value (<- Builtin.append_ #[t,t'] ty #[u,x])):Sem Next).run P w) d m'/\K d m'=some r:=by
 obtain ⟨row,z1,z2,z3,z4,z5⟩:=Vee hC hY hj hz;exact Vuu hC hY hm hw ht hj hz hws hs (hsrc.imp λvs hx=>Vwq (Vaw hY ht) ht' hni (by rw [<- z5]; exact (hY el j hj).sz) (hY el j hj).bts (by rw [<- z5]; exact z1) hx) h
end
section
variable {P:Program} {O I:Nat->Prop} {w:World} {loc:Nat->Nat->Loc} {m:Mem}
theorem Mem.set_self {b:Nat} {x:Box} (h:m.bx b=x):m.set b x=m:=by
 unfold Mem.set;cases m with
 | mk nb bx=>
  congr 1;funext q;unfold upd;split
  ·rename_i e; subst e; exact h.symm
  ·rfl
theorem Vd1 {dT sT ty el:TypeId} {s n cap k:Nat} {a:Option Addr} {vs:List Value} {x:Value} {w':World} (ht:telem P dT=some el) (hsz:tsz P el=some s) (hlen:Builtin.lenOf x=pure k) (hk:k<=n)
  (hfirst:(Builtin.firstCells s k x).run P w = .ok vs.toArray w) (hst:(match a with | some a=>storeCells a vs | none=>pure ():Sem Unit).run P w = .ok () w') :
  (Builtin.copy_ #[dT,sT] ty #[.slice a n cap,x]).run P w = .ok (goInt k) w':=by
 have hmin:Nat.min k n=k:=Nat.min_eq_left hk;cases a with
 | none=>
  simp only [Sem.run_pure,Result.ok.injEq,true_and] at hst;subst hst;simp [Builtin.copy_,run_underlying (Vag ht),hlen,run_sizeOf' hsz,hmin,hfirst]
 | some a=>
  simp only at hst;simp [Builtin.copy_,run_underlying (Vag ht),hlen,run_sizeOf' hsz,hmin,hfirst,hst]
theorem Vlm (hm:MRel O I loc m w) {dT sT ty el:TypeId} {b g s n:Nat} {rows rows':List (List D)} {vs:List Value} {u x:Value} (ht:telem P dT=some el) (hsz:tsz P el=some s) (hx:V I w (.bs b g s 0 n) loc u) (hbx:m.bx b = .arr g s rows) (hn:rows.length=n) (hsrc:Src P I w s rows' vs x) (hle:rows'.length<=n) :
  ∃ w',(Builtin.copy_ #[dT,sT] ty #[u,x]).run P w = .ok (goInt rows'.length) w'/\MRel O I loc (m.set b (.arr g s (rows'++rows.drop rows'.length))) w'/\Ext I I w w'/\Fr O w w':=by
 have hx0:=hx;simp only [V] at hx;have hlt:b < m.nb:=lt_nb (g:=g) hm (by intro e; simp [e] at hx);have hb:=hm.box b hlt;rw [hbx] at hb; simp only [RelB] at hb;obtain ⟨h0,hb⟩:=hb;have hvl:vs.length=rows'.length * s:=by rw [Vac hsrc.vl,Vad rows' hsrc.row]
 by_cases hz:rows'.length=0
 ·have e:rows'=[]:=List.length_eq_zero_iff.1 hz;subst e;have hv0:vs=[]:=by
   have:vs.length=0:=by rw [hvl]; simp
   exact List.length_eq_zero_iff.1 this
  subst hv0;have hu:∃ a cap,u = .slice a n cap:=by
   rcases hb with ⟨hl,rfl⟩ | ⟨k,c,el,fz,hl,_⟩
   ·simp only [hl] at hx;obtain ⟨hq,rfl,rfl⟩:=hx;exact ⟨none,0,rfl⟩
   ·simp only [hl] at hx;obtain ⟨o,cap,rfl,_⟩:=hx;exact ⟨_,_,rfl⟩
  obtain ⟨a,cap,rfl⟩:=hu;refine ⟨w,Vd1 ht hsz hsrc.len hle (hsrc.first w rfl) (by cases a<;>rfl),?_,.refl _ _,.refl _ _⟩;rw [List.nil_append,List.length_nil,List.drop_zero,Mem.set_self hbx];exact hm
 ·rcases hb with ⟨_,rfl⟩ | ⟨k,c,el',fz,hl,hw,hu,hrc,hv⟩
  ·simp at hn; omega
  simp only [hl] at hx;obtain ⟨o,cap,rfl,hnc,ho,_⟩:=hx;have ho0:o=0:=by
   rcases ho with ho | ho
   ·omega
   ·simpa using ho
  subst ho0;have hmul:rows'.length * s<=rows.length * s:=Nat.mul_le_mul_right s (by omega);have hfit:0+0+vs.length<=c.size:=by omega
  have hrun:=Vak (P:=P) k 0 el' fz vs 0 c w hw hu hfit hsrc.one;simp only [Nat.add_zero,Nat.zero_add,List.take_zero,List.nil_append] at hrun;let l':=vs++c.toList.drop vs.length;have hl':l'.length=c.size:=by simp [l']; omega
  have he:=Vbv (hm.own b g k hlt (by rw [hbx]; rfl) hl).2.1 hw (c':=l'.toArray) (by simp [hl']);have hcell:∀ j,(w.setRow k l'.toArray).cell? ⟨k,j,none⟩=if j < vs.length then vs[j]? else c[j]?:=by
   intro j;rw [cell_setRow_same w k j c l'.toArray el' fz hw];by_cases hj:j < vs.length
   ·rw [if_pos hj];simp [l',List.getElem?_append_left hj]
   ·rw [if_neg hj];simp only [l',List.getElem?_toArray];rw [List.getElem?_append_right (by omega),List.getElem?_drop,show vs.length+(j - vs.length)=j by omega];simp
  have hold:∀ j,w.cell? ⟨k,j,none⟩=c[j]?:=λj=>by simp [World.cell?,hw]
  have hnew:VR I (w.setRow k l'.toArray) s rows' k 0:=Va6 hsrc.row (Vaf he _ free free _ (.refl _) hsrc.vl) hsrc.one λj z hj=>by
   have hjl:j < vs.length:=(List.getElem?_eq_some_iff.1 hj).1;rw [hcell,Nat.zero_add,if_pos hjl];exact hj
  have hst:=hm.store (x:=.arr g s (rows'++rows.drop rows'.length)) (c':=l'.toArray) hlt (by rw [hbx]; rfl) hl hw (by simp [hl']) (by
   simp only [RelB];refine ⟨h0,.inr ⟨k,l'.toArray,el',fz,hl,setRow_heap w k c _ el' fz hw,by simpa [hl'] using hu,?_,?_⟩⟩
   ·have:(rows'++rows.drop rows'.length).length=rows.length:=by rw [List.length_append,List.length_drop]; omega
    rw [this];simpa [hl'] using hrc
   rw [Vg9];intro j x hj;by_cases hjl:j < rows'.length
   ·rw [List.getElem?_append_left hjl] at hj;exact Vde hnew hj
   ·rw [List.getElem?_append_right (by omega),List.getElem?_drop,show rows'.length+(j - rows'.length)=j by omega] at hj;have hx:=Vde hv hj;refine ⟨hx.1,Vd8 he (λq hq=>?_) hx.2⟩;have:rows'.length * s<=j * s:=Nat.mul_le_mul_right s (by omega);rw [hcell,hold,if_neg (by omega)])
  exact ⟨w.setRow k l'.toArray,Vd1 ht hsz hsrc.len hle (hsrc.first w rfl) hrun,hst.1,hst.2.1,hst.2.2⟩
theorem Vxb {k n cap:Nat} {c:Array Value} {el:TypeId} {lo hi:Nat} (hw:w.heap[k]? = some (.cells c el (lo,hi))) (t e:TypeId) (ht:P.underlying t=some (.slice e)) (he:P.underlying e=some (.int .u8)) :
  (convert t t (.slice (some ⟨k,0,none⟩) n cap)).run P w = .ok (.slice (some ⟨k,0,none⟩) n cap) (w.freeze ⟨k,c.size,none⟩ 1):=by
 have hsh:w.shape? k=some (el,c.size):=by unfold World.shape?; rw [hw]
 simp [convert,run_underlying ht,run_underlying he,markStringish,hsh]
theorem Vmm {k q:Nat} {c:Array Value} {el:TypeId} {lo hi:Nat} (hw:w.heap[k]? = some (.cells c el (lo,hi))):(w.freeze ⟨k,q,none⟩ 1).heap[k]? = some (.cells c el (if lo == hi then (q,q+1) else (min lo q,max hi (q+1)))):=by
 obtain ⟨hlt,hk⟩:=Array.getElem?_eq_some_iff.1 hw;unfold World.freeze;rw [if_neg (by decide)];show (w.heap.modify k _)[k]? = _;rw [Array.getElem?_eq_getElem (by rw [Array.size_modify]; exact hlt),Array.getElem_modify_self,hk]
theorem Vcs {k q j:Nat} (h:j≠k):(w.freeze ⟨k,q,none⟩ 1).heap[j]? = w.heap[j]?:=by
 unfold World.freeze;rw [if_neg (by decide)];show (w.heap.modify k _)[j]? = _;rw [Array.getElem?_modify];simp [Ne.symm h]
theorem Vawa (hm:MRel O I loc m w) {b g s n:Nat} {rows:List (List D)} {u:Value} (t e:TypeId) (ht:P.underlying t=some (.slice e)) (he:P.underlying e=some (.int .u8)) (hx:V I w (.bs b g s 0 n) loc u) (hbx:m.bx b = .arr g s rows) (hne:rows≠[]) (hn:n=rows.length) :
  ∃ w',(convert t t u).run P w = .ok u w'/\MRel O I loc (m.set b (.arr g s rows)) w'/\Ext I I w w'/\Fr O w w':=by
 simp only [V] at hx;have hlt:b < m.nb:=lt_nb (g:=g) hm (by intro e; simp [e] at hx);have hb:=hm.box b hlt;rw [hbx] at hb;simp only [RelB] at hb;obtain ⟨h0,hb⟩:=hb;rcases hb with ⟨_,hr⟩ | ⟨k,c,el,⟨lo,hi⟩,hl,hw,hu,hrc,hv⟩
 ·exact absurd hr hne
 simp only [hl] at hx;obtain ⟨o,cap,rfl,hnc,ho,hcap⟩:=hx;have hpos:0 < rows.length:=List.length_pos_iff.2 hne;have ho0:o=0:=by
  rcases ho with ho | ho
  ·omega
  ·simpa using ho
 subst ho0;have hI:=(hm.own b g k hlt (by rw [hbx]; rfl) hl);have hsz:(w.freeze ⟨k,c.size,none⟩ 1).heap.size=w.heap.size:=by unfold World.freeze; rw [if_neg (by decide)]; exact Array.size_modify
 have hself:=Vmm (q:=c.size) hw;have he':Ext I I w (w.freeze ⟨k,c.size,none⟩ 1):=by
  refine ⟨λ_ h=>h,λj hj=>Vcs (λe=>hI.2.1 (e ▸ hj)),λj=>?_⟩;by_cases e:j=k
  ·subst e; simp [rowSize,hw,hself]
  ·simp [rowSize,Vcs e]
 have hfr:Fr O w (w.freeze ⟨k,c.size,none⟩ 1):=by
  refine ⟨?_,?_,?_,by omega,λj _ hj=>Vcs (λe=>hj (e ▸ hI.1))⟩<;>(unfold World.freeze; rw [if_neg (by decide)])
 refine ⟨_,Vxb hw t e ht he,?_,he',hfr⟩;refine hm.change hlt (by rw [hbx]; rfl) (λ_ _ _=>rfl) he' (.refl _) ?_ (λg' k' hk'=>?_) (λk' _ hk'=>Vcs (λe=>hk' g (e ▸ hl))) (by omega)
 ·simp only [RelB];refine ⟨h0,.inr ⟨k,c,el,_,hl,hself,?_,hrc,?_⟩⟩
  ·obtain ⟨u1,u2⟩:=hu;dsimp only at u1 u2;by_cases hq:lo=hi
   ·subst hq;simp only [beq_self_eq_true,if_true];exact ⟨Nat.le_succ _,λq hq=>by dsimp only; omega⟩
   ·have hb':(lo == hi)=false:=by simpa using hq
    simp only [hb',Bool.false_eq_true,if_false];have hlo:c.size<=lo:=by
     rcases Nat.lt_or_ge lo c.size with h | h
     ·exact absurd ⟨Nat.le_refl _,by omega⟩ (u2 lo h)
     ·exact h
    exact ⟨by dsimp only; omega,λq hq=>by dsimp only; omega⟩
  ·rw [Vg9] at hv |-;intro j x hj;have:=hv j x hj;refine ⟨this.1,Vd8 he' (λq _=>?_) this.2⟩;simp [World.cell?,hw,hself]
 ·have:=hm.own b g' k' hlt (by rw [hbx]; rfl) hk';exact ⟨this.1,this.2.1,by omega,λb' hb' h1 h2 g2 hg2=>hb' (hm.inj b' b g2 g' k' h1 hlt h2 (by rw [hbx]; rfl) hg2 hk')⟩
theorem Vmn (hm:MRel O I loc m w) {dT sT ty el:TypeId} {b g s i n:Nat} {rows rows':List (List D)} {vs:List Value} {u x:Value} (ht:telem P dT=some el) (hsz:tsz P el=some s) (hx:V I w (.bs b g s i n) loc u) (hbx:m.bx b = .arr g s rows) (hn:i+n<=rows.length) (hsrc:Src P I w s rows' vs x) (hle:rows'.length<=n) (hpos:0 < rows'.length) :
  ∃ w',(Builtin.copy_ #[dT,sT] ty #[u,x]).run P w = .ok (goInt rows'.length) w'/\MRel O I loc (m.set b (.arr g s (rows.take i++(rows'++rows.drop (i+rows'.length))))) w'/\Ext I I w w'/\Fr O w w':=by
 simp only [V] at hx;have hlt:b < m.nb:=lt_nb (g:=g) hm (by intro e; simp [e] at hx);have hb:=hm.box b hlt;rw [hbx] at hb; simp only [RelB] at hb;obtain ⟨h0,hb⟩:=hb;have hvl:vs.length=rows'.length * s:=by rw [Vac hsrc.vl,Vad rows' hsrc.row]
 rcases hb with ⟨_,rfl⟩ | ⟨k,c,el',fz,hl,hw,hu,hrc,hv⟩
 ·simp at hn; omega
 simp only [hl] at hx;obtain ⟨o,cap,rfl,hnc,ho,_⟩:=hx;have ho0:o=i * s:=by
  rcases ho with ho | ho
  ·omega
  ·exact ho
 subst ho0;have hmul:i * s+rows'.length * s<=rows.length * s:=by rw [<- Nat.add_mul]; exact Nat.mul_le_mul_right s (by omega)
 have hfit:i * s+0+vs.length<=c.size:=by omega
 have hrun:=Vak (P:=P) k (i * s) el' fz vs 0 c w hw hu hfit hsrc.one;simp only [Nat.add_zero] at hrun;let l':=c.toList.take (i * s)++vs++c.toList.drop (i * s+vs.length);have hl':l'.length=c.size:=by simp [l']; omega
 have he:=Vbv (hm.own b g k hlt (by rw [hbx]; rfl) hl).2.1 hw (c':=l'.toArray) (by simp [hl']);have hcell:∀ j,(w.setRow k l'.toArray).cell? ⟨k,j,none⟩=if j < i * s then c[j]? else if j < i * s+vs.length then vs[j - i * s]? else c[j]?:=by
  intro j;rw [cell_setRow_same w k j c l'.toArray el' fz hw];have hti:(c.toList.take (i * s)).length=i * s:=by simp; omega
  by_cases h1:j < i * s
  ·rw [if_pos h1];simp only [l',List.getElem?_toArray];rw [List.append_assoc,List.getElem?_append_left (by omega),List.getElem?_take_of_lt h1];simp
  ·rw [if_neg h1];simp only [l',List.getElem?_toArray];by_cases h2:j < i * s+vs.length
   ·rw [if_pos h2,List.append_assoc,List.getElem?_append_right (by omega),hti,List.getElem?_append_left (by omega)]
   ·rw [if_neg h2,List.getElem?_append_right (by rw [List.length_append,hti]; omega),List.length_append,hti,List.getElem?_drop,show i * s+vs.length+(j - (i * s+vs.length))=j by omega];simp
 have hold:∀ j,w.cell? ⟨k,j,none⟩=c[j]?:=λj=>by simp [World.cell?,hw]
 have hnew:VR I (w.setRow k l'.toArray) s rows' k (i * s):=Va6 hsrc.row (Vaf he _ free free _ (.refl _) hsrc.vl) hsrc.one λj z hj=>by
  have hjl:j < vs.length:=(List.getElem?_eq_some_iff.1 hj).1;rw [hcell,if_neg (by omega),if_pos (by omega),show i * s+j - i * s=j by omega];exact hj
 have hti:(rows.take i).length=i:=by rw [List.length_take]; omega
 have hst:=hm.store (x:=.arr g s (rows.take i++(rows'++rows.drop (i+rows'.length)))) (c':=l'.toArray) hlt (by rw [hbx]; rfl) hl hw (by simp [hl']) (by
  simp only [RelB];refine ⟨h0,.inr ⟨k,l'.toArray,el',fz,hl,setRow_heap w k c _ el' fz hw,by simpa [hl'] using hu,?_,?_⟩⟩
  ·have:(rows.take i++(rows'++rows.drop (i+rows'.length))).length=rows.length:=by rw [List.length_append,List.length_append,hti,List.length_drop]; omega
   rw [this];simpa [hl'] using hrc
  rw [Vg9];intro j x hj;by_cases h1:j < i
  ·rw [List.getElem?_append_left (by omega),List.getElem?_take_of_lt h1] at hj;have hx:=Vde hv hj;refine ⟨hx.1,Vd8 he (λq hq=>?_) hx.2⟩;have:j * s+s<=i * s:=by rw [<- Nat.succ_mul]; exact Nat.mul_le_mul_right s (by omega)
   rw [hcell,hold,if_pos (by omega)]
  ·rw [List.getElem?_append_right (by omega),hti] at hj;by_cases h2:j - i < rows'.length
   ·rw [List.getElem?_append_left h2] at hj;have:=Vde hnew hj;rw [show 0+j * s=i * s+(j - i) * s by rw [<- Nat.add_mul,show i+(j - i)=j by omega,Nat.zero_add]];exact this
   ·rw [List.getElem?_append_right (by omega),List.getElem?_drop,show i+rows'.length+(j - i - rows'.length)=j by omega] at hj;have hx:=Vde hv hj;refine ⟨hx.1,Vd8 he (λq hq=>?_) hx.2⟩;have:(i+rows'.length) * s<=j * s:=Nat.mul_le_mul_right s (by omega);rw [Nat.add_mul] at this;rw [hcell,hold,if_neg (by omega),if_neg (by omega)])
 exact ⟨w.setRow k l'.toArray,Vd1 ht hsz hsrc.len hle (hsrc.first w rfl) hrun,hst.1,hst.2.1,hst.2.2⟩
end
section
variable {T:Nat->Type} {C:Cd T} {P:Program} {O I:Nat->Prop} {w:World} {loc:Nat->Nat->Loc} {L:Nat->Nat->Nat} {m:MT T} {Y:Nat->Option TI} {R:Type}
theorem Vnx (hC:CdOk C) (hY:TysOk P Y) (hm:MRel O I loc (denM C m) w) (hw:WfM L m) {t t' ty el c:Nat} (ht:elemT Y t=some el) (hc:elemC Y C t c=true)
  {b g n:Nat} {u x:Value} (hws:WfD (T:=T) L (.bw b g c n)) (hs:V I w (den C (.bw b g c n:DT T)) loc u) {rows:List (T c)} (hsrc:∃ vs,Src P I w (C.sz c) (rows.map (C.encD c)) vs x) {K:DT T->MT T->Option R} {r:R} (h:copyK m b g c rows K=some r) :
  ∃ d m',ResT C O I loc L w ((do pure (.value (<- Builtin.copy_ #[t,t'] ty #[u,x])):Sem Next).run P w) d m'/\K d m'=some r:=by
 obtain ⟨e,h1,h2⟩:=Vb8 hY hc;unfold copyK at h;split at h
 case h_2=>cases h
 rename_i l hl;cases hle:decide (rows.length<=l.length)<;>simp only [hle,cond_true,cond_false] at h
 ·cases h
 simp only [decide_eq_true_eq] at hle;have hb:=Vba hl;have hlt:b < m.length:=by
  simp only [den,V] at hs;exact Va5 (C:=C) (g:=g) hm (by intro e; simp [e] at hs)
 have hwb:=hw b;rw [hb] at hwb;simp only [WfB] at hwb;simp only [WfD] at hws;have hn:n=l.length:=by rw [<- hws,hwb]
 have hbx:(denM C m).bx b = .arr g (C.sz c) (l.map (C.encD c)):=by simp [denM,hb,denB]
 obtain ⟨vs,hsrc⟩:=hsrc;obtain ⟨w',q1,q2,q3,q4⟩:=Vlm (ty:=ty) (sT:=t') hm h1 h2 hs hbx (by rw [List.length_map,hn]) hsrc (by rw [List.length_map]; omega);refine ⟨_,_,?_,h⟩;have hlen:(rows++l.drop rows.length).length=l.length:=by rw [List.length_append,List.length_drop]; omega
 have hrows:rows.map (C.encD c)++(l.map (C.encD c)).drop (rows.map (C.encD c)).length=(rows++l.drop rows.length).map (C.encD c):=by
  rw [List.map_append,List.map_drop,List.length_map]
 rw [hrows] at q2;rw [Sem.run_bind,q1,Result.andThen_ok,Sem.run_pure,List.length_map];refine ⟨goInt rows.length,w',I,loc,L,.inl rfl,?_,?_,?_,trivial,q3,λ_ h=>.inl h,.refl _,LExt.refl _ _,q4⟩
 ·rw [Vb9 hlt]; simp only [denB]; exact q2
 ·intro b';rw [Va9 hlt];split
  ·rename_i e; subst e; simp only [WfB]; rw [hlen,<- hwb]
  ·exact hw b'
 ·simp only [den,V,goInt]
theorem Vxc (hC:CdOk C) (hY:TysOk P Y) (hm:MRel O I loc (denM C m) w) (hw:WfM L m) {src dst:Nat} {d:DT T} {u:Value} (hd:WfD (T:=T) L d) (hs:V I w (den C d) loc u) {K:DT T->MT T->Option R} {r:R} (h:sameK Y C m src dst d K=some r) :
  ∃ d' m',ResT C O I loc L w ((do pure (.value (<- convert src dst u)):Sem Next).run P w) d' m'/\K d' m'=some r:=by
 unfold sameK at h;split at h
 case h_2=>cases h
 rename_i hsd;have hsd:=Nat.eq_of_beq_eq_true hsd;subst hsd;split at h
 case h_2=>cases h
 rename_i el hel;split at h
 case h_2=>cases h
 rename_i hu;split at h
 case h_2=>cases h
 rename_i b g c n;split at h
 case h_2=>cases h
 rename_i l hl;cases hq:l.isEmpty<;>simp only [hq,cond_true,cond_false] at h
 case true=>cases h
 have hne:l≠[]:=by intro e; subst e; cases hq
 have hint:tint P el=some .u8:=by
  unfold isU8 at hu;split at hu
  ·rename_i i hi;split at hu
   ·rename_i hk; exact (hY el i hi).int _ hk
   ·cases hu
  ·cases hu
 have hb:=Vba hl;have hlt:b < m.length:=by
  simp only [den,V] at hs;exact Va5 (C:=C) (g:=g) hm (by intro e; simp [e] at hs)
 have hwb:=hw b;rw [hb] at hwb;simp only [WfB] at hwb;simp only [WfD] at hd;have hn:n=l.length:=by rw [<- hd,hwb]
 have hbx:(denM C m).bx b = .arr g (C.sz c) (l.map (C.encD c)):=by simp [denM,hb,denB]
 obtain ⟨w',q1,q2,q3,q4⟩:=Vawa (P:=P) hm src el (Vag (Vaw hY hel)) (Vep hint) hs hbx (by simpa using hne) (by rw [List.length_map]; exact hn);refine ⟨_,_,?_,h⟩;rw [Sem.run_bind,q1,Result.andThen_ok,Sem.run_pure];have hself:(denM C m).set b (.arr g (C.sz c) (l.map (C.encD c)))=denM C m:=by
  unfold Mem.set;rw [<- hbx];have:upd (denM C m).bx b ((denM C m).bx b)=(denM C m).bx:=by funext b'; simp only [upd]; split<;>simp_all
  rw [this]
 rw [hself] at q2;exact ⟨u,w',I,loc,L,.inl rfl,q2,hw,Vaz q3 _ _ _ u (.refl _) hs,by simp only [WfD]; exact hd,q3,λ_ h=>.inl h,.refl _,LExt.refl _ _,q4⟩
theorem Vxd (hC:CdOk C) (hY:TysOk P Y) (hm:MRel O I loc (denM C m) w) (hw:WfM L m) {t t' ty el c:Nat} (ht:elemT Y t=some el) (hc:elemC Y C t c=true)
  {b g i n:Nat} {u x:Value} (hs:V I w (den C (.bs b g c i n:DT T)) loc u) {rows:List (T c)} (hsrc:∃ vs,Src P I w (C.sz c) (rows.map (C.encD c)) vs x) {K:DT T->MT T->Option R} {r:R} (h:copyA m b g c i n rows K=some r) :
  ∃ d m',ResT C O I loc L w ((do pure (.value (<- Builtin.copy_ #[t,t'] ty #[u,x])):Sem Next).run P w) d m'/\K d m'=some r:=by
 obtain ⟨e,h1,h2⟩:=Vb8 hY hc;unfold copyA at h;split at h
 case h_2=>cases h
 rename_i l hl;cases hle:(decide (0 < rows.length)&&decide (rows.length<=n)&&decide (i+n<=l.length))<;>simp only [hle,cond_true,cond_false] at h
 ·cases h
 simp only [Bool.and_eq_true,decide_eq_true_eq] at hle;have hb:=Vba hl;have hlt:b < m.length:=by
  simp only [den,V] at hs;exact Va5 (C:=C) (g:=g) hm (by intro e; simp [e] at hs)
 have hwb:=hw b;rw [hb] at hwb;simp only [WfB] at hwb;have hbx:(denM C m).bx b = .arr g (C.sz c) (l.map (C.encD c)):=by simp [denM,hb,denB]
 obtain ⟨vs,hsrc⟩:=hsrc;simp only [den] at hs;obtain ⟨w',q1,q2,q3,q4⟩:=Vmn (ty:=ty) (sT:=t') hm h1 h2 hs hbx (by rw [List.length_map]; exact hle.2) hsrc (by rw [List.length_map]; omega) (by rw [List.length_map]; omega);refine ⟨_,_,?_,h⟩;have hlen:(l.take i++(rows++l.drop (i+rows.length))).length=l.length:=by rw [List.length_append,List.length_append,List.length_take,List.length_drop]; omega
 have hrows:(l.map (C.encD c)).take i++(rows.map (C.encD c)++(l.map (C.encD c)).drop (i+(rows.map (C.encD c)).length))=(l.take i++(rows++l.drop (i+rows.length))).map (C.encD c):=by
  rw [List.map_append,List.map_append,List.map_drop,List.map_take,List.length_map]
 rw [hrows] at q2;rw [Sem.run_bind,q1,Result.andThen_ok,Sem.run_pure,List.length_map];refine ⟨goInt rows.length,w',I,loc,L,.inl rfl,?_,?_,?_,trivial,q3,λ_ h=>.inl h,.refl _,LExt.refl _ _,q4⟩
 ·rw [Vb9 hlt]; simp only [denB]; exact q2
 ·intro b';rw [Va9 hlt];split
  ·rename_i e; subst e; simp only [WfB]; rw [hlen,<- hwb]
  ·exact hw b'
 ·simp only [den,V,goInt]
end
end Go.Abs

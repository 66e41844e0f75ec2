/- What follows an operation may be taken off it: a law for each. No condition. -/
import Derived.Test.YtlinfghjilpcdaaTyE
namespace Go.Abs
open Go
set_option linter.unusedSimpArgs false

section
variable {T : Nat → Type} {R : Type}

theorem bif_bind {α β : Type} (c : Bool) (a : Option α) (K : α → Option β) : (bif c then a else none).bind K = bif c then a.bind K else none := by cases c <;> rfl
theorem bif_bind2 {α β : Type} (c : Bool) (a b : Option α) (K : α → Option β) : (bif c then a else b).bind K = bif c then a.bind K else b.bind K := by cases c <;> rfl
theorem mapK_law {α β S : Type} (f : {R : Type} → α → (β → Option R) → Option R) (hf : ∀ {R : Type} (x : α) (K : β → Option R), f x K = (f x some).bind K) :
    ∀ (l : List α) {R : Type} (K : List β → Option R), mapK (fun x => f (R := R) x) l K = (mapK (fun x => f (R := List β) x) l some).bind K
  | [], R, K => rfl
  | x :: r, R, K => by
    simp only [mapK]
    rw [hf x, hf x (R := List β)]
    simp only [Option.bind_assoc]
    congr 1; funext y
    rw [mapK_law (S := S) f hf r (fun r' => K (y :: r')), mapK_law (S := S) f hf r (fun r' => some (y :: r'))]
    simp only [Option.bind_assoc, Option.bind_some]

theorem atK_law {α : Type} (l : List α) (x : DT T) (K : α → Option R) : atK l x K = (atK l x some).bind K := by
  unfold atK; split <;> simp
theorem ltK_law (x : DT T) (n : Nat) (K : Nat → Option R) : ltK x n K = (ltK x n some).bind K := by
  unfold ltK; split <;> simp [bif_bind]
theorem leK_law (x : DT T) (n : Nat) (K : Nat → Option R) : leK x n K = (leK x n some).bind K := by
  unfold leK; split <;> simp [bif_bind]
theorem cutK_law (n : Nat) (lo hi : Option (DT T)) (K : Option Nat → Option Nat → Option R) : cutK n lo hi K = (cutK n lo hi fun a b => some (a, b)).bind fun p => K p.1 p.2 := by
  unfold cutK
  split
  · rfl
  · rw [leK_law, leK_law (K := fun a => some (some a, none))]; simp [Option.bind_assoc]
  · rw [leK_law, leK_law (K := fun a => some (none, some a))]; simp [Option.bind_assoc]
  · rw [leK_law, leK_law (R := Option Nat × Option Nat)]
    simp only [Option.bind_assoc]
    congr 1; funext b
    rw [leK_law, leK_law (R := Option Nat × Option Nat)]; simp [Option.bind_assoc]
theorem cntK_law (y : DT T) (K : Nat → Option R) : cntK y K = (cntK y some).bind K := by
  unfold cntK; split <;> simp [bif_bind]
theorem intK_law (op : BinOp) (k : IntKind) (a : Int) (k' : IntKind) (b : Int) (K : DT T → Option R) : intK op k a k' b K = (intK op k a k' b some).bind K := by
  unfold intK
  split
  · rfl
  · cases op <;> first | rfl | (simp [bif_bind2]; done)
theorem bvK_law {w : Nat} (op : BinOp) (a b : BitVec w) {S : Type} (f : BitVec w → S) (g : Bool → S) (K : S → Option R) : bvK op a b (fun z => K (f z)) (fun q => K (g q)) = (bvK op a b (fun z => some (f z)) (fun q => some (g q))).bind K := by
  cases op <;> first | rfl | (simp [bvK, bif_bind2]; done)
theorem shlK_law (x : DT T) (n : Nat) (K : DT T → Option R) : shlK x n K = (shlK x n some).bind K := by
  unfold shlK; split <;> rfl
theorem shrK_law (x : DT T) (n : Nat) (K : DT T → Option R) : shrK x n K = (shrK x n some).bind K := by
  unfold shrK; split <;> rfl
theorem strK_law (op : BinOp) (a b : List UInt8) (K : DT T → Option R) : strK op a b K = (strK op a b some).bind K := by
  unfold strK; cases op <;> first | rfl | (simp [bif_bind]; done)
theorem binK_law (Y : Nat → Option TI) (op : BinOp) (t : Nat) (x y : DT T) (K : DT T → Option R) : binK Y op t x y K = (binK Y op t x y some).bind K := by
  unfold binK
  split
  · rw [cntK_law, cntK_law (R := DT T)]; simp only [Option.bind_assoc]; congr 1; funext n; exact shlK_law x n K
  · rw [cntK_law, cntK_law (R := DT T)]; simp only [Option.bind_assoc]; congr 1; funext n; exact shrK_law x n K
  · split
    · split
      · exact intK_law _ _ _ _ _ K
      · rfl
    · split
      · exact bvK_law op _ _ (fun z => DT.u8 (UInt8.ofBitVec z)) DT.bool K
      · rfl
    · split
      · exact bvK_law op _ _ DT.u16 DT.bool K
      · rfl
    · split
      · exact bvK_law op _ _ DT.u32 DT.bool K
      · rfl
    · split
      · exact bvK_law op _ _ DT.u64 DT.bool K
      · rfl
    · split
      · exact strK_law _ _ _ K
      · rfl
    · repeat' split
      all_goals rfl
    · repeat' split
      all_goals rfl
    · rfl
theorem unK_law (op : UnOp) (x : DT T) (K : DT T → Option R) : unK op x K = (unK op x some).bind K := by
  unfold unK; split <;> rfl
theorem convK_law (Y : Nat → Option TI) (src dst : Nat) (x : DT T) (K : DT T → Option R) : convK Y src dst x K = (convK Y src dst x some).bind K := by
  unfold convK
  repeat' split
  all_goals rfl
theorem ldK_law (Y : Nat → Option TI) (t : Nat) (cs : List (DT T)) (K : DT T → Option R) : ldK Y t cs K = (ldK Y t cs some).bind K := by
  unfold ldK; split <;> rfl
theorem indexAddrK_law (Y : Nat → Option TI) (C : Cd T) (t : Nat) (x i : DT T) (K : DT T → Option R) : indexAddrK Y C t x i K = (indexAddrK Y C t x i some).bind K := by
  unfold indexAddrK
  split
  · split
    · rw [atK_law, atK_law (R := DT T)]; simp only [Option.bind_assoc, Option.bind_some]
    · rfl
  · split
    · rw [ltK_law, ltK_law (R := DT T)]; simp only [Option.bind_assoc, Option.bind_some]
    · rfl
  · split
    · rw [ltK_law, ltK_law (R := DT T)]; simp only [Option.bind_assoc, Option.bind_some]
    · rfl
  · split
    · rw [ltK_law, ltK_law (R := DT T)]; simp only [Option.bind_assoc, Option.bind_some]
    · rfl
  · split
    · rw [ltK_law, ltK_law (R := DT T)]; simp only [Option.bind_assoc, Option.bind_some]
    · rfl
  · rfl
theorem indexK_law (Y : Nat → Option TI) (t : Nat) (x i : DT T) (K : DT T → Option R) : indexK Y t x i K = (indexK Y t x i some).bind K := by
  unfold indexK
  split
  · split
    · rw [atK_law, atK_law (R := DT T)]; simp only [Option.bind_assoc, Option.bind_some]
    · rfl
  · split
    · rw [ltK_law, ltK_law (R := DT T)]; simp only [Option.bind_assoc]; congr 1; funext k; exact ldK_law _ _ _ K
    · rfl
  · rfl
theorem sliceK_law (Y : Nat → Option TI) (C : Cd T) (t : Nat) (x : DT T) (lo hi : Option (DT T)) (K : DT T → Option R) : sliceK Y C t x lo hi K = (sliceK Y C t x lo hi some).bind K := by
  unfold sliceK
  split
  · split
    · rw [cutK_law, cutK_law (R := DT T)]; simp only [Option.bind_assoc, Option.bind_some]
    · rfl
  · split
    · split
      · rw [cutK_law, cutK_law (R := DT T)]; simp only [Option.bind_assoc, Option.bind_some]
      · rfl
    · rfl
  · split
    · rw [cutK_law, cutK_law (R := DT T)]; simp only [Option.bind_assoc, Option.bind_some]
    · rfl
  · split
    · rw [cutK_law, cutK_law (R := DT T)]; simp only [Option.bind_assoc, Option.bind_some]
    · rfl
  · split
    · rw [cutK_law, cutK_law (R := DT T)]; simp only [Option.bind_assoc, Option.bind_some]
    · rfl
  · rfl
theorem lenK_law (Y : Nat → Option TI) (t : Nat) (x : DT T) (K : DT T → Option R) : lenK Y t x K = (lenK Y t x some).bind K := by
  unfold lenK
  repeat' split
  all_goals rfl
theorem mnK_law (x y : DT T) (K : DT T → Option R) : mnK x y K = (mnK x y some).bind K := by unfold mnK; split <;> rfl
theorem mxK_law (x y : DT T) (K : DT T → Option R) : mxK x y K = (mxK x y some).bind K := by unfold mxK; split <;> rfl
theorem foldK_law (f : {R : Type} → DT T → DT T → (DT T → Option R) → Option R) (hf : ∀ {R : Type} (x y : DT T) (K : DT T → Option R), f x y K = (f x y some).bind K) :
    ∀ (l : List (DT T)) (x : DT T) {R : Type} (K : DT T → Option R), foldK (fun a b => f (R := R) a b) x l K = (foldK (fun a b => f (R := DT T) a b) x l some).bind K
  | [], x, R, K => rfl
  | y :: r, x, R, K => by
    simp only [foldK]
    rw [hf x y (fun z => foldK (fun a b => f (R := R) a b) z r K), hf x y (fun z => foldK (fun a b => f (R := DT T) a b) z r some)]
    simp only [Option.bind_assoc]
    congr 1; funext z
    exact foldK_law f hf r z K
theorem pickK_law (q : Bool) (a b : DT T) (K : DT T → Option R) : pickK q a b K = (pickK q a b some).bind K := by
  unfold pickK
  split
  · rfl
  · split <;> rfl
  · simp [bif_bind2]
theorem nK_law (Y : Nat → Option TI) (C : Cd T) (o : Op) (e : Operand → DT T) (K : DT T → Option R) : nK Y C o e K = (nK Y C o e some).bind K := by
  unfold nK
  split
  · rfl
  · rfl
  · split
    · exact pickK_law _ _ _ K
    · rfl
  · split <;> rfl
  · exact binK_law _ _ _ _ _ K
  · exact unK_law _ _ K
  · exact convK_law _ _ _ _ K
  · split <;> rfl
  · split <;> rfl
  · split <;> rfl
  · exact indexAddrK_law _ _ _ _ _ K
  · exact indexK_law _ _ _ _ K
  · exact sliceK_law _ _ _ _ _ _ K
  · split
    · split <;> rfl
    · rfl
  · split <;> rfl
  · split
    · exact lenK_law _ _ _ K
    · rfl
  · split
    · exact foldK_law (fun a b K => mnK a b K) (fun x y K => mnK_law x y K) _ _ K
    · rfl
  · split
    · exact foldK_law (fun a b K => mxK a b K) (fun x y K => mxK_law x y K) _ _ K
    · rfl
  · rfl

/-! ### memory -/
theorem winK_law {α : Type} (l : List α) (i n : Nat) (K : List α → Option R) : winK l i n K = (winK l i n some).bind K := by
  unfold winK; rw [bif_bind]; rfl
theorem rowsK_law (m : MT T) (c : Nat) (x : DT T) (K : List (T c) → Option R) : rowsK m c x K = (rowsK m c x some).bind K := by
  unfold rowsK
  split
  · rfl
  · split <;> rfl
  · split
    · split <;> rfl
    · rfl
  · split
    · split
      · exact winK_law _ _ _ K
      · rfl
    · rfl
  · rfl
theorem purK_law (C : Cd T) (m : MT T) (sn : Bool) : ∀ (n : Nat) {R : Type} (d : DT T) (K : DT T → Option R), purK C m sn n d K = (purK C m sn n d some).bind K
  | 0, R, d, K => rfl
  | n + 1, R, d, K => by
    have ml := fun (l : List (DT T)) {R : Type} (K : List (DT T) → Option R) => mapK_law (S := Unit) (fun {R} x K => purK C m sn n (R := R) x K) (fun {R} x K => purK_law C m sn n x K) l K
    simp only [purK]
    cases d with
    | bw b g c k => simp only []; split <;> rfl
    | bs b g c i k =>
      simp only []; split
      · rw [winK_law, winK_law (R := DT T)]; simp only [Option.bind_assoc, Option.bind_some]
      · rfl
    | bp b off =>
      simp only []; split
      · split
        · rw [ml, ml (R := DT T)]; simp only [Option.bind_assoc, Option.bind_some]
        · rfl
      · rfl
    | ap b g c i off =>
      simp only []; split
      · split
        · simp only [Option.bind_assoc, Option.bind_some]
        · rfl
      · rfl
    | agg cs => simp only []; rw [ml, ml (R := DT T)]; simp only [Option.bind_assoc, Option.bind_some]
    | fn f cs => simp only []; rw [ml, ml (R := DT T)]; simp only [Option.bind_assoc, Option.bind_some]
    | _ => rfl
theorem purL_law (C : Cd T) (m : MT T) (sn : Bool) (n : Nat) (l : List (DT T)) {R : Type} (K : List (DT T) → Option R) : mapK (purK C m sn n) l K = (mapK (purK C m sn n) l some).bind K :=
  mapK_law (S := Unit) (fun {R} x K => purK C m sn n (R := R) x K) (fun {R} x K => purK_law C m sn n x K) l K
theorem frK_law (C : Cd T) (m : MT T) (cs : List (DT T)) (K : List (DT T) → MT T → Option R) : frK C m cs K = (frK C m cs fun a b => some (a, b)).bind fun p => K p.1 p.2 := by
  unfold frK
  rw [purL_law, purL_law (R := List (DT T) × MT T)]
  simp only [Option.bind_assoc, Option.bind_some]
theorem rK_law (Y : Nat → Option TI) (C : Cd T) (o : Op) (e : Operand → DT T) (m : MT T) (K : DT T → Option R) : rK Y C o e m K = (rK Y C o e m some).bind K := by
  unfold rK
  split
  · split
    · split
      · exact ldK_law _ _ _ K
      · rfl
    · split
      · simp only [Option.bind_assoc]; congr 1; funext x; exact ldK_law _ _ _ K
      · rfl
    · exact ldK_law _ _ _ K
    · rfl
  · split
    · split
      · rw [rowsK_law, rowsK_law (R := DT T)]; simp only [Option.bind_assoc, Option.bind_some]
      · rfl
    · rfl
  · rfl
theorem partsK_law (C : Cd T) (el : Nat) : ∀ (ps : List (Nat × DT T)) (m : MT T) (rows : List (T el)) {R : Type} (K : List (T el) → MT T → Option R), partsK C el ps m rows K = (partsK C el ps m rows fun a b => some (a, b)).bind fun p => K p.1 p.2
  | [], m, rows, R, K => rfl
  | (i, x) :: r, m, rows, R, K => by
    simp only [partsK]
    split
    · rw [frK_law, frK_law (R := List (T el) × MT T)]
      simp only [Option.bind_assoc]
      congr 1; funext p
      split
      · split
        · exact partsK_law C el r _ _ K
        · rfl
      · rfl
    · rfl
theorem appK_law (m : MT T) (bts el : Nat) (s : DT T) (rows : List (T el)) (K : DT T → MT T → Option R) : appK m bts el s rows K = (appK m bts el s rows fun a b => some (a, b)).bind fun p => K p.1 p.2 := by
  unfold appK
  split
  · simp [bif_bind]
  · split
    · split
      · simp [bif_bind]
      · rfl
    · rfl
  · split
    · split
      · simp [bif_bind]
      · rfl
    · rfl
  · rfl
theorem wK_law (Y : Nat → Option TI) (C : Cd T) (o : Op) (e : Operand → DT T) (m : MT T) (K : DT T → MT T → Option R) : wK Y C o e m K = (wK Y C o e m fun a b => some (a, b)).bind fun p => K p.1 p.2 := by
  unfold wK
  split
  · split <;> rfl
  · split <;> rfl
  · split
    · split
      · split
        · split
          · split <;> rfl
          · rfl
        · split
          · simp only [Option.bind_assoc]; congr 1; funext x
            rw [frK_law, frK_law (R := DT T × MT T)]
            simp only [Option.bind_assoc]
            congr 1; funext p
            split
            · split
              · split <;> rfl
              · rfl
            · rfl
          · rfl
        · rfl
      · rfl
    · rfl
  · split
    · split
      · split
        · split
          · rw [partsK_law, partsK_law (R := DT T × MT T)]; simp only [Option.bind_assoc, Option.bind_some]
          · rfl
        · rfl
      · rfl
    · rfl
  · split
    · split <;> rfl
    · rfl
  · split
    · split
      · simp only [bif_bind2, Option.bind_some]
      · rfl
    · rfl
  · repeat' split
    all_goals rfl
  · split
    · split
      · split
        · split
          · split
            · simp only [bif_bind, Option.bind_some]
            · rfl
          · rfl
        · rfl
      · rfl
    · rfl
  · split
    · split
      · split
        · split
          · split
            · split
              · split
                · exact appK_law _ _ _ _ _ K
                · rfl
              · rfl
            · split
              · rw [rowsK_law, rowsK_law (R := DT T × MT T)]; simp only [Option.bind_assoc]; congr 1; funext rows; exact appK_law _ _ _ _ _ K
              · rfl
          · rfl
        · rfl
      · rfl
    · rfl
  · rfl

/-! ### places -/
theorem decOK_law (m : MT T) (c : Nat) (d : DT T) (K : List (T c) → MT T → Option R) : decOK m c d K = (decOK m c d fun a b => some (a, b)).bind fun p => K p.1 p.2 := by
  unfold decOK
  split
  · rfl
  · split
    · split <;> rfl
    · rfl
  · split
    · split
      · simp [bif_bind]
      · rfl
    · rfl
  · rfl
theorem decVK_law (C : Cd T) (m : MT T) (t : VT) (cs : List (DT T)) {R : Type} (K : t.ty T → MT T → Option R) : decVK C m t cs K = (decVK C m t cs fun a b => some (a, b)).bind fun p => K p.1 p.2 := by
  unfold decVK
  rw [frK_law, frK_law (R := VT.ty T t × MT T)]
  simp only [Option.bind_assoc]
  congr 1; funext p
  split <;> rfl
theorem decStK_law (C : Cd T) (m : MT T) (a : VT) (c : Nat) (b : VT) (cs : List (DT T)) {R : Type} (K : a.ty T × List (T c) × b.ty T → MT T → Option R) : decStK C m a c b cs K = (decStK C m a c b cs fun a b => some (a, b)).bind fun p => K p.1 p.2 := by
  unfold decStK
  split
  · rw [decVK_law, decVK_law (R := (a.ty T × List (T c) × b.ty T) × MT T)]
    simp only [Option.bind_assoc]
    congr 1; funext p
    rw [decOK_law, decOK_law (R := (a.ty T × List (T c) × b.ty T) × MT T)]
    simp only [Option.bind_assoc]
    congr 1; funext q
    rw [decVK_law, decVK_law (R := (a.ty T × List (T c) × b.ty T) × MT T)]
    simp only [Option.bind_assoc]
    rfl
  · rfl
theorem decFK_law (C : Cd T) (m : MT T) (f : Fld) (cs : List (DT T)) {R : Type} (K : f.ty T → MT T → Option R) : decFK C m f cs K = (decFK C m f cs fun a b => some (a, b)).bind fun p => K p.1 p.2 := by
  cases f with
  | v t => exact decVK_law C m t cs K
  | own c =>
    simp only [decFK]
    split
    · exact decOK_law _ _ _ K
    · rfl
  | pt t =>
    simp only [decFK]
    split
    · split
      · exact decVK_law C _ t _ K
      · rfl
    · rfl
  | st a c b => exact decStK_law C m a c b cs K
  | fp f t =>
    simp only [decFK]
    split
    · split
      · split
        · exact decVK_law C _ t _ K
        · rfl
      · rfl
    · rfl
theorem decFsK_law (C : Cd T) : ∀ (fs : List Fld) (m : MT T) (cs : List (DT T)) {R : Type} (K : tyFs T fs → MT T → Option R), decFsK C fs m cs K = (decFsK C fs m cs fun a b => some (a, b)).bind fun p => K p.1 p.2
  | [], m, cs, R, K => by simp only [decFsK]; split <;> rfl
  | f :: r, m, cs, R, K => by
    simp only [decFsK]
    rw [decFK_law, decFK_law (R := tyFs T (f :: r) × MT T)]
    simp only [Option.bind_assoc]
    congr 1; funext p
    rw [decFsK_law C r, decFsK_law C r (R := tyFs T (f :: r) × MT T)]
    simp only [Option.bind_assoc, Option.bind_some]
theorem decSK_law (C : Cd T) (m : MT T) (s : Slot) (d : DT T) {R : Type} (K : s.ty T → MT T → Option R) : decSK C m s d K = (decSK C m s d fun a b => some (a, b)).bind fun p => K p.1 p.2 := by
  cases s with
  | f x =>
    simp only [decSK]
    split
    · exact decFK_law _ _ _ _ K
    · rfl
  | ptr fs =>
    simp only [decSK]
    split
    · split
      · exact decFsK_law _ _ _ _ K
      · rfl
    · rfl
  | inp c => exact decOK_law _ _ _ K
  | iter =>
    simp only [decSK]
    split
    · split <;> rfl
    · rfl
theorem decSsK_law (C : Cd T) : ∀ (ss : List Slot) (m : MT T) (ds : List (DT T)) {R : Type} (K : tySs T ss → MT T → Option R), decSsK C ss m ds K = (decSsK C ss m ds fun a b => some (a, b)).bind fun p => K p.1 p.2
  | [], m, ds, R, K => by simp only [decSsK]; split <;> rfl
  | s :: r, m, [], R, K => rfl
  | s :: r, m, d :: ds, R, K => by
    simp only [decSsK]
    rw [decSK_law, decSK_law (R := tySs T (s :: r) × MT T)]
    simp only [Option.bind_assoc]
    congr 1; funext p
    rw [decSsK_law C r, decSsK_law C r (R := tySs T (s :: r) × MT T)]
    simp only [Option.bind_assoc, Option.bind_some]
theorem decFVsK_law (C : Cd T) : ∀ (fs : List Fld) (m : MT T) (ds : List (DT T)) {R : Type} (K : tyFs T fs → MT T → Option R), decFVsK C fs m ds K = (decFVsK C fs m ds fun a b => some (a, b)).bind fun p => K p.1 p.2
  | [], m, ds, R, K => by simp only [decFVsK]; split <;> rfl
  | f :: r, m, [], R, K => rfl
  | f :: r, m, d :: ds, R, K => by
    simp only [decFVsK]
    split
    · rw [decFK_law, decFK_law (R := tyFs T (f :: r) × MT T)]
      simp only [Option.bind_assoc]
      congr 1; funext p
      rw [decFVsK_law C r, decFVsK_law C r (R := tyFs T (f :: r) × MT T)]
      simp only [Option.bind_assoc, Option.bind_some]
    · rfl
end
end Go.Abs

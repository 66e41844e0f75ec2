/- Memory, calls, loops and whole functions on typed abstract values: definitions alone. No condition. -/
import Derived.Test.YtlinfghjilpcdaaTyD
import Derived.Test.YtlinfghjilpcdaaAbsQ
namespace Go.Abs
open Go

section
variable {T : Nat → Type} {R : Type}

/-! ### memory -/
def castL {c c' : Nat} (h : c = c') (l : List (T c)) : List (T c') := h ▸ l
/-- what an array's box holds. -/
def boxL (m : MT T) (b g c : Nat) : Option (List (T c)) :=
  match m.get b with
  | .arr g' c' l => match Nat.beq g g' with
    | true => match Nat.decEq c' c with
      | .isTrue h => some (castL h l)
      | .isFalse _ => none
    | false => none
  | .frz g' c' l => match Nat.beq g g' with
    | true => match Nat.decEq c' c with
      | .isTrue h => some (castL h l)
      | .isFalse _ => none
    | false => none
  | _ => none
/-- of one's own: it may be written. -/
def boxA (m : MT T) (b g c : Nat) : Option (List (T c)) :=
  match m.get b with
  | .arr g' c' l => match Nat.beq g g' with
    | true => match Nat.decEq c' c with
      | .isTrue h => some (castL h l)
      | .isFalse _ => none
    | false => none
  | _ => none
def winK {α : Type} (l : List α) (i n : Nat) (K : List α → Option R) : Option R := bif decide (n + i ≤ l.length) then K ((l.drop i).take n) else none

/-- what a slice holds. -/
def rowsK (m : MT T) (c : Nat) (x : DT T) (K : List (T c) → Option R) : Option R :=
  match x with
  | .nils => K []
  | .rs c' l => match Nat.decEq c' c with
    | .isTrue h => K (castL h l)
    | .isFalse _ => none
  | .bw b g c' _ => match Nat.beq c' c with
    | true => match boxL m b g c with
      | some l => K l
      | none => none
    | false => none
  | .bs b g c' i n => match Nat.beq c' c with
    | true => match boxL m b g c with
      | some l => winK l i n K
      | none => none
    | false => none
  | _ => none

/-- a value without boxes: what it reads as. -/
def purK (C : Cd T) (m : MT T) (sn : Bool) : Nat → DT T → (DT T → Option R) → Option R
  | 0, _, _ => none
  | n + 1, d, K => match d with
    | .bw b g c _ => match boxL m b g c with
      | some l => K (.rs c l)
      | none => none
    | .bs b g c i k => match boxL m b g c with
      | some l => winK l i k fun l' => K (.rs c l')
      | none => none
    | .bp b off => match sn with
      | true => match m.get b with
        | .var cs => mapK (purK C m sn n) (cs.drop off) fun cs' => K (.rp cs')
        | _ => none
      | false => none
    | .ap b g c i off => match sn with
      | true => match boxL m b g c with
        | some l => (l[i]?).bind fun x => K (.rp ((C.enc c x).drop off))
        | none => none
      | false => none
    | .agg cs => mapK (purK C m sn n) cs fun cs' => K (.agg cs')
    | .fn f cs => mapK (purK C m sn n) cs fun cs' => K (.fn f cs')
    | .tup _ => none
    | d => K d
/-- the boxes in it. -/
def refs : Nat → DT T → List Nat
  | 0, _ => []
  | n + 1, d => match d with
    | .bw b _ _ _ => [b]
    | .bs b _ _ _ _ => [b]
    | .agg cs => cs.flatMap (refs n)
    | .fn _ cs => cs.flatMap (refs n)
    | _ => []
def MT.put (m : MT T) (b : Nat) (x : BoxT T) : MT T := List.set m b x
def fz1 (m : MT T) (b : Nat) : MT T :=
  match m.get b with
  | .arr g c l => m.put b (.frz g c l)
  | _ => m
def fzAll (m : MT T) (ids : List Nat) : MT T := ids.foldl fz1 m

/-- cells without boxes; the boxes that were in them are no longer written. -/
def frK (C : Cd T) (m : MT T) (cs : List (DT T)) (K : List (DT T) → MT T → Option R) : Option R :=
  mapK (purK C m false 4) cs fun cs' => K cs' (fzAll m (cs.flatMap (refs 4)))

def castB (C : Cd T) (l : List (T C.bt)) : List UInt8 := cast (congrArg List C.hb) l
def castT (C : Cd T) (l : List UInt8) : List (T C.bt) := cast (congrArg List C.hb.symm) l

def isU8 (Y : Nat → Option TI) (e : Nat) : Bool :=
  match Y e with
  | some i => match i.kind with
    | .int .u8 => true
    | _ => false
  | none => false

/-- An operation that reads memory. -/
def rK (Y : Nat → Option TI) (C : Cd T) (o : Op) (e : Operand → DT T) (m : MT T) (K : DT T → Option R) : Option R :=
  match o with
  | .load t x => match e x with
    | .bp b off => match m.get b with
      | .var cs => ldK Y t (cs.drop off) K
      | _ => none
    | .ap b g c i off => match boxL m b g c with
      | some l => (l[i]?).bind fun x => ldK Y t ((C.enc c x).drop off) K
      | none => none
    | .rp cs => ldK Y t cs K
    | _ => none
  | .convert src dst x => match elemT Y src with
    | some el => match isU8 Y el && isStr Y dst with
      | true => rowsK m C.bt (e x) fun l => K (.str (castB C l))
      | false => none
    | none => none
  | _ => none

/-- an element that is zero. -/
def zeroE (C : Cd T) (i : TI) : Option (T i.code) :=
  match Nat.beq i.sz (C.sz i.code) with
  | true => C.dec i.code (i.zero.map Zc.toT)
  | false => none

def partsK (C : Cd T) (el : Nat) : List (Nat × DT T) → MT T → List (T el) → (List (T el) → MT T → Option R) → Option R
  | [], m, rows, K => K rows m
  | (i, x) :: r, m, rows, K => match x.fit with
    | true => frK C m x.cells fun cs m' => match C.dec el cs with
      | some y => match Nat.blt i rows.length with
        | true => partsK C el r m' (rows.set i y) K
        | false => none
      | none => none
    | false => none

def appK (m : MT T) (bts el : Nat) (s : DT T) (rows : List (T el)) (K : DT T → MT T → Option R) : Option R :=
  match s with
  | .nils => bif small rows.length bts then K (.bw m.length 0 el rows.length) (m ++ [.arr 0 el rows]) else none
  | .bw b g c' _ => match Nat.beq c' el with
    | true => match boxA m b g el with
      | some l => bif small (l.length + rows.length) bts then K (.bw b (g + 1) el (l ++ rows).length) (m.put b (.arr (g + 1) el (l ++ rows))) else none
      | none => none
    | false => none
  | .bs b g c' 0 n => match Nat.beq c' el with
    | true => match boxA m b g el with
      | some l => bif decide (n ≤ l.length) && small (n + rows.length) bts then K (.bw b (g + 1) el (l.take n ++ rows).length) (m.put b (.arr (g + 1) el (l.take n ++ rows))) else none
      | none => none
    | false => none
  | _ => none

/-- An operation that writes or makes memory. -/
def wK (Y : Nat → Option TI) (C : Cd T) (o : Op) (e : Operand → DT T) (m : MT T) (K : DT T → MT T → Option R) : Option R :=
  match o with
  | .alloc t => match Y t with
    | some i => K (.bp m.length 0) (m ++ [.var (i.zero.map Zc.toT)])
    | none => none
  | .box _ x => match (e x).fit with
    | true => K (.bp m.length 0) (m ++ [.var (e x).cells])
    | false => none
  | .store t x y => match Y t with
    | some i => match (e y).fit && Nat.beq (e y).cells.length i.sz with
      | true => match e x with
        | .bp b off => match m.get b with
          | .var cs => match Nat.ble (off + i.sz) cs.length with
            | true => K .dead (m.put b (.var (setT cs off (e y).cells)))
            | false => none
          | _ => none
        | .ap b g c k off => match boxA m b g c with
          | some l => (l[k]?).bind fun x => frK C m (e y).cells fun cs m' =>
              match Nat.ble (off + i.sz) (C.enc c x).length with
              | true => match C.dec c (setT (C.enc c x) off cs) with
                | some x' => match m'.get b with
                  | .arr _ _ _ => K .dead (m'.put b (.arr g c (l.set k x')))
                  | _ => none
                | none => none
              | false => none
          | none => none
        | _ => none
      | false => none
    | none => none
  | .buildSlice t n parts => match elemT Y t with
    | some el => match Y el with
      | some j => match zeroE C j with
        | some z => match Nat.ble (n * j.sz) 16777216 with
          | true => partsK C j.code (parts.toList.map fun p => (p.1, e p.2)) m (List.replicate n z) fun rows m' => K (.bw m'.length 0 j.code n) (m' ++ [.arr 0 j.code rows])
          | false => none
        | none => none
      | none => none
    | none => none
  | .range t x => match e x with
    | .str l => match isStr Y t with
      | true => K (.bp m.length 0) (m ++ [.iter l 0])
      | false => none
    | _ => none
  | .next x true => match e x with
    | .bp b 0 => match m.get b with
      | .iter l pos => bif decide (pos < l.length) then
          K (.tup [.bool true, .int .i64 pos, .int .i32 (Utf8.decode ⟨l.toArray⟩ pos).1]) (m.put b (.iter l (pos + (Utf8.decode ⟨l.toArray⟩ pos).2)))
        else K (.tup [.bool false]) m
      | _ => none
    | _ => none
  | .convert src dst x => match isStr Y src with
    | true => match elemT Y dst with
      | some el => match isU8 Y el with
        | true => match e x with
          | .str l => K (.bw m.length 0 C.bt l.length) (m ++ [.arr 0 C.bt (castT C l)])
          | _ => none
        | false => none
      | none => none
    | false => none
  | .makeSlice t len cap => match elemT Y t with
    | some el => match Y el with
      | some j => match zeroE C j with
        | some z => match e len with
          | .int _ n => match e cap with
            | .int _ k => bif decide (0 ≤ n) && (decide (n ≤ k) && decide ((j.bts : Int) * k ≤ 281474976710656 ∧ k ≤ 9223372036854775807)) then
                K (.bw m.length 0 j.code n.toNat) (m ++ [.arr 0 j.code (List.replicate n.toNat z)]) else none
            | _ => none
          | _ => none
        | none => none
      | none => none
    | none => none
  | .call { callee := .builtin .append, args, argTypes } => match args.toList, argTypes.toList with
    | [s, x], [t, t'] => match elemT Y t with
      | some el => match Y el with
        | some j => match zeroE C j with
          | some _ => match e x with
            | .str l => match isStr Y t' with
              | true => match Nat.decEq C.bt j.code with
                | .isTrue h => appK m j.bts j.code (e s) (castL h (castT C l)) K
                | .isFalse _ => none
              | false => none
            | d => match elemT Y t' with
              | some _ => rowsK m j.code d fun rows => appK m j.bts j.code (e s) rows K
              | none => none
          | none => none
        | none => none
      | none => none
    | _, _ => none
  | _ => none

/-! ### values with a type -/
inductive VT where
  | bool | int (k : IntKind) | u8 | u16 | u32 | u64 | str | rs (c : Nat) | agg (c : Nat) | ref (t : VT) | fn (f : Nat) (caps : VT) | nil | cons (a b : VT)

def VT.ty (T : Nat → Type) : VT → Type
  | .bool => Bool
  | .int _ => Int
  | .u8 => UInt8
  | .u16 => BitVec 16
  | .u32 => BitVec 32
  | .u64 => BitVec 64
  | .str => List UInt8
  | .rs c => List (T c)
  | .agg c => T c
  | .ref t => t.ty T
  | .fn _ cs => cs.ty T
  | .nil => Unit
  | .cons a b => a.ty T × b.ty T

def VT.sz (C : Cd T) : VT → Nat
  | .agg c => C.sz c
  | .nil => 0
  | .cons a b => a.sz C + b.sz C
  | _ => 1

def encC (C : Cd T) : (t : VT) → t.ty T → List (DT T)
  | .bool, b => [.bool b]
  | .int k, n => [.int k n]
  | .u8, x => [.u8 x]
  | .u16, x => [.u16 x]
  | .u32, x => [.u32 x]
  | .u64, x => [.u64 x]
  | .str, l => [.str l]
  | .rs c, l => [.rs c l]
  | .agg c, x => C.enc c x
  | .ref t, x => [.rp (encC C t x)]
  | .fn f cs, x => [.fn f (encC C cs x)]
  | .nil, _ => []
  | .cons a b, x => encC C a x.1 ++ encC C b x.2
def encV (C : Cd T) (t : VT) (x : t.ty T) : DT T :=
  match t, x with
  | .agg c, x => .agg (C.enc c x)
  | t, x => (encC C t x).headD .dead

def one1 : List (DT T) → DT T
  | [d] => d
  | _ => .dead
def asBool : DT T → Option Bool
  | .bool b => some b
  | _ => none
def asInt (k : IntKind) : DT T → Option Int
  | .int k' n => match decide (k = k') with
    | true => some n
    | false => none
  | _ => none
def asU8 : DT T → Option UInt8
  | .u8 x => some x
  | _ => none
def asU16 : DT T → Option (BitVec 16)
  | .u16 x => some x
  | _ => none
def asU32 : DT T → Option (BitVec 32)
  | .u32 x => some x
  | _ => none
def asU64 : DT T → Option (BitVec 64)
  | .u64 x => some x
  | _ => none
def asStr : DT T → Option (List UInt8)
  | .str x => some x
  | _ => none
def asRs (c : Nat) : DT T → Option (List (T c))
  | .nils => some []
  | .rs c' l => match Nat.decEq c' c with
    | .isTrue h => some (castL h l)
    | .isFalse _ => none
  | _ => none
def asRp : DT T → Option (List (DT T))
  | .rp cs => some cs
  | _ => none
def asFn (f : Nat) : DT T → Option (List (DT T))
  | .fn f' l => match Nat.beq f f' with
    | true => some l
    | false => none
  | _ => none
def decC (C : Cd T) : (t : VT) → List (DT T) → Option (t.ty T)
  | .bool, cs => asBool (one1 cs)
  | .int k, cs => asInt k (one1 cs)
  | .u8, cs => asU8 (one1 cs)
  | .u16, cs => asU16 (one1 cs)
  | .u32, cs => asU32 (one1 cs)
  | .u64, cs => asU64 (one1 cs)
  | .str, cs => asStr (one1 cs)
  | .rs c, cs => asRs c (one1 cs)
  | .agg c, cs => C.dec c cs
  | .ref t, cs => match asRp (one1 cs) with
    | some ds => decC C t (ds.take (t.sz C))
    | none => none
  | .fn f c, cs => match asFn f (one1 cs) with
    | some ds => decC C c ds
    | none => none
  | .nil, cs => match cs with
    | [] => some ()
    | _ => none
  | .cons a b, cs => match decC C a (cs.take (a.sz C)) with
    | some x => match decC C b (cs.drop (a.sz C)) with
      | some y => some (x, y)
      | none => none
    | none => none

/-- a place: a value, or a slice of one's own. -/
inductive Fld where
  | v (t : VT)
  | own (c : Nat)
  | pt (t : VT)
  | st (a : VT) (c : Nat) (b : VT)
  | fp (f : Nat) (t : VT)
/-- a place of a state: a place, a variable's box, an array that is written in place, a string's iterator. -/
inductive Slot where
  | f (x : Fld)
  | ptr (fs : List Fld)
  | inp (c : Nat)
  | iter

def Fld.ty (T : Nat → Type) : Fld → Type
  | .v t => t.ty T
  | .own c => List (T c)
  | .pt t => t.ty T
  | .st a c b => a.ty T × List (T c) × b.ty T
  | .fp _ t => t.ty T
def tyFs (T : Nat → Type) : List Fld → Type
  | [] => Unit
  | f :: r => f.ty T × tyFs T r
def Slot.ty (T : Nat → Type) : Slot → Type
  | .f x => x.ty T
  | .ptr fs => tyFs T fs
  | .inp c => List (T c)
  | .iter => List UInt8 × Nat
def tySs (T : Nat → Type) : List Slot → Type
  | [] => Unit
  | s :: r => s.ty T × tySs T r
/-- what a call leaves in the places that it was handed. -/
def tyO (T : Nat → Type) : List Slot → Type
  | [] => Unit
  | .ptr fs :: r => tyFs T fs × tyO T r
  | .inp c :: r => List (T c) × tyO T r
  | _ :: r => tyO T r

def Fld.sz (C : Cd T) : Fld → Nat
  | .v t => t.sz C
  | .own _ => 1
  | .pt _ => 1
  | .st a _ b => a.sz C + (1 + b.sz C)
  | .fp _ _ => 1

/-! ### laid into a state -/
def encF (C : Cd T) (base : Nat) : (f : Fld) → f.ty T → List (DT T) × List (BoxT T)
  | .v t, x => (encC C t x, [])
  | .own c, l => ([.bw base 0 c l.length], [.arr 0 c l])
  | .pt t, x => ([.bp base 0], [.var (encC C t x)])
  | .st a c b, x => (encC C a x.1 ++ (.bw base 0 c x.2.1.length :: encC C b x.2.2), [.arr 0 c x.2.1])
  | .fp f t, x => ([.fn f [.bp base 0]], [.var (encC C t x)])
def encFs (C : Cd T) (base : Nat) : (fs : List Fld) → tyFs T fs → List (DT T) × List (BoxT T)
  | [], _ => ([], [])
  | f :: r, x => match encF C base f x.1 with
    | (a, b) => match encFs C (base + b.length) r x.2 with
      | (a', b') => (a ++ a', b ++ b')
def encFV (C : Cd T) (base : Nat) : (f : Fld) → f.ty T → DT T × List (BoxT T)
  | .v t, x => (encV C t x, [])
  | .own c, l => (.bw base 0 c l.length, [.arr 0 c l])
  | .pt t, x => (.bp base 0, [.var (encC C t x)])
  | .st a c b, x => (.agg (encC C a x.1 ++ (.bw base 0 c x.2.1.length :: encC C b x.2.2)), [.arr 0 c x.2.1])
  | .fp f t, x => (.fn f [.bp base 0], [.var (encC C t x)])
def encFVs (C : Cd T) (base : Nat) : (fs : List Fld) → tyFs T fs → List (DT T) × List (BoxT T)
  | [], _ => ([], [])
  | f :: r, x => match encFV C base f x.1 with
    | (a, b) => match encFVs C (base + b.length) r x.2 with
      | (a', b') => (a :: a', b ++ b')
def encS (C : Cd T) (base : Nat) : (s : Slot) → s.ty T → DT T × List (BoxT T)
  | .f x, y => encFV C base x y
  | .ptr fs, x => match encFs C base fs x with
    | (cs, bs) => (.bp (base + bs.length) 0, bs ++ [.var cs])
  | .inp c, l => (.bw base 0 c l.length, [.arr 0 c l])
  | .iter, x => (.bp base 0, [.iter x.1 x.2])
def encSs (C : Cd T) (base : Nat) : (ss : List Slot) → tySs T ss → List (DT T) × List (BoxT T)
  | [], _ => ([], [])
  | s :: r, x => match encS C base s x.1 with
    | (a, b) => match encSs C (base + b.length) r x.2 with
      | (a', b') => (a :: a', b ++ b')

def DT.isAgg : DT T → Bool
  | .agg _ => true
  | _ => false
def VT.isAgg : VT → Bool
  | .agg _ => true
  | _ => false
/-- a value that may stand for such a place. -/
def DT.as (d : DT T) (f : Fld) : Bool :=
  match f with
  | .v t => d.fit && (d.isAgg == t.isAgg)
  | .st _ _ _ => d.fit && d.isAgg
  | _ => d.fit && !d.isAgg
/-! ### read out of a state -/
def decOK (m : MT T) (c : Nat) (d : DT T) (K : List (T c) → MT T → Option R) : Option R :=
  match d with
  | .nils => K [] m
  | .bw b g c' _ => match Nat.beq c' c with
    | true => match boxA m b g c with
      | some l => K l (m.put b .gone)
      | none => none
    | false => none
  | .bs b g c' 0 n => match Nat.beq c' c with
    | true => match boxA m b g c with
      | some l => bif decide (n ≤ l.length) then K (l.take n) (m.put b .gone) else none
      | none => none
    | false => none
  | _ => none
def decVK (C : Cd T) (m : MT T) (t : VT) (cs : List (DT T)) (K : t.ty T → MT T → Option R) : Option R :=
  frK C m cs fun cs' m' => match decC C t cs' with
    | some x => K x m'
    | none => none
def decStK (C : Cd T) (m : MT T) (a : VT) (c : Nat) (b : VT) (cs : List (DT T)) (K : a.ty T × List (T c) × b.ty T → MT T → Option R) : Option R :=
  match cs.drop (a.sz C) with
  | d :: r => decVK C m a (cs.take (a.sz C)) fun x m1 => decOK m1 c d fun l m2 => decVK C m2 b r fun y m3 => K (x, l, y) m3
  | _ => none
def decFK (C : Cd T) (m : MT T) (f : Fld) (cs : List (DT T)) (K : f.ty T → MT T → Option R) : Option R :=
  match f, K with
  | .v t, K => decVK C m t cs K
  | .own c, K => match cs with
    | [d] => decOK m c d K
    | _ => none
  | .pt t, K => match cs with
    | [.bp b 0] => match m.get b with
      | .var cs => decVK C (m.put b .gone) t cs K
      | _ => none
    | _ => none
  | .st a c b, K => decStK C m a c b cs K
  | .fp f t, K => match cs with
    | [.fn f' [.bp b 0]] => match Nat.beq f' f with
      | true => match m.get b with
        | .var cs => decVK C (m.put b .gone) t cs K
        | _ => none
      | false => none
    | _ => none
def decFsK (C : Cd T) : (fs : List Fld) → MT T → List (DT T) → (tyFs T fs → MT T → Option R) → Option R
  | [], m, cs, K => match cs with
    | [] => K () m
    | _ => none
  | f :: r, m, cs, K => decFK C m f (cs.take (f.sz C)) fun x m' => decFsK C r m' (cs.drop (f.sz C)) fun y m'' => K (x, y) m''
def decSK (C : Cd T) (m : MT T) (s : Slot) (d : DT T) (K : s.ty T → MT T → Option R) : Option R :=
  match s, K with
  | .f f, K => match d.as f with
    | true => decFK C m f d.cells K
    | false => none
  | .ptr fs, K => match d with
    | .bp b 0 => match m.get b with
      | .var cs => decFsK C fs (m.put b .gone) cs K
      | _ => none
    | _ => none
  | .inp c, K => decOK m c d K
  | .iter, K => match d with
    | .bp b 0 => match m.get b with
      | .iter l p => K (l, p) (m.put b .gone)
      | _ => none
    | _ => none
def decSsK (C : Cd T) : (ss : List Slot) → MT T → List (DT T) → (tySs T ss → MT T → Option R) → Option R
  | [], m, ds, K => match ds with
    | [] => K () m
    | _ => none
  | s :: r, m, d :: ds, K => decSK C m s d fun x m' => decSsK C r m' ds fun y m'' => K (x, y) m''
  | _ :: _, _, [], _ => none
def decFVsK (C : Cd T) : (fs : List Fld) → MT T → List (DT T) → (tyFs T fs → MT T → Option R) → Option R
  | [], m, ds, K => match ds with
    | [] => K () m
    | _ => none
  | f :: r, m, d :: ds, K => match d.as f with
    | true => decFK C m f d.cells fun x m' => decFVsK C r m' ds fun y m'' => K (x, y) m''
    | false => none
  | _ :: _, _, [], _ => none

/-! ### elements -/
inductive Lf where
  | bool | int (k : IntKind) | u8 | u16 | u32 | u64 | str | rs (c : Nat)
def Lf.ty (T : Nat → Type) : Lf → Type
  | .bool => Bool
  | .int _ => Int
  | .u8 => UInt8
  | .u16 => BitVec 16
  | .u32 => BitVec 32
  | .u64 => BitVec 64
  | .str => List UInt8
  | .rs c => List (T c)
def tyLs (T : Nat → Type) : List Lf → Type
  | [] => Unit
  | l :: r => l.ty T × tyLs T r
def encL1 : (l : Lf) → l.ty T → DT T
  | .bool, x => .bool x
  | .int k, x => .int k x
  | .u8, x => .u8 x
  | .u16, x => .u16 x
  | .u32, x => .u32 x
  | .u64, x => .u64 x
  | .str, x => .str x
  | .rs c, x => .rs c x
def encL : (ls : List Lf) → tyLs T ls → List (DT T)
  | [], _ => []
  | l :: r, x => encL1 l x.1 :: encL r x.2
def decL1 : (l : Lf) → DT T → Option (l.ty T)
  | .bool, d => asBool d
  | .int k, d => asInt k d
  | .u8, d => asU8 d
  | .u16, d => asU16 d
  | .u32, d => asU32 d
  | .u64, d => asU64 d
  | .str, d => asStr d
  | .rs c, d => asRs c d
def decL : (ls : List Lf) → List (DT T) → Option (tyLs T ls)
  | [], [] => some ()
  | l :: r, d :: ds => match decL1 l d with
    | some x => match decL r ds with
      | some y => some (x, y)
      | none => none
    | none => none
  | _, _ => none

/-! ### contracts -/
structure FSpec (T : Nat → Type) where
  ps : List Slot
  rs : List Fld
  fn : tySs T ps → Option (tyO T ps × tyFs T rs)

/-- values alone, none of which leads into memory: then what is handed over is only looked at. -/
def VT.flat : VT → Bool
  | .bool => true
  | .int _ => true
  | .u8 => true
  | .u16 => true
  | .u32 => true
  | .u64 => true
  | .str => true
  | _ => false
def Fld.isV : Fld → Bool
  | .v _ => true
  | _ => false
def Slot.isV : Slot → Bool
  | .f x => x.isV
  | _ => false
/-- flat: the codes of structures without memory. -/
def Fld.flat (fl : Nat → Bool) : Fld → Bool
  | .v (.agg c) => fl c
  | .v t => t.flat
  | .own c => fl c
  | .pt (.agg c) => fl c
  | .pt t => t.flat
  | .st _ _ _ => false
  | .fp _ _ => false
structure Env (T : Nat → Type) where
  Y : Nat → Option TI
  C : Cd T
  G : Nat → Option (List (DT T))
  fl : Nat → Bool
  F : Nat → List (DT T) → Option (FSpec T)
  ro : Nat → Bool

/-- looked at only: nothing of it is in the answer. -/
def decVsK (C : Cd T) (m : MT T) : (ss : List Slot) → List (DT T) → (tySs T ss → Option R) → Option R
  | [], ds, K => match ds with
    | [] => K ()
    | _ => none
  | .f (.v t) :: r, d :: ds, K => match d.as (.v t) with
    | true => mapK (purK C m true 8) d.cells fun cs => match decC C t cs with
      | some x => decVsK C m r ds fun y => K (x, y)
      | none => none
    | false => none
  | _, _, _ => none

def oneOf : List (DT T) → DT T
  | [d] => d
  | l => .tup l

/-- a call that only looks. -/
def callR (E : Env T) (f : Nat) (ds : List (DT T)) (m : MT T) (K : DT T → Option R) : Option R :=
  match E.F f ds with
  | some S => match S.ps.all Slot.isV && S.rs.all (fun r => r.isV && r.flat E.fl) with
    | true => decVsK E.C m S.ps ds fun x => (S.fn x).bind fun r => K (oneOf (encFVs E.C 0 S.rs r.2).1)
    | false => none
  | none => none

/-- the arguments of a call, and the boxes that come back. -/
def argsK (C : Cd T) (sn : Bool) : (ss : List Slot) → MT T → List (DT T) → (tySs T ss → List Nat → MT T → Option R) → Option R
  | [], m, ds, K => match ds with
    | [] => K () [] m
    | _ => none
  | .f (.v t) :: r, m, d :: ds, K => match d.as (.v t) with
    | true => match sn with
      | true => mapK (purK C m true 8) d.cells fun cs => match decC C t cs with
        | some x => argsK C sn r m ds fun y ids m' => K (x, y) ids m'
        | none => none
      | false => decFK C m (.v t) d.cells fun x m' => argsK C sn r m' ds fun y ids m'' => K (x, y) ids m''
    | false => none
  | .f (.own c) :: r, m, d :: ds, K => decOK m c d fun x m' => argsK C sn r m' ds fun y ids m'' => K (x, y) ids m''
  | .f (.fp f t) :: r, m, d :: ds, K => match d.as (.fp f t) with
    | true => decFK C m (.fp f t) d.cells fun x m' => argsK C sn r m' ds fun y ids m'' => K (x, y) ids m''
    | false => none
  | .ptr fs :: r, m, d :: ds, K => match d with
    | .bp b 0 => match m.get b with
      | .var cs => decFsK C fs (m.put b .lent) cs fun x m' => argsK C sn r m' ds fun y ids m'' => K (x, y) (b :: ids) m''
      | _ => none
    | _ => none
  | .inp c :: r, m, d :: ds, K => match d with
    | .bw b g c' _ => match Nat.beq c' c with
      | true => match boxA m b g c with
        | some l => argsK C sn r (m.put b .lent) ds fun y ids m'' => K (l, y) (b :: ids) m''
        | none => none
      | false => none
    | _ => none
  | _, _, _, _ => none

/-- what comes back into the boxes. -/
def backO (C : Cd T) (m0 : MT T) : (ss : List Slot) → List Nat → tyO T ss → MT T → Option (MT T)
  | [], _, _, m => some m
  | .ptr fs :: r, b :: ids, x, m => match encFs C m.length fs x.1 with
    | (cs, bs) => backO C m0 r ids x.2 ((m ++ bs).put b (.var cs))
  | .inp c :: r, b :: ids, x, m => match m0.get b with
    | .arr g _ _ => backO C m0 r ids x.2 (m.put b (.arr g c x.1))
    | _ => none
  | .ptr _ :: _, [], _, _ => none
  | .inp _ :: _, [], _, _ => none
  | .f _ :: r, ids, x, m => backO C m0 r ids x m
  | .iter :: r, ids, x, m => backO C m0 r ids x m

def callW (E : Env T) (f : Nat) (ds : List (DT T)) (m : MT T) (K : DT T → MT T → Option R) : Option R :=
  match E.F f ds with
  | some S => argsK E.C (S.ps.all Slot.isV && S.rs.all (Fld.flat E.fl)) S.ps m ds fun x ids m1 => (S.fn x).bind fun r =>
      match backO E.C m S.ps ids r.1 m1 with
      | some m2 => match encFVs E.C m2.length S.rs r.2 with
        | (vs, bs) => K (oneOf vs) (m2 ++ bs)
      | none => none
  | none => none

def clsT (E : Env T) (o : Op) : Cls :=
  match o with
  | .load _ _ => .r
  | .convert src dst _ => match elemT E.Y src with
    | some _ => .r
    | none => match elemT E.Y dst with
      | some _ => .w
      | none => .n
  | .alloc _ => .w
  | .box _ _ => .w
  | .store _ _ _ => .w
  | .buildSlice _ _ _ => .w
  | .makeSlice _ _ _ => .w
  | .range _ _ => .w
  | .next _ _ => .w
  | .call { callee := .builtin b, .. } => match b with
    | .len => .n
    | .min => .n
    | .max => .n
    | _ => .w
  | .call { callee := .value (.func f), .. } => match E.ro f with
    | true => .r
    | false => .w
  | .call _ => .w
  | _ => .n

def opK (E : Env T) (o : Op) (e : Operand → DT T) (m : MT T) (K : DT T → MT T → Option R) : Option R :=
  match clsT E o with
  | .n => nK E.Y E.C o e fun d => K d m
  | .r => match o with
    | .call { callee := .value (.func f), args, .. } => callR E f (args.toList.map e) m fun d => K d m
    | o => rK E.Y E.C o e m fun d => K d m
  | .w => match o with
    | .call { callee := .value f, args, .. } => match e f with
      | .fn k cap => callW E k (args.toList.map e ++ cap) m K
      | _ => none
    | o => wK E.Y E.C o e m K

/-! ### a drawn region whose operations share no memory: each runs on its own part of it -/
mutual
def DT.ids : DT T → List Nat
  | .bp b _ => [b]
  | .ap b _ _ _ _ => [b]
  | .bs b _ _ _ _ => [b]
  | .bw b _ _ _ => [b]
  | .agg cs => idsL cs
  | .tup cs => idsL cs
  | .fn _ cs => idsL cs
  | _ => []
def idsL : List (DT T) → List Nat
  | [] => []
  | d :: r => d.ids ++ idsL r
end
mutual
def DT.ren (ρ : Nat → Nat) : DT T → DT T
  | .bp b off => .bp (ρ b) off
  | .ap b g c i off => .ap (ρ b) g c i off
  | .bs b g c i n => .bs (ρ b) g c i n
  | .bw b g c n => .bw (ρ b) g c n
  | .agg cs => .agg (renL ρ cs)
  | .tup cs => .tup (renL ρ cs)
  | .fn f cs => .fn f (renL ρ cs)
  | d => d
def renL (ρ : Nat → Nat) : List (DT T) → List (DT T)
  | [] => []
  | d :: r => d.ren ρ :: renL ρ r
end
def BoxT.ids : BoxT T → List Nat
  | .var cs => idsL cs
  | _ => []
def BoxT.ren (ρ : Nat → Nat) : BoxT T → BoxT T
  | .var cs => .var (renL ρ cs)
  | x => x
def BoxT.isLent : BoxT T → Bool
  | .lent => true
  | _ => false
def reach (m : MT T) : Nat → List Nat → List Nat
  | 0, l => l
  | n + 1, l => l ++ reach m n (l.flatMap fun b => (m.get b).ids)
def has (Φ : List Nat) (k : Nat) : Bool := Φ.any (Nat.beq k)
def keepM (Φ : List Nat) : Nat → MT T → MT T
  | _, [] => []
  | k, x :: r => (match has Φ k with | true => x | false => .lent) :: keepM Φ (k + 1) r
def inGap (base wd b : Nat) : Bool := Nat.ble base b && Nat.blt b (base + wd)
def renG (N base b : Nat) : Nat :=
  match Nat.blt b N with
  | true => b
  | false => base + (b - N)
def okG (Φ : List Nat) (N base wd b : Nat) : Bool :=
  match Nat.blt b N with
  | true => has Φ b && !inGap base wd b
  | false => Nat.blt b (N + wd)
def chkG (Φ : List Nat) (N base wd : Nat) (d : DT T) (m m' : MT T) : Bool :=
  (d.ids.all (okG Φ N base wd) && (Nat.ble m'.length (N + wd) && Nat.ble (base + wd) N)) &&
  ((Φ.all fun b => (m'.get b).ids.all (okG Φ N base wd) && (!(m.get b).isLent && !(m'.get b).isLent)) &&
   (List.range wd).all fun j => (m'.get (N + j)).ids.all (okG Φ N base wd) && ((m.get (base + j)).isLent && !(m'.get (N + j)).isLent))
def mergeM (Φ : List Nat) (N base wd : Nat) (m' : MT T) : Nat → MT T → MT T
  | _, [] => []
  | k, x :: r => (match inGap base wd k with
    | true => (m'.get (N + (k - base))).ren (renG N base)
    | false => match has Φ k with
      | true => (m'.get k).ren (renG N base)
      | false => x) :: mergeM Φ N base wd m' (k + 1) r
def wdOf : Op → Nat
  | .store _ _ _ => 0
  | .next _ _ => 0
  | .call { callee := .value _, .. } => 4
  | _ => 1
def widthG (E : Env T) (o : Op) : Nat :=
  match clsT E o with
  | .w => wdOf o
  | _ => 0
def semGK (E : Env T) (o : Op) (e : Operand → DT T) (m : MT T) (Φ : List Nat) (base : Nat) (K : DT T → MT T → Option R) : Option R :=
  match clsT E o with
  | .n => opK E o e m K
  | .r => opK E o e (keepM Φ 0 m) fun d m' => match chkG Φ m.length 0 0 d m m' with
    | true => K d m
    | false => none
  | .w => opK E o e (keepM Φ 0 m) fun d m' => match chkG Φ m.length base (wdOf o) d m m' with
    | true => K (d.ren (renG m.length base)) (mergeM Φ m.length base (wdOf o) m' 0 m)
    | false => none
def fpG (E : Env T) (o : Op) (e : Operand → DT T) (m : MT T) : List Nat :=
  match clsT E o with
  | .n => []
  | _ => reach m 4 (o.operands.toList.flatMap fun x => (e x).ids)

/-! ### statements -/
structure ST (T : Nat → Type) where
  ts : List (Nat × DT T)
  m : MT T
def ST.put (σ : ST T) (dst : Option Nat) (d : DT T) : ST T :=
  match dst with
  | some k => ⟨(k, d) :: σ.ts, σ.m⟩
  | none => σ

def stepT (E : Env T) (o : Oper) (σ : ST T) (K : ST T → Option R) : Option R :=
  opK E o.op (evT E.G (tget σ.ts)) σ.m fun d m' => K (ST.put ⟨σ.ts, m'⟩ o.dst d)
def runT (E : Env T) (ops : Array Oper) : List Oper → ST T → (ST T → Option R) → Option R
  | [], σ, K => K σ
  | o :: r, σ, K => match gslot ops o with
    | none => stepT E o σ fun σ' => runT E ops r σ' K
    | some (some k, true) => match tget σ.ts k with
      | .bool b => bif b then stepT E o ⟨(k, .bool true) :: σ.ts, σ.m⟩ (fun σ' => runT E ops r σ' K)
          else runT E ops r (ST.put ⟨(k, .bool false) :: σ.ts, σ.m⟩ o.dst (.tup [])) K
      | .tup [] => runT E ops r (ST.put σ o.dst (.tup [])) K
      | _ => none
    | some (some k, false) => match tget σ.ts k with
      | .bool b => bif b then runT E ops r (ST.put ⟨(k, .bool true) :: σ.ts, σ.m⟩ o.dst (.tup [])) K
          else stepT E o ⟨(k, .bool false) :: σ.ts, σ.m⟩ (fun σ' => runT E ops r σ' K)
      | .tup [] => runT E ops r (ST.put σ o.dst (.tup [])) K
      | _ => none
    | some (none, _) => none

def stepGK (E : Env T) (o : Oper) (base : Nat) (σ : ST T) (K : List Nat → ST T → Option R) : Option R :=
  semGK E o.op (evT E.G (tget σ.ts)) σ.m (fpG E o.op (evT E.G (tget σ.ts)) σ.m) base fun d m' => K (fpG E o.op (evT E.G (tget σ.ts)) σ.m) (ST.put ⟨σ.ts, m'⟩ o.dst d)
def runGK (E : Env T) (ops : Array Oper) : List Oper → Nat → List (List Nat × Nat) → ST T → (List (List Nat × Nat) → ST T → Option R) → Option R
  | [], _, acc, σ, K => K acc σ
  | o :: r, base, acc, σ, K => match gslot ops o with
    | none => stepGK E o base σ fun Φ σ' => runGK E ops r (base + widthG E o.op) (acc ++ [(Φ, base)]) σ' K
    | some (some k, true) => match tget σ.ts k with
      | .bool b => bif b then stepGK E o base ⟨(k, .bool true) :: σ.ts, σ.m⟩ (fun Φ σ' => runGK E ops r (base + widthG E o.op) (acc ++ [(Φ, base)]) σ' K)
          else runGK E ops r (base + widthG E o.op) (acc ++ [([], base)]) (ST.put ⟨(k, .bool false) :: σ.ts, σ.m⟩ o.dst (.tup [])) K
      | .tup [] => runGK E ops r (base + widthG E o.op) (acc ++ [([], base)]) (ST.put σ o.dst (.tup [])) K
      | _ => none
    | some (some k, false) => match tget σ.ts k with
      | .bool b => bif b then runGK E ops r (base + widthG E o.op) (acc ++ [([], base)]) (ST.put ⟨(k, .bool true) :: σ.ts, σ.m⟩ o.dst (.tup [])) K
          else stepGK E o base ⟨(k, .bool false) :: σ.ts, σ.m⟩ (fun Φ σ' => runGK E ops r (base + widthG E o.op) (acc ++ [(Φ, base)]) σ' K)
      | .tup [] => runGK E ops r (base + widthG E o.op) (acc ++ [([], base)]) (ST.put σ o.dst (.tup [])) K
      | _ => none
    | some (none, _) => none
def disj (a b : List Nat) : Bool := a.all fun x => !has b x
def fullG (E : Env T) (acc : List (List Nat × Nat)) (o : Oper) (i : Nat) : List Nat :=
  match acc.getD i ([], 0) with
  | (Φ, base) => Φ ++ (List.range (widthG E o.op)).map (base + ·)
def indepG (E : Env T) (ops : Array Oper) (acc : List (List Nat × Nat)) (i : Nat) (x : Oper) (j : Nat) (y : Oper) : Bool :=
  x.apart ops y && (!(clsT E x.op).clash (clsT E y.op) || disj (fullG E acc x i) (fullG E acc y j))
def pairsAtG (E : Env T) (ops : Array Oper) (acc : List (List Nat × Nat)) (ms : List Nat) (i : Nat) : Bool :=
  match ops[i]? with
    | some oi => (oi.after.all fun e => !Region.binds .any e || decide (e.on < i)) &&
        (List.range i).all fun j => match ops[j]? with
          | some oj => (ms.getD i 0).testBit j || indepG E ops acc j oj i oi
          | none => false
    | none => false
def pairsOkG (E : Env T) (ops : Array Oper) (acc : List (List Nat × Nat)) : Bool :=
  (List.range ops.size).all (pairsAtG E ops acc (masks ops.toList []))
def clearM : MT T → MT T
  | [] => []
  | x :: r => (match x with | .lent => .gone | x => x) :: clearM r
def widths (E : Env T) : List Oper → Nat
  | [] => 0
  | o :: r => widthG E o.op + widths E r
def regionG (E : Env T) (ops : Array Oper) (σ : ST T) (K : ST T → Option R) : Option R :=
  match List.all σ.m fun x => !x.isLent with
  | true => runGK E ops ops.toList σ.m.length [] ⟨σ.ts, σ.m ++ List.replicate (widths E ops.toList) .lent⟩ fun acc τ => match pairsOkG E ops acc with
    | true => K ⟨τ.ts, clearM τ.m⟩
    | false => none
  | false => none

/-- what is kept of a state. -/
abbrev Shape := List (Nat × Slot)
def Shape.slots (s : Shape) : List Slot := s.map (·.2)
def lay (C : Cd T) (s : Shape) (x : tySs T s.slots) : ST T :=
  match encSs C 0 s.slots x with
  | (ds, bs) => ⟨(s.map (·.1)).zip ds, bs⟩
def takeK (C : Cd T) (s : Shape) (σ : ST T) (K : tySs T s.slots → Option R) : Option R :=
  decSsK C s.slots σ.m (s.map fun p => tget σ.ts p.1) fun x _ => K x

def exB : Ex → Ex → Bool
  | .normal, .normal => true
  | .ret, .ret => true
  | .exit i, .exit j => Nat.beq i j
  | _, _ => false
def tyX (T : Nat → Type) : List (Ex × Shape) → Type
  | [] => Empty
  | [(_, s)] => tySs T s.slots
  | (_, s) :: p :: r => tySs T s.slots ⊕ tyX T (p :: r)
/-- how a loop is left. -/
def outX (C : Cd T) : (xs : List (Ex × Shape)) → (Ex → ST T → Option R) → tyX T xs → Option R
  | [], _ => fun x => nomatch x
  | [(e, s)], K => fun x => K e (lay C s x)
  | (e, s) :: p :: r, K => Sum.elim (fun x => K e (lay C s x)) (outX C (p :: r) K)
def inX (C : Cd T) : (xs : List (Ex × Shape)) → Ex → ST T → (tyX T xs → Option R) → Option R
  | [], _, _, _ => none
  | [(e, s)], e', σ, K => match exB e e' with
    | true => takeK C s σ K
    | false => none
  | (e, s) :: p :: r, e', σ, K => match exB e e' with
    | true => takeK C s σ fun x => K (.inl x)
    | false => inX C (p :: r) e' σ fun x => K (.inr x)

/-- a temporary that is a copy of a slice of one's own: which, of whose variable (or temporary), the cell, the kind of element. -/
abbrev Cp := Nat × Nat × Nat × Nat
def bwOf (c : Nat) : DT T → DT T
  | .bw b g c' n => match Nat.beq c' c with
    | true => .bw b g c' n
    | false => .dead
  | _ => .dead
def cpD (σ : ST T) (k off c : Nat) : DT T :=
  match tget σ.ts k with
  | .bp b 0 => match σ.m.get b with
    | .var cs => match cs[off]? with
      | some d => bwOf c d
      | none => .dead
    | _ => .dead
  | d => bwOf c d
def cpTs (σ : ST T) : List Cp → List (Nat × DT T) → List (Nat × DT T)
  | [], l => l
  | (t, k, off, c) :: r, l => (t, cpD σ k off c) :: cpTs σ r l
def layC (C : Cd T) (s : Shape) (cp : List Cp) (x : tySs T s.slots) : ST T :=
  match lay C s x with
  | σ => ⟨cpTs σ cp σ.ts, σ.m⟩
def isArr (m : MT T) (b g c : Nat) : Bool :=
  match m.get b with
  | .arr g' c' _ => Nat.beq g g' && Nat.beq c c'
  | _ => false
def chkC (σ : ST T) (q : Cp) : Bool :=
  match cpD σ q.2.1 q.2.2.1 q.2.2.2 with
  | .bw b g c _ => match tget σ.ts q.1 with
    | .bw b' g' c' _ => (Nat.beq b b' && (Nat.beq g g' && Nat.beq c c')) && isArr σ.m b g c
    | _ => false
  | _ => false
def takeC (C : Cd T) (s : Shape) (cp : List Cp) (σ : ST T) (K : tySs T s.slots → Option R) : Option R :=
  match cp.all (chkC σ) with
  | true => takeK C s σ K
  | false => none

structure LSpec (T : Nat → Type) where
  head : Shape
  outs : List (Ex × Shape)
  go : tySs T head.slots → Option (tyX T outs)
  cp : List Cp

def firstReg : Code → Option Nat
  | .region id _ _ => some id
  | .seq a _ => firstReg a
  | .block _ b => firstReg b
  | .loop b => firstReg b
  | _ => none

structure Loc2 (T : Nat → Type) where
  lp : Nat → Option (LSpec T)
  jn : Nat → Option (Shape × Bool)
  gr : Nat → Bool := fun _ => false

def run (E : Env T) (A : Loc2 T) : Code → {R : Type} → ST T → (Ex → ST T → Option R) → Option R
  | .skip, _, σ, K => K .normal σ
  | .region id ops _, _, σ, K => match A.gr id with
    | true => regionG E ops σ (K .normal)
    | false => runT E ops ops.toList σ (K .normal)
  | .seq a b, _, σ, K => match (firstReg b).bind A.jn with
    | none => run E A a σ fun e τ => match e with
      | .normal => run E A b τ K
      | e => K e τ
    | some (s, false) => (run E A a σ fun e τ => match e with
        | .normal => takeK E.C s τ fun x => some (Sum.inl x)
        | e => (K e τ).bind fun r => some (Sum.inr r)).bind (Sum.elim (fun x => run E A b (lay E.C s x) K) some)
    | some (s, true) => (run E A a σ fun e τ => match e with
        | .normal => takeK E.C s τ some
        | _ => none).bind fun x => run E A b (lay E.C s x) K
  | .cond c a b, _, σ, K => match evT E.G (tget σ.ts) c with
    | .bool q => bif q then run E A a σ K else run E A b σ K
    | _ => none
  | .block id c, _, σ, K => match A.lp id with
    | some L => takeC E.C L.head L.cp σ fun x => (L.go x).bind (outX E.C L.outs fun e τ => match e with
      | .exit j => match Nat.beq j id with
        | true => K .normal τ
        | false => K (.exit j) τ
      | e => K e τ)
    | none => run E A c σ fun e τ => match e with
      | .exit j => match Nat.beq j id with
        | true => K .normal τ
        | false => K (.exit j) τ
      | e => K e τ
  | .exit id, _, σ, K => K (.exit id) σ
  | .ret, _, σ, K => K .ret σ
  | .label _, _, σ, K => K .normal σ
  | _, _, _, _ => none

/-- the body of the loop in a block. -/
def loopAt (id : Nat) : Code → Code
  | .seq a b => match loopAt id a with
    | .skip => loopAt id b
    | c => c
  | .cond _ a b => match loopAt id a with
    | .skip => loopAt id b
    | c => c
  | .block j c => match c with
    | .loop b => match Nat.beq j id with
      | true => b
      | false => loopAt id b
    | c => loopAt id c
  | .loop b => loopAt id b
  | _ => .skip
def fnAt (ds : List (DT T)) (i : Nat) : Option Nat :=
  match ds[i]? with
  | some (.fn f _) => some f
  | _ => none
def rounds : Nat := 1180591620717411303424
/-- a loop's rounds. -/
def iter {α β : Type} (f : α → Option (α ⊕ β)) : Nat → α → Option β
  | 0, _ => none
  | n + 1, x => (f x).bind (Sum.elim (iter f n) some)
/-- what a round ends with. -/
def roundK (C : Cd T) (s : Shape) (cp : List Cp) (xs : List (Ex × Shape)) (e : Ex) (σ : ST T) : Option (tySs T s.slots ⊕ tyX T xs) :=
  match e with
  | .normal => takeC C s cp σ fun x => some (.inl x)
  | e => inX C xs e σ fun x => some (.inr x)

/-! ### functions -/
def resK (E : Env T) (σ : ST T) : List ResultVar → (List (DT T) → Option R) → Option R
  | [], K => K []
  | .tmp t :: r, K => resK E σ r fun l => K (tget σ.ts t :: l)
  | .cell a t :: r, K => rK E.Y E.C (.load t (.tmp a)) (evT E.G (tget σ.ts)) σ.m fun d => resK E σ r fun l => K (d :: l)
/-- what comes back in the boxes that a call was handed, read at its end. -/
def outsK (C : Cd T) (t : Nat → DT T) : (ss : List Slot) → Nat → MT T → (tyO T ss → MT T → Option R) → Option R
  | [], _, m, K => K () m
  | .ptr fs :: r, j, m, K => match t j with
    | .bp b 0 => match m.get b with
      | .var cs => decFsK C fs (m.put b .gone) cs fun x m' => outsK C t r (j + 1) m' fun y m'' => K (x, y) m''
      | _ => none
    | _ => none
  | .inp c :: r, j, m, K => match t j with
    | .bw b g c' _ => match Nat.beq c' c with
      | true => match boxA m b g c with
        | some l => outsK C t r (j + 1) (m.put b .gone) fun y m'' => K (l, y) m''
        | none => none
      | false => none
    | _ => none
  | .f _ :: r, j, m, K => outsK C t r (j + 1) m K
  | .iter :: r, j, m, K => outsK C t r (j + 1) m K
def retK (E : Env T) (res : List ResultVar) (ps : List Slot) (rs : List Fld) (e : Ex) (σ : ST T) : Option (tyO T ps × tyFs T rs) :=
  match e with
  | .exit _ => none
  | _ => resK E σ res fun ds => outsK E.C (tget σ.ts) ps 0 σ.m fun x m => decFVsK E.C rs m ds fun y _ => some (x, y)
def enterT (C : Cd T) (ps : List Slot) (x : tySs T ps) : ST T :=
  match encSs C 0 ps x with
  | (ds, bs) => ⟨(List.range ds.length).zip ds, bs⟩
end
end Go.Abs

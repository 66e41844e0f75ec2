/- The operations on typed abstract values, each with what follows it as a continuation. Definitions alone. No condition. -/
import Derived.Test.YtlinfghjilpcdaaTyA
namespace Go.Abs
open Go

/-- element number i, for an index of a signed type. -/
def getI {α : Type} (l : List α) (i : Int) : Option α := bif decide (0 ≤ i) then l[i.toNat]? else none

section
variable {T : Nat → Type} {R : Type}

/-- the elements, one after the other. -/
def mapK {α β : Type} (f : α → (β → Option R) → Option R) : List α → (List β → Option R) → Option R
  | [], K => K []
  | d :: r, K => f d fun d' => mapK f r fun r' => K (d' :: r')

def atK {α : Type} (l : List α) (x : DT T) (K : α → Option R) : Option R :=
  match x with
  | .int _ i => (getI l i).bind K
  | .u8 x => (l[x.toNat]?).bind K
  | .u16 x => (l[x.toNat]?).bind K
  | .u32 x => (l[x.toNat]?).bind K
  | .u64 x => (l[x.toNat]?).bind K
  | _ => none
def ltK (x : DT T) (n : Nat) (K : Nat → Option R) : Option R :=
  match x with
  | .int _ i => bif decide (0 ≤ i) && decide (i < n) then K i.toNat else none
  | .u8 x => bif decide (x.toNat < n) then K x.toNat else none
  | .u16 x => bif decide (x.toNat < n) then K x.toNat else none
  | .u32 x => bif decide (x.toNat < n) then K x.toNat else none
  | .u64 x => bif decide (x.toNat < n) then K x.toNat else none
  | _ => none
/-- a bound within n. -/
def leK (x : DT T) (n : Nat) (K : Nat → Option R) : Option R :=
  match x with
  | .int _ i => bif decide (0 ≤ i) && decide (i ≤ n) then K i.toNat else none
  | .u8 x => bif decide (x.toNat ≤ n) then K x.toNat else none
  | .u16 x => bif decide (x.toNat ≤ n) then K x.toNat else none
  | .u32 x => bif decide (x.toNat ≤ n) then K x.toNat else none
  | .u64 x => bif decide (x.toNat ≤ n) then K x.toNat else none
  | _ => none
/-- the bounds of a cut: lo, hi. -/
def cutK {R : Type} (n : Nat) (lo hi : Option (DT T)) (K : Option Nat → Option Nat → Option R) : Option R :=
  match lo, hi with
  | none, none => K none none
  | some a, none => leK a n fun a => K (some a) none
  | none, some b => leK b n fun b => K none (some b)
  | some a, some b => leK b n fun b => leK a b fun a => K (some a) (some b)
def cutL {α : Type} (l : List α) : Option Nat → Option Nat → List α
  | none, none => l
  | some a, none => l.drop a
  | none, some b => l.take b
  | some a, some b => (l.take b).drop a

/-! ### numbers -/
/-- how far to shift. -/
def cntK (y : DT T) (K : Nat → Option R) : Option R :=
  match y with
  | .int _ n => bif decide (0 ≤ n) then K n.toNat else none
  | .u8 x => K x.toNat
  | .u16 x => K x.toNat
  | .u32 x => K x.toNat
  | .u64 x => K x.toNat
  | _ => none

def intK (op : BinOp) (k : IntKind) (a : Int) (k' : IntKind) (b : Int) (K : DT T → Option R) : Option R :=
  match decide (k = k') with
  | false => none
  | true => match op with
    | .add => K (.int k (k.wrap (a + b)))
    | .sub => K (.int k (k.wrap (a - b)))
    | .mul => K (.int k (k.wrap (a * b)))
    | .quo => bif decide (b = 0) then none else K (.int k (k.wrap (a.tdiv b)))
    | .rem => bif decide (b = 0) then none else K (.int k (a.tmod b))
    | .and => K (.int k (k.wrap (BitVec.ofInt k.bits a &&& BitVec.ofInt k.bits b).toNat))
    | .or => K (.int k (k.wrap (BitVec.ofInt k.bits a ||| BitVec.ofInt k.bits b).toNat))
    | .xor => K (.int k (k.wrap (BitVec.ofInt k.bits a ^^^ BitVec.ofInt k.bits b).toNat))
    | .andNot => K (.int k (k.wrap (BitVec.ofInt k.bits a &&& ~~~ BitVec.ofInt k.bits b).toNat))
    | .eql => K (.bool (decide (a = b)))
    | .neq => K (.bool (!decide (a = b)))
    | .lss => K (.bool (decide (a < b)))
    | .leq => K (.bool (decide (a ≤ b)))
    | .gtr => K (.bool (decide (b < a)))
    | .geq => K (.bool (decide (b ≤ a)))
    | _ => none

def bvK {w : Nat} (op : BinOp) (a b : BitVec w) (K : BitVec w → Option R) (Q : Bool → Option R) : Option R :=
  match op with
  | .add => K (a + b)
  | .sub => K (a - b)
  | .mul => K (a * b)
  | .quo => bif decide (b = 0) then none else K (a / b)
  | .rem => bif decide (b = 0) then none else K (a % b)
  | .and => K (a &&& b)
  | .or => K (a ||| b)
  | .xor => K (a ^^^ b)
  | .andNot => K (a &&& ~~~ b)
  | .eql => Q (decide (a = b))
  | .neq => Q (!decide (a = b))
  | .lss => Q (decide (a.toNat < b.toNat))
  | .leq => Q (decide (a.toNat ≤ b.toNat))
  | .gtr => Q (decide (b.toNat < a.toNat))
  | .geq => Q (decide (b.toNat ≤ a.toNat))
  | _ => none

def shlK (x : DT T) (n : Nat) (K : DT T → Option R) : Option R :=
  match x with
  | .int k a => K (.int k (k.wrap (a * 2 ^ (min n k.bits))))
  | .u8 x => K (.u8 (UInt8.ofBitVec (x.toBitVec <<< n)))
  | .u16 x => K (.u16 (x <<< n))
  | .u32 x => K (.u32 (x <<< n))
  | .u64 x => K (.u64 (x <<< n))
  | _ => none
def shrK (x : DT T) (n : Nat) (K : DT T → Option R) : Option R :=
  match x with
  | .int k a => K (.int k (a.fdiv (2 ^ (min n k.bits))))
  | .u8 x => K (.u8 (UInt8.ofBitVec (x.toBitVec >>> n)))
  | .u16 x => K (.u16 (x >>> n))
  | .u32 x => K (.u32 (x >>> n))
  | .u64 x => K (.u64 (x >>> n))
  | _ => none

def strK (op : BinOp) (a b : List UInt8) (K : DT T → Option R) : Option R :=
  match op with
  | .add => bif Nat.ble (a.length + b.length) 9223372036854775807 then K (.str (a ++ b)) else none
  | .eql => K (.bool (decide (a = b)))
  | .neq => K (.bool (!decide (a = b)))
  | .lss => K (.bool (Op.bytesLess a b))
  | .leq => K (.bool (Op.bytesLess a b || decide (a = b)))
  | .gtr => K (.bool (!(Op.bytesLess a b || decide (a = b))))
  | .geq => K (.bool (!Op.bytesLess a b))
  | _ => none

def eqC1 : Nat → DT T → DT T → Option Bool
  | 3, .int k a, .int k' b => match decide (k = k') with
    | true => some (decide (a = b))
    | false => none
  | 3, .u8 a, .u8 b => some (decide (a = b))
  | 3, .u16 a, .u16 b => some (decide (a = b))
  | 3, .u32 a, .u32 b => some (decide (a = b))
  | 3, .u64 a, .u64 b => some (decide (a = b))
  | 1, .bool a, .bool b => some (a == b)
  | 2, .str a, .str b => some (decide (a = b))
  | _, _, _ => none
def eqCT : List Nat → List (DT T) → List (DT T) → Option Bool
  | [], [], [] => some true
  | q :: qs, x :: r, y :: r' => match eqC1 q x y with
    | some p => match eqCT qs r r' with
      | some p' => some (p && p')
      | none => none
    | none => none
  | _, _, _ => none

def binK (Y : Nat → Option TI) (op : BinOp) (t : Nat) (x y : DT T) (K : DT T → Option R) : Option R :=
  match op with
  | .shl => cntK y fun n => shlK x n K
  | .shr => cntK y fun n => shrK x n K
  | _ => match x with
    | .int k a => match y with
      | .int k' b => intK op k a k' b K
      | _ => none
    | .u8 a => match y with
      | .u8 b => bvK op a.toBitVec b.toBitVec (fun z => K (.u8 (UInt8.ofBitVec z))) (fun q => K (.bool q))
      | _ => none
    | .u16 a => match y with
      | .u16 b => bvK op a b (fun z => K (.u16 z)) (fun q => K (.bool q))
      | _ => none
    | .u32 a => match y with
      | .u32 b => bvK op a b (fun z => K (.u32 z)) (fun q => K (.bool q))
      | _ => none
    | .u64 a => match y with
      | .u64 b => bvK op a b (fun z => K (.u64 z)) (fun q => K (.bool q))
      | _ => none
    | .str a => match y with
      | .str b => strK op a b K
      | _ => none
    | .bool a => match y with
      | .bool b => match Y t with
        | some i => match i.kind with
          | .bool => match op with
            | .eql => K (.bool (a == b))
            | .neq => K (.bool (!(a == b)))
            | _ => none
          | _ => none
        | none => none
      | _ => none
    | .agg xs => match y with
      | .agg ys => match Y t with
        | some i => match i.eqs with
          | some q => match op with
            | .eql => match eqCT q xs ys with
              | some p => K (.bool p)
              | none => none
            | .neq => match eqCT q xs ys with
              | some p => K (.bool (!p))
              | none => none
            | _ => none
          | none => none
        | none => none
      | _ => none
    | _ => none

def unK (op : UnOp) (x : DT T) (K : DT T → Option R) : Option R :=
  match op, x with
  | .not, .bool b => K (.bool (!b))
  | .neg, .int k n => K (.int k (k.wrap (0 - n)))
  | .neg, .u8 x => K (.u8 (UInt8.ofBitVec (- x.toBitVec)))
  | .neg, .u16 x => K (.u16 (- x))
  | .neg, .u32 x => K (.u32 (- x))
  | .neg, .u64 x => K (.u64 (- x))
  | .xor, .int k n => K (.int k (k.wrap (BitVec.ofInt k.bits (if k.signed then -1 else k.max) ^^^ BitVec.ofInt k.bits n).toNat))
  | .xor, .u8 x => K (.u8 (UInt8.ofBitVec (~~~ x.toBitVec)))
  | .xor, .u16 x => K (.u16 (~~~ x))
  | .xor, .u32 x => K (.u32 (~~~ x))
  | .xor, .u64 x => K (.u64 (~~~ x))
  | _, _ => none

/-- an unsigned number as one of another kind. -/
def cvtU {w : Nat} (k : IntKind) (x : BitVec w) : DT T :=
  match k with
  | .u8 => .u8 (UInt8.ofBitVec (x.setWidth 8))
  | .u16 => .u16 (x.setWidth 16)
  | .u32 => .u32 (x.setWidth 32)
  | .u64 => .u64 (x.setWidth 64)
  | k => match Nat.blt w k.bits with
    | true => .int k x.toNat
    | false => .int k (k.wrap x.toNat)
def cvtI (k : IntKind) (n : Int) : DT T :=
  match k with
  | .u8 => .u8 (UInt8.ofBitVec (BitVec.ofInt 8 n))
  | .u16 => .u16 (BitVec.ofInt 16 n)
  | .u32 => .u32 (BitVec.ofInt 32 n)
  | .u64 => .u64 (BitVec.ofInt 64 n)
  | k => .int k (k.wrap n)
def convK (Y : Nat → Option TI) (src dst : Nat) (x : DT T) (K : DT T → Option R) : Option R :=
  match Y src with
  | none => none
  | some _ => match Y dst with
    | none => none
    | some i => match i.kind with
      | .int k => match x with
        | .int _ n => K (cvtI k n)
        | .u8 x => K (cvtU k x.toBitVec)
        | .u16 x => K (cvtU k x)
        | .u32 x => K (cvtU k x)
        | .u64 x => K (cvtU k x)
        | _ => none
      | .str => match x with
        | .int _ n => K (.str (Utf8.encode n).data.toList)
        | .str l => K (.str l)
        | _ => none
      | _ => none

/-! ### structures -/
def loadT (Y : Nat → Option TI) (t : Nat) (cs : List (DT T)) : Option (DT T) :=
  match Y t with
  | none => none
  | some i => match i.kind.agg with
    | true => match Nat.ble i.sz cs.length with
      | true => some (.agg (cs.take i.sz))
      | false => none
    | false => cs.head?
def ldK (Y : Nat → Option TI) (t : Nat) (cs : List (DT T)) (K : DT T → Option R) : Option R :=
  match loadT Y t cs with
  | some d => K d
  | none => none

def fillT (place : Nat → Option (Nat × Nat)) : List (DT T) → List (Nat × DT T) → Option (List (DT T))
  | cells, [] => some cells
  | cells, (i, x) :: r => match place i with
    | some (o, s) => match x.fit && (Nat.beq x.cells.length s && Nat.ble (o + s) cells.length) with
      | true => fillT place (setT cells o x.cells) r
      | false => none
    | none => none
def buildT (Y : Nat → Option TI) (t : Nat) (parts : List (Nat × DT T)) : Option (DT T) :=
  match Y t with
  | none => none
  | some i => match i.kind with
    | .strct => (fillT (fun j => i.places[j]?) (i.zero.map Zc.toT) parts).map .agg
    | .arr _ e => match Y e with
      | some j => (fillT (fun k => some (k * j.sz, j.sz)) (i.zero.map Zc.toT) parts).map .agg
      | none => none
    | _ => none

def fldT (Y : Nat → Option TI) (t k : Nat) : Option (Nat × Nat) :=
  match Y t with
  | some i => match i.flds[k]? with
    | some q => q
    | none => none
  | none => none
def fieldAddrT (Y : Nat → Option TI) (t : Nat) (x : DT T) (k : Nat) : Option (DT T) :=
  match fldT Y t k with
  | some (o, _) => match x with
    | .bp b off => some (.bp b (off + o))
    | .ap b g c i off => some (.ap b g c i (off + o))
    | .rp cs => some (.rp (cs.drop o))
    | _ => none
  | none => none
def fieldT (Y : Nat → Option TI) (t : Nat) (x : DT T) (k : Nat) : Option (DT T) :=
  match fldT Y t k with
  | some (o, ft) => match x with
    | .agg cs => loadT Y ft (cs.drop o)
    | _ => none
  | none => none

/-! ### slices -/
def elemT (Y : Nat → Option TI) (t : Nat) : Option Nat :=
  match Y t with
  | some i => match i.kind with
    | .slice e => some e
    | _ => none
  | none => none
def arrT (Y : Nat → Option TI) (t : Nat) : Option (Nat × Nat × Nat) :=
  match Y t with
  | some i => match i.kind with
    | .arr n e => match Y e with
      | some j => some (n, e, j.sz)
      | none => none
    | _ => none
  | none => none
def isStr (Y : Nat → Option TI) (t : Nat) : Bool :=
  match Y t with
  | some i => match i.kind with
    | .str => true
    | _ => false
  | none => false
/-- the element type, and that its elements lie as c says. -/
def elemC (Y : Nat → Option TI) (C : Cd T) (t c : Nat) : Bool :=
  match elemT Y t with
  | some e => match Y e with
    | some j => Nat.beq j.sz (C.sz c)
    | none => false
  | none => false

def indexAddrK (Y : Nat → Option TI) (C : Cd T) (t : Nat) (x i : DT T) (K : DT T → Option R) : Option R :=
  match x with
  | .rs c l => match elemC Y C t c with
    | true => atK l i fun x => K (.rp (C.enc c x))
    | false => none
  | .bw b g c n => match elemC Y C t c with
    | true => ltK i n fun k => K (.ap b g c k 0)
    | false => none
  | .bs b g c o n => match elemC Y C t c with
    | true => ltK i n fun k => K (.ap b g c (k + o) 0)
    | false => none
  | .bp b off => match arrT Y t with
    | some (n, _, s) => ltK i n fun k => K (.bp b (off + k * s))
    | none => none
  | .rp cs => match arrT Y t with
    | some (n, _, s) => ltK i n fun k => K (.rp (cs.drop (k * s)))
    | none => none
  | _ => none

def indexK (Y : Nat → Option TI) (t : Nat) (x i : DT T) (K : DT T → Option R) : Option R :=
  match x with
  | .str l => match isStr Y t with
    | true => atK l i fun b => K (.u8 b)
    | false => none
  | .agg cs => match arrT Y t with
    | some (n, e, s) => ltK i n fun k => ldK Y e (cs.drop (k * s)) K
    | none => none
  | _ => none

/-- a window of a box. -/
def cutB (b g c o n : Nat) : Option Nat → Option Nat → DT T
  | none, none => .bs b g c o n
  | some a, none => .bs b g c (a + o) (n - a)
  | none, some h => .bs b g c o h
  | some a, some h => .bs b g c (a + o) (h - a)
def sliceK (Y : Nat → Option TI) (C : Cd T) (t : Nat) (x : DT T) (lo hi : Option (DT T)) (K : DT T → Option R) : Option R :=
  match x with
  | .str l => match isStr Y t with
    | true => cutK l.length lo hi fun a b => K (.str (cutL l a b))
    | false => none
  | .nils => match elemT Y t with
    | some e => match Y e with
      | some _ => cutK 0 lo hi fun _ _ => K .nils
      | none => none
    | none => none
  | .rs c l => match elemC Y C t c with
    | true => cutK l.length lo hi fun a b => K (.rs c (cutL l a b))
    | false => none
  | .bw b g c n => match elemC Y C t c with
    | true => cutK n lo hi fun p q => K (cutB b g c 0 n p q)
    | false => none
  | .bs b g c o n => match elemC Y C t c with
    | true => cutK n lo hi fun p q => K (cutB b g c o n p q)
    | false => none
  | _ => none

def lenK (Y : Nat → Option TI) (t : Nat) (x : DT T) (K : DT T → Option R) : Option R :=
  match x with
  | .str l => match isStr Y t with
    | true => K (.int .i64 l.length)
    | false => none
  | .nils => match elemT Y t with
    | some _ => K (.int .i64 0)
    | none => none
  | .rs _ l => match elemT Y t with
    | some _ => K (.int .i64 l.length)
    | none => none
  | .bs _ _ _ _ n => match elemT Y t with
    | some _ => K (.int .i64 n)
    | none => none
  | .bw _ _ _ n => match elemT Y t with
    | some _ => K (.int .i64 n)
    | none => none
  | .agg _ => match arrT Y t with
    | some (n, _) => K (.int .i64 n)
    | none => none
  | .bp _ _ => match Y t with
    | some i => match i.kind with
      | .ptr a => match arrT Y a with
        | some (n, _) => K (.int .i64 n)
        | none => none
      | _ => none
    | none => none
  | _ => none

def mnK (x y : DT T) (K : DT T → Option R) : Option R :=
  match x, y with
  | .int k a, .int _ b => K (.int k (bif decide (b < a) then b else a))
  | .u64 a, .u64 b => K (.u64 (bif decide (b.toNat < a.toNat) then b else a))
  | _, _ => none
def mxK (x y : DT T) (K : DT T → Option R) : Option R :=
  match x, y with
  | .int k a, .int _ b => K (.int k (bif decide (a < b) then b else a))
  | .u64 a, .u64 b => K (.u64 (bif decide (a.toNat < b.toNat) then b else a))
  | _, _ => none
def foldK (f : DT T → DT T → (DT T → Option R) → Option R) : DT T → List (DT T) → (DT T → Option R) → Option R
  | x, [], K => K x
  | x, y :: r, K => f x y fun z => foldK f z r K

def pickK (q : Bool) (a b : DT T) (K : DT T → Option R) : Option R :=
  match a, b with
  | .bool x, .bool y => K (.bool (bif q then x else y))
  | .int k x, .int k' y => match decide (k = k') with
    | true => K (.int k (bif q then x else y))
    | false => none
  | a, b => bif q then K a else K b

/-- An operation that touches no memory. -/
def nK (Y : Nat → Option TI) (C : Cd T) (o : Op) (e : Operand → DT T) (K : DT T → Option R) : Option R :=
  match o with
  | .move x => K (e x)
  | .assign x => K (e x)
  | .pick c a b => match e c with
    | .bool q => pickK q (e a) (e b) K
    | _ => none
  | .nilCheck x => match e x with
    | .bp b i => K (.bp b i)
    | .ap b g s i k => K (.ap b g s i k)
    | .rp cs => K (.rp cs)
    | .fn f cap => K (.fn f cap)
    | _ => none
  | .binOp op t x y _ => binK Y op t (e x) (e y) K
  | .unOp op _ x => unK op (e x) K
  | .convert src dst x => convK Y src dst (e x) K
  | .build t parts => match buildT Y t (parts.toList.map fun p => (p.1, e p.2)) with
    | some d => K d
    | none => none
  | .fieldAddr t x k => match fieldAddrT Y t (e x) k with
    | some d => K d
    | none => none
  | .field t x k => match fieldT Y t (e x) k with
    | some d => K d
    | none => none
  | .indexAddr t x i => indexAddrK Y C t (e x) (e i) K
  | .index t x i => indexK Y t (e x) (e i) K
  | .slice t x lo hi none => sliceK Y C t (e x) (lo.map e) (hi.map e) K
  | .extract x i => match e x with
    | .tup vs => match vs[i]? with
      | some d => K d
      | none => none
    | _ => none
  | .makeFunc (.func f) first cap => match first.toList with
    | [] => K (.fn f (cap.toList.map e))
    | _ => none
  | .call { callee := .builtin .len, args, argTypes } => match args.toList, argTypes.toList with
    | [x], [t] => lenK Y t (e x) K
    | _, _ => none
  | .call { callee := .builtin .min, args, .. } => match args.toList.map e with
    | x :: r => foldK mnK x r K
    | [] => none
  | .call { callee := .builtin .max, args, .. } => match args.toList.map e with
    | x :: r => foldK mxK x r K
    | [] => none
  | _ => none

/-- a constant. -/
def inK (k : IntKind) (n : Int) : Bool := decide (0 ≤ n) && decide (n < 2 ^ k.bits)
mutual
def ofVT : Value → DT T
  | .bool b => .bool b
  | .int k n => match k.signed with
    | true => .int k n
    | false => match inK k n with
      | true => mkInt k n
      | false => .dead
  | .string s => .str s.data.toList
  | .pointer none => .nilp
  | .slice none 0 0 => .nils
  | .agg ⟨cs⟩ => match cs.all (·.oneCell') with
    | true => .agg (ofVTs cs)
    | false => .dead
  | .nilFunc => .lit .nilFunc
  | .nilIface => .lit .nilIface
  | .map none => .lit (.map none)
  | _ => .dead
def ofVTs : List Value → List (DT T)
  | [] => []
  | v :: r => ofVT v :: ofVTs r
end

def tget : List (Nat × DT T) → Nat → DT T
  | [], _ => .dead
  | (i, d) :: r, j => match Nat.beq j i with
    | true => d
    | false => tget r j
def evT (G : Nat → Option (List (DT T))) (t : Nat → DT T) : Operand → DT T
  | .tmp i => t i
  | .const v => ofVT v
  | .global g => match G g with | some cs => .rp cs | none => .dead
  | .func f => .fn f []
end
end Go.Abs

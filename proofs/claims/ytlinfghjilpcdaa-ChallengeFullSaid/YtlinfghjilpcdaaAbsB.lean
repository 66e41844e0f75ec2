/- The abstract state of a call: its memory, its operations without memory; definitions alone. No condition. -/
import Derived.Test.YtlinfghjilpcdaaAbsA
import Derived.WalkKit
namespace Go.Abs
open Go

/-- A box of the state: gone; a variable's cells; an array that is the call's own; one that is no longer written; a string's iterator. -/
inductive Box where
  | gone
  | lent
  | var (cs : List D)
  | arr (g s : Nat) (rows : List (List D))
  | frz (g s : Nat) (rows : List (List D))
  | iter (l : List UInt8) (pos : Nat)

structure Mem where
  nb : Nat
  bx : Nat → Box

structure S where
  t : Nat → D
  m : Mem

def upd {α : Type} (f : Nat → α) (i : Nat) (x : α) : Nat → α := fun j => if j = i then x else f j
theorem upd_same {α : Type} (f : Nat → α) (i : Nat) (x : α) : upd f i x i = x := by simp [upd]
theorem upd_ne {α : Type} (f : Nat → α) (i j : Nat) (x : α) (h : j ≠ i) : upd f i x j = f j := by simp [upd, h]

def tmpsOf : List (Nat × D) → Nat → D
  | [], _ => .dead
  | (i, d) :: r, j => if j = i then d else tmpsOf r j
def bxOf : List Box → Nat → Box
  | [], _ => .gone
  | b :: _, 0 => b
  | _ :: r, j + 1 => bxOf r j

def S.put (σ : S) (dst : Option Nat) (d : D) : S :=
  match dst with
  | some k => { σ with t := upd σ.t k d }
  | none => σ

mutual
/-- A constant as an abstract value. -/
def ofV : Value → D
  | .bool b => .bool b
  | .int k n => .int k n
  | .string s => .str s.data.toList
  | .pointer none => .nilp
  | .slice none 0 0 => .nils
  | .agg ⟨cs⟩ => if cs.all (·.oneCell') then .agg (ofVs cs) else .dead
  | .nilFunc => .lit .nilFunc
  | .nilIface => .lit .nilIface
  | .map none => .lit (.map none)
  | _ => .dead
def ofVs : List Value → List D
  | [] => []
  | v :: r => ofV v :: ofVs r
end

/-- What a package-level variable that is only read holds. -/
structure Specs where
  glob : Nat → Option (List D)
  fn : Nat → Option (Nat × (List D → Option (D × List Box)))

def ev (Sp : Specs) (t : Nat → D) : Operand → D
  | .tmp i => t i
  | .const v => ofV v
  | .global g => match Sp.glob g with | some cs => .rp cs | none => .dead
  | .func f => .fn f []

def tsz (P : Program) (t : TypeId) : Option Nat := (P.info? t).map (·.size)
def tbytes (P : Program) (t : TypeId) : Option Nat := (P.info? t).map (·.bytes)
def tagg (P : Program) (t : TypeId) : Option Bool := (P.underlying t).map fun | .struct _ => true | .array _ _ => true | _ => false
def tzero (P : Program) (t : TypeId) : Option D := ((P.info? t).bind (·.zero)).map ofV
/-- a field's place: its offset and its type; fields without cells are not served. -/
def tfld (P : Program) (t : TypeId) (k : Nat) : Option (Nat × TypeId) :=
  match P.underlying t with
  | some (.struct fs) => match fs[k]? with
    | some f => match P.info? f.type with
      | some i => if i.size = 0 then none else some (f.offset, f.type)
      | none => none
    | none => none
  | _ => none
def tint (P : Program) (t : TypeId) : Option IntKind := match P.underlying t with | some (.int k) => some k | _ => none
def tstr (P : Program) (t : TypeId) : Bool := match P.underlying t with | some .string => true | _ => false
def tbool (P : Program) (t : TypeId) : Bool := match P.underlying t with | some .bool => true | _ => false
def telem (P : Program) (t : TypeId) : Option TypeId := match P.underlying t with | some (.slice e) => some e | _ => none
def tarr (P : Program) (t : TypeId) : Option (Nat × TypeId) := match P.underlying t with | some (.array n e) => some (n, e) | _ => none

/-- '==' on such a struct is '==' of its cells, one after the other: their kinds (1 bool, 2 string, 3 integer). -/
def fkind (P : Program) (t : TypeId) : Nat := if tbool P t then 1 else if tstr P t then 2 else if (tint P t).isSome then 3 else 0
def flatFields (P : Program) : List Field → Nat → Option (List Nat)
  | [], _ => some []
  | f :: r, o => if f.name ≠ "_" ∧ f.offset = o ∧ fkind P f.type ≠ 0 then (flatFields P r (o + 1)).map (fkind P f.type :: ·) else none
def flatEq (P : Program) (t : TypeId) : Option (List Nat) :=
  match P.underlying t with
  | some (.struct fs) => if P.stoodInHeld t = false ∧ P.eqGuardType P.depth t = false then flatFields P fs.toList 0 else none
  | _ => none

def D.cells : D → List D
  | .agg cs => cs
  | d => [d]
def D.one : D → Bool
  | .agg _ => false
  | .tup _ => false
  | .dead => false
  | .lit (.agg _) => false
  | .lit (.tuple _) => false
  | _ => true

/-- its cells are known. -/
def D.fit : D → Bool
  | .agg _ => true
  | d => d.one

/-- cells 'vs' written over 'cs' from the place k on. -/
def setCells : List D → Nat → List D → List D
  | cs, _, [] => cs
  | [], _, _ :: _ => []
  | _ :: cs, 0, v :: vs => v :: setCells cs 0 vs
  | c :: cs, k + 1, v :: vs => c :: setCells cs k (v :: vs)

def loadD (P : Program) (t : TypeId) (cs : List D) : Option D :=
  match tagg P t with
  | some true => match tsz P t with
    | some m => if m ≤ cs.length then some (.agg (cs.take m)) else none
    | none => none
  | some false => match cs with
    | c :: _ => some c
    | [] => none
  | none => none

def eqCells : List Nat → List D → List D → Option Bool
  | [], [], [] => some true
  | 3 :: q, .int k a :: r, .int k' b :: r' => if k = k' then (eqCells q r r').map ((a == b) && ·) else none
  | 1 :: q, .bool a :: r, .bool b :: r' => (eqCells q r r').map ((a == b) && ·)
  | 2 :: q, .str a :: r, .str b :: r' => (eqCells q r r').map ((a == b) && ·)
  | _, _, _ => none

def intBin (op : BinOp) (k : IntKind) (a : Int) (k' : IntKind) (b : Int) : Option D :=
  match op with
  | .shl => if b < 0 then none else some (.int k (k.wrap (a * 2 ^ (min b.toNat k.bits))))
  | .shr => if b < 0 then none else some (.int k (a.fdiv (2 ^ (min b.toNat k.bits))))
  | _ => if k ≠ k' then none else match op with
    | .add => some (.int k (k.wrap (a + b)))
    | .sub => some (.int k (k.wrap (a - b)))
    | .mul => some (.int k (k.wrap (a * b)))
    | .quo => if b = 0 then none else some (.int k (k.wrap (a.tdiv b)))
    | .rem => if b = 0 then none else some (.int k (a.tmod b))
    | .and => some (.int k (k.wrap (BitVec.ofInt k.bits a &&& BitVec.ofInt k.bits b).toNat))
    | .or => some (.int k (k.wrap (BitVec.ofInt k.bits a ||| BitVec.ofInt k.bits b).toNat))
    | .xor => some (.int k (k.wrap (BitVec.ofInt k.bits a ^^^ BitVec.ofInt k.bits b).toNat))
    | .andNot => some (.int k (k.wrap (BitVec.ofInt k.bits a &&& ~~~ BitVec.ofInt k.bits b).toNat))
    | .eql => some (.bool (a == b))
    | .neq => some (.bool (a != b))
    | .lss => some (.bool (a < b))
    | .leq => some (.bool (a ≤ b))
    | .gtr => some (.bool (a > b))
    | .geq => some (.bool (a ≥ b))
    | _ => none

def strBin (op : BinOp) (a b : List UInt8) : Option D :=
  match op with
  | .add => if ((a.length + b.length : Nat) : Int) > IntKind.i64.max then none else some (.str (a ++ b))
  | .eql => some (.bool (a == b))
  | .neq => some (.bool (!(a == b)))
  | .lss => some (.bool (Op.bytesLess a b))
  | .leq => some (.bool (Op.bytesLess a b || a == b))
  | .gtr => some (.bool (!(Op.bytesLess a b || a == b)))
  | .geq => some (.bool (!Op.bytesLess a b))
  | _ => none

def binD (P : Program) (op : BinOp) (t : TypeId) (x y : D) : Option D :=
  match x with
  | .int k a => match y with
    | .int k' b => intBin op k a k' b
    | _ => none
  | .str a => match y with
    | .str b => strBin op a b
    | _ => none
  | .bool a => match y with
    | .bool b => if tbool P t then match op with
        | .eql => some (.bool (a == b))
        | .neq => some (.bool (!(a == b)))
        | _ => none
      else none
    | _ => none
  | .agg xs => match y with
    | .agg ys => match flatEq P t with
      | some q => match op with
        | .eql => (eqCells q xs ys).map .bool
        | .neq => (eqCells q xs ys).map fun b => .bool (!b)
        | _ => none
      | none => none
    | _ => none
  | _ => none

def unD (op : UnOp) (x : D) : Option D :=
  match op, x with
  | .not, .bool b => some (.bool (!b))
  | .neg, .int k n => some (.int k (k.wrap (0 - n)))
  | .xor, .int k n => some (.int k (k.wrap (BitVec.ofInt k.bits (if k.signed then -1 else k.max) ^^^ BitVec.ofInt k.bits n).toNat))
  | _, _ => none

def convD (P : Program) (dst : TypeId) (x : D) : Option D :=
  match x with
  | .int _ n => match tint P dst with
    | some k => some (.int k (k.wrap n))
    | none => if tstr P dst then some (.str (Utf8.encode n).data.toList) else none
  | .str l => if tstr P dst then some (.str l) else none
  | _ => none

/-- the parts of a literal laid over its zero cells. -/
def fillD (place : Nat → Option (Nat × Nat)) : List D → List (Nat × D) → Option (List D)
  | cells, [] => some cells
  | cells, (i, x) :: r => match place i with
    | some (o, s) => if x.fit = true ∧ x.cells.length = s ∧ o + s ≤ cells.length then fillD place (setCells cells o x.cells) r else none
    | none => none

def tplacesL (P : Program) : List Field → Option (List (Nat × Nat))
  | [] => some []
  | f :: r => match tsz P f.type with
    | some s => (tplacesL P r).map ((f.offset, s) :: ·)
    | none => none
def tplaces (P : Program) (t : TypeId) : Option (List (Nat × Nat)) :=
  match P.underlying t with
  | some (.struct fs) => tplacesL P fs.toList
  | _ => none

def buildD (P : Program) (t : TypeId) (parts : List (Nat × D)) : Option D :=
  match tzero P t with
  | some (.agg z) => match tplaces P t with
    | some pl => (fillD (fun i => pl[i]?) z parts).map .agg
    | none => match tarr P t with
      | some (_, e) => match tsz P e with
        | some s => (fillD (fun i => some (i * s, s)) z parts).map .agg
        | none => none
      | none => none
  | _ => none

/-- an index of a slice or a string: within. -/
def idx (x : D) (n : Nat) : Option Nat :=
  match x with
  | .int _ i => if 0 ≤ i ∧ i < n then some i.toNat else none
  | _ => none
def bound (x : Option D) (dflt n : Nat) : Option Nat :=
  match x with
  | some (.int _ i) => if 0 ≤ i ∧ i ≤ n then some i.toNat else none
  | some _ => none
  | none => if dflt ≤ n then some dflt else none

def fieldAddrD (P : Program) (t : TypeId) (x : D) (k : Nat) : Option D :=
  match tfld P t k with
  | some (o, _) => match x with
    | .bp b off => some (.bp b (off + o))
    | .ap b g s i off => some (.ap b g s i (off + o))
    | .rp cs => some (.rp (cs.drop o))
    | _ => none
  | none => none

def fieldD (P : Program) (t : TypeId) (x : D) (k : Nat) : Option D :=
  match tfld P t k with
  | some (o, ft) => match x with
    | .agg cs => loadD P ft (cs.drop o)
    | _ => none
  | none => none

def indexAddrD (P : Program) (t : TypeId) (x i : D) : Option D :=
  match x with
  | .rs s rows => match telem P t with
    | some e => if tsz P e = some s then match idx i rows.length with
        | some k => (rows[k]?).map .rp
        | none => none
      else none
    | none => none
  | .bs b g s o n => match telem P t with
    | some e => if tsz P e = some s then (idx i n).map fun k => .ap b g s (o + k) 0 else none
    | none => none
  | .bp b off => match tarr P t with
    | some (n, e) => match tsz P e with
      | some s => (idx i n).map fun k => .bp b (off + k * s)
      | none => none
    | none => none
  | .rp cs => match tarr P t with
    | some (n, e) => match tsz P e with
      | some s => (idx i n).map fun k => .rp (cs.drop (k * s))
      | none => none
    | none => none
  | _ => none

def indexD (P : Program) (t : TypeId) (x i : D) : Option D :=
  match x with
  | .str l => if tstr P t then match idx i l.length with
      | some k => (l[k]?).map fun b => .int .u8 b.toNat
      | none => none
    else none
  | .agg cs => match tarr P t with
    | some (n, e) => match tsz P e, idx i n with
      | some s, some k => loadD P e (cs.drop (k * s))
      | _, _ => none
    | none => none
  | _ => none

def sliceD (P : Program) (t : TypeId) (x : D) (lo hi : Option D) : Option D :=
  match x with
  | .str l => if tstr P t then match bound hi l.length l.length with
      | some h => (bound lo 0 h).map fun k => .str ((l.take h).drop k)
      | none => none
    else none
  | .nils => match telem P t with
    | some e => if (tsz P e).isSome then match bound hi 0 0 with
        | some h => (bound lo 0 h).map fun _ => .nils
        | none => none
      else none
    | none => none
  | .rs s rows => match telem P t with
    | some e => if tsz P e = some s then match bound hi rows.length rows.length with
        | some h => (bound lo 0 h).map fun k => .rs s ((rows.take h).drop k)
        | none => none
      else none
    | none => none
  | .bs b g s o n => match telem P t with
    | some e => if tsz P e = some s then match bound hi n n with
        | some h => (bound lo 0 h).map fun k => .bs b g s (o + k) (h - k)
        | none => none
      else none
    | none => none
  | _ => none

def lenD (P : Program) (t : TypeId) (x : D) : Option D :=
  match x with
  | .str l => if tstr P t then some (.int .i64 l.length) else none
  | .nils => (telem P t).map fun _ => .int .i64 0
  | .rs _ rows => (telem P t).map fun _ => .int .i64 rows.length
  | .bs _ _ _ _ n => (telem P t).map fun _ => .int .i64 n
  | .agg _ => (tarr P t).map fun q => .int .i64 q.1
  | .bp _ _ => match P.underlying t with
    | some (.pointer a) => (tarr P a).map fun q => .int .i64 q.1
    | _ => none
  | _ => none

def minD : D → D → Option D
  | .int k a, .int _ b => some (.int k (if b < a then b else a))
  | _, _ => none
def maxD : D → D → Option D
  | .int k a, .int _ b => some (.int k (if b > a then b else a))
  | _, _ => none
def foldD (f : D → D → Option D) : D → List D → Option D
  | x, [] => some x
  | x, y :: r => match f x y with
    | some z => foldD f z r
    | none => none

/-- An operation that touches no memory. -/
def semN (P : Program) (o : Op) (e : Operand → D) : Option D :=
  match o with
  | .move x => some (e x)
  | .assign x => some (e x)
  | .pick c a b => match e c with
    | .bool true => some (e a)
    | .bool false => some (e b)
    | _ => none
  | .nilCheck x => match e x with
    | .bp b i => some (.bp b i)
    | .ap b g s i k => some (.ap b g s i k)
    | .rp cs => some (.rp cs)
    | .fn f cap => some (.fn f cap)
    | _ => none
  | .binOp op t x y _ => binD P op t (e x) (e y)
  | .unOp op _ x => unD op (e x)
  | .convert src dst x => if (P.underlying src).isSome then convD P dst (e x) else none
  | .build t parts => buildD P t (parts.toList.map fun p => (p.1, e p.2))
  | .fieldAddr t x k => fieldAddrD P t (e x) k
  | .field t x k => fieldD P t (e x) k
  | .indexAddr t x i => indexAddrD P t (e x) (e i)
  | .index t x i => indexD P t (e x) (e i)
  | .slice t x lo hi none => sliceD P t (e x) (lo.map e) (hi.map e)
  | .extract x i => match e x with
    | .tup vs => vs[i]?
    | _ => none
  | .makeFunc (.func f) first cap => if first.isEmpty then some (.fn f (cap.toList.map e)) else none
  | .call { callee := .builtin .len, args, argTypes } => match args.toList, argTypes.toList with
    | [x], [t] => lenD P t (e x)
    | _, _ => none
  | .call { callee := .builtin .min, args, .. } => match args.toList.map e with
    | x :: r => foldD minD x r
    | [] => none
  | .call { callee := .builtin .max, args, .. } => match args.toList.map e with
    | x :: r => foldD maxD x r
    | [] => none
  | _ => none
end Go.Abs

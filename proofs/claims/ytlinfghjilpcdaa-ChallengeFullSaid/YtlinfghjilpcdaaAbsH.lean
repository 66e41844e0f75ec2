/- The abstract memory of a call, the operations on it, and what it means that a world holds it. Definitions. -/
import Derived.Test.YtlinfghjilpcdaaAbsG
namespace Go.Abs
open Go

structure Fr (O : Nat → Prop) (w w' : World) : Prop where
  os : w'.os = w.os
  tape : w'.tape = w.tape
  output : w'.output = w.output
  size : w.heap.size ≤ w'.heap.size
  block : ∀ b, b < w.heap.size → ¬ O b → w'.heap[b]? = w.heap[b]?

def Unfz (fz : Nat × Nat) (n : Nat) : Prop := ∀ o, o < n → ¬ (fz.1 ≤ o ∧ o < fz.2)

def RelB (I : Nat → Prop) (w : World) (loc : Nat → Nat → Loc) (b : Nat) : Box → Prop
  | .gone => ∀ g, loc b g = .stale ∨ loc b g = .free
  | .lent => True
  | .var cs => (∀ g, g ≠ 0 → loc b g = .free) ∧ ∃ k c el fz, loc b 0 = .blk k ∧ w.heap[k]? = some (.cells c el fz) ∧ Unfz fz c.size ∧ (∀ x ∈ c.toList, x.oneCell' = true) ∧ VL I w cs loc c.toList
  | .arr g s rows => ((∀ g', g' < g → loc b g' = .stale) ∧ ∀ g', g < g' → loc b g' = .free) ∧ ((loc b g = .nil ∧ rows = []) ∨
      ∃ k c el fz, loc b g = .blk k ∧ w.heap[k]? = some (.cells c el fz) ∧ Unfz fz c.size ∧ rows.length * s ≤ c.size ∧ VR I w s rows k 0)
  | .frz g s rows => ((∀ g', g' < g → loc b g' = .stale) ∧ ∀ g', g < g' → loc b g' = .free) ∧ ((loc b g = .nil ∧ rows = []) ∨ ∃ k, loc b g = .blk k ∧ I k ∧ VR I w s rows k 0)
  | .iter l pos => (∀ g, g ≠ 0 → loc b g = .free) ∧ ∃ k, loc b 0 = .blk k ∧ w.heap[k]? = some (.stringIter ⟨l.toArray⟩ pos)

def Box.owned : Box → Bool
  | .var _ => true
  | .arr _ _ _ => true
  | .iter _ _ => true
  | _ => false

structure MRel (O I : Nat → Prop) (loc : Nat → Nat → Loc) (m : Mem) (w : World) : Prop where
  box : ∀ b, b < m.nb → RelB I w loc b (m.bx b)
  free : ∀ b g, m.nb ≤ b → loc b g = .free
  own : ∀ b g k, b < m.nb → (m.bx b).owned = true → loc b g = .blk k → O k ∧ ¬ I k ∧ k < w.heap.size
  inj : ∀ b b' g g' k, b < m.nb → b' < m.nb → (m.bx b).owned = true → (m.bx b').owned = true → loc b g = .blk k → loc b' g' = .blk k → b = b'
  imm : ∀ k, I k → k < w.heap.size
  up : ∀ k, w.heap.size ≤ k → O k

/-- the rows that a slice of a box covers. -/
def Mem.rows (m : Mem) (b g s : Nat) : Option (List (List D)) :=
  match m.bx b with
  | .arr g' s' rows => if g = g' ∧ s = s' then some rows else none
  | .frz g' s' rows => if g = g' ∧ s = s' then some rows else none
  | _ => none

def Mem.cut (m : Mem) (b g s i n : Nat) : Option (List (List D)) :=
  match m.rows b g s with
  | some rows => if i + n ≤ rows.length then some ((rows.drop i).take n) else none
  | none => none

mutual
/-- what a value that may lead into boxes reads as. -/
def snap (m : Mem) : Nat → D → Option D
  | 0, _ => none
  | n + 1, d => match d with
    | .bs b g s i k => (m.cut b g s i k).map (.rs s)
    | .bp b off => match m.bx b with
      | .var cs => (snapL m n (cs.drop off)).map .rp
      | _ => none
    | .ap b g s i off => match m.rows b g s with
      | some rows => (rows[i]?).map fun row => .rp (row.drop off)
      | none => none
    | .agg cs => (snapL m n cs).map .agg
    | .tup cs => (snapL m n cs).map .tup
    | .fn f cs => (snapL m n cs).map (.fn f)
    | d => some d
def snapL (m : Mem) : Nat → List D → Option (List D)
  | _, [] => some []
  | 0, _ :: _ => none
  | n + 1, d :: r => match snap m n d, snapL m (n + 1) r with
    | some x, some y => some (x :: y)
    | _, _ => none
end

mutual
/-- no memory in it. -/
def D.flat : D → Bool
  | .bool _ => true
  | .int _ _ => true
  | .str _ => true
  | .lit _ => true
  | .nilp => true
  | .nils => true
  | .agg cs => flatL cs
  | .tup cs => flatL cs
  | _ => false
def flatL : List D → Bool
  | [] => true
  | d :: r => d.flat && flatL r
end

mutual
/-- it leads into no box of the state. -/
def D.pure : D → Bool
  | .dead => true
  | .bool _ => true
  | .int _ _ => true
  | .str _ => true
  | .lit _ => true
  | .nilp => true
  | .nils => true
  | .rs _ _ => true
  | .rp _ => true
  | .agg cs => pureL cs
  | _ => false
def pureL : List D → Bool
  | [] => true
  | d :: r => d.pure && pureL r
end

def bytesD (l : List UInt8) : List (List D) := l.map fun b => [.int .u8 b.toNat]
def bytesOf : List (List D) → Option (List UInt8)
  | [] => some []
  | [.int .u8 n] :: r => if 0 ≤ n ∧ n < 256 then (bytesOf r).map (UInt8.ofNat n.toNat :: ·) else none
  | _ :: _ => none

def rowsOf (m : Mem) (s : Nat) : D → Option (List (List D))
  | .nils => some []
  | .rs s' rows => if s = s' then some rows else none
  | .bs b g s' i n => if s = s' then m.cut b g s i n else none
  | _ => none

def loadR (P : Program) (m : Mem) (t : TypeId) (x : D) : Option D :=
  match x with
  | .bp b off => match m.bx b with
    | .var cs => loadD P t (cs.drop off)
    | _ => none
  | .ap b g s i off => match m.rows b g s with
    | some rows => match rows[i]? with
      | some row => loadD P t (row.drop off)
      | none => none
    | none => none
  | .rp cs => loadD P t cs
  | _ => none

/-- An operation that reads memory. -/
def semR (P : Program) (Sp : Specs) (o : Op) (e : Operand → D) (m : Mem) : Option D :=
  match o with
  | .load t x => loadR P m t (e x)
  | .convert src dst x => match telem P src with
    | some el => if tint P el = some .u8 ∧ tstr P dst = true then match rowsOf m 1 (e x) with
        | some rows => (bytesOf rows).map .str
        | none => none
      else none
    | none => none
  | .call { callee := .value f, args, .. } => match e f with
    | .fn k cap => match Sp.fn k with
      | some (0, F) => match snapL m 8 (args.toList.map e ++ cap) with
        | some ds => match F ds with
          | some (d, []) => some d
          | _ => none
        | none => none
      | _ => none
    | _ => none
  | _ => none

mutual
/-- the boxes of an answer, numbered on. -/
def D.shift (k : Nat) : D → D
  | .bp b off => .bp (b + k) off
  | .ap b g s i off => .ap (b + k) g s i off
  | .bs b g s i n => .bs (b + k) g s i n
  | .agg cs => .agg (shiftL k cs)
  | .tup cs => .tup (shiftL k cs)
  | .fn f cs => .fn f (shiftL k cs)
  | d => d
def shiftL (k : Nat) : List D → List D
  | [] => []
  | d :: r => d.shift k :: shiftL k r
end
def Box.shift (k : Nat) : Box → Box
  | .var cs => .var (shiftL k cs)
  | b => b
def Mem.join (m : Mem) (bx : List Box) : Mem := { nb := m.nb + bx.length, bx := fun b => if b < m.nb then m.bx b else (bxOf bx (b - m.nb)).shift m.nb }

def Mem.add (m : Mem) (x : Box) : Mem := { nb := m.nb + 1, bx := upd m.bx m.nb x }
def Mem.set (m : Mem) (b : Nat) (x : Box) : Mem := { m with bx := upd m.bx b x }

/-- a row of an array's element type that is zero. -/
def zrow (P : Program) (e : TypeId) (s : Nat) : Option (List D) :=
  match tzero P e with
  | some z => if z.fit = true ∧ z.cells.length = s ∧ z.pure then some z.cells else none
  | none => none

def rowParts (P : Program) (s : Nat) (rows : List (List D)) : List (Nat × D) → Option (List (List D))
  | [] => some rows
  | (i, x) :: r => if x.fit = true ∧ x.cells.length = s ∧ x.pure = true ∧ i < rows.length then rowParts P s (rows.set i x.cells) r else none

def small (need bytes : Nat) : Bool := decide (need ≤ 1099511627776 ∧ (2 * need + 192) * bytes ≤ 281474976710656)

def appendW (P : Program) (m : Mem) (t : TypeId) (s : D) (more : Nat → Option (List (List D))) : Option (D × Mem) :=
  match telem P t with
  | none => none
  | some el => match tsz P el, tbytes P el with
    | some sz, some by' => match zrow P el sz, more sz with
      | some _, some rows' => match s with
        | .nils => if small rows'.length by' then some (.bs m.nb 0 sz 0 rows'.length, m.add (.arr 0 sz rows')) else none
        | .bs b g s' 0 n => match m.bx b with
          | .arr g' s'' rows => if g = g' ∧ s' = sz ∧ s'' = sz ∧ n ≤ rows.length ∧ small (n + rows'.length) by' = true then
              some (.bs b (g + 1) sz 0 (n + rows'.length), m.set b (.arr (g + 1) sz (rows.take n ++ rows')))
            else none
          | _ => none
        | _ => none
      | _, _ => none
    | _, _ => none

/-- An operation that writes or makes memory. -/
def semW (P : Program) (Sp : Specs) (o : Op) (e : Operand → D) (m : Mem) : Option (D × Mem) :=
  match o with
  | .alloc t => match tzero P t with
    | some z => if z.fit then some (.bp m.nb 0, m.add (.var z.cells)) else none
    | none => none
  | .box _ x => if (e x).fit then some (.bp m.nb 0, m.add (.var (e x).cells)) else none
  | .store t x y => match tsz P t with
    | some sz => if (e y).fit = true ∧ (e y).cells.length = sz then match e x with
        | .bp b off => match m.bx b with
          | .var cs => if off + sz ≤ cs.length then some (.dead, m.set b (.var (setCells cs off (e y).cells))) else none
          | _ => none
        | .ap b g s i off => match m.bx b with
          | .arr g' s' rows => if g = g' ∧ s = s' ∧ (e y).pure = true then match rows[i]? with
              | some row => if off + sz ≤ row.length then some (.dead, m.set b (.arr g' s' (rows.set i (setCells row off (e y).cells)))) else none
              | none => none
            else none
          | _ => none
        | _ => none
      else none
    | none => none
  | .buildSlice t n parts => match telem P t with
    | some el => match tsz P el with
      | some sz => if n * sz ≤ 16777216 then match zrow P el sz with
          | some z => match rowParts P sz (List.replicate n z) (parts.toList.map fun p => (p.1, e p.2)) with
            | some rows => some (.bs m.nb 0 sz 0 n, m.add (.arr 0 sz rows))
            | none => none
          | none => none
        else none
      | none => none
    | none => none
  | .range t x => match e x with
    | .str l => if tstr P t then some (.bp m.nb 0, m.add (.iter l 0)) else none
    | _ => none
  | .next x true => match e x with
    | .bp b 0 => match m.bx b with
      | .iter l pos => if pos < l.length then
          some (.tup [.bool true, .int .i64 pos, .int .i32 (Utf8.decode ⟨l.toArray⟩ pos).1], m.set b (.iter l (pos + (Utf8.decode ⟨l.toArray⟩ pos).2)))
        else some (.tup [.bool false], m)
      | _ => none
    | _ => none
  | .call { callee := .builtin .append, args, argTypes } => match args.toList, argTypes.toList with
    | [s, x], [t, t'] => match e x with
      | .str l => if tstr P t' = true then appendW P m t (e s) (fun sz => if sz = 1 then some (bytesD l) else none) else none
      | d => if (telem P t').isSome then appendW P m t (e s) (fun sz => rowsOf m sz d) else none
    | _, _ => none
  | .call { callee := .value f, args, .. } => match e f with
    | .fn k cap => match Sp.fn k with
      | some (1, F) => match snapL m 8 (args.toList.map e ++ cap) with
        | some ds => match F ds with
          | some (d, bx) => some (d.shift m.nb, m.join bx)
          | none => none
        | none => none
      | some (2, F) => if pureL (args.toList.map e ++ cap) = true then match F (args.toList.map e ++ cap) with
          | some (d, bx) => some (d.shift m.nb, m.join bx)
          | none => none
        else none
      | _ => none
    | _ => none
  | _ => none

inductive Cls where
  | n | r | w

/-- how an operation touches memory: by its text alone. -/
def cls (P : Program) (Sp : Specs) (o : Op) : Cls :=
  match o with
  | .load _ _ => .r
  | .convert src dst _ => if (telem P src).isSome then .r else if (telem P dst).isSome then .w else .n
  | .alloc _ => .w
  | .box _ _ => .w
  | .store _ _ _ => .w
  | .buildSlice _ _ _ => .w
  | .range _ _ => .w
  | .next _ _ => .w
  | .call { callee := .builtin b, .. } => match b with
    | .len => .n
    | .min => .n
    | .max => .n
    | _ => .w
  | .call { callee := .value (.func f), .. } => match Sp.fn f with
    | some (0, _) => .r
    | _ => .w
  | .call _ => .w
  | _ => .n

def sem (P : Program) (Sp : Specs) (o : Op) (e : Operand → D) (m : Mem) : Option (D × Mem) :=
  match cls P Sp o with
  | .n => (semN P o e).map (·, m)
  | .r => (semR P Sp o e m).map (·, m)
  | .w => semW P Sp o e m
end Go.Abs

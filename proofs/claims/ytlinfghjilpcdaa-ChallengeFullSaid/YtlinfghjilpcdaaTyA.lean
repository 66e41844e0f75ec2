/- Typed abstract values: lists of elements of a type are held as lists of a Lean type. Definitions, and what they denote. No condition. -/
import Derived.Test.YtlinfghjilpcdaaAbsM
namespace Go.Abs
open Go
set_option linter.unusedSimpArgs false

/-- A typed abstract value. 'T c': what an element of the type number c is. -/
inductive DT (T : Nat → Type) where
  | dead
  | bool (b : Bool)
  | int (k : IntKind) (n : Int)
  | u8 (x : UInt8)
  | u16 (x : BitVec 16)
  | u32 (x : BitVec 32)
  | u64 (x : BitVec 64)
  | str (l : List UInt8)
  | lit (v : Value)
  | nilp
  | rp (cs : List (DT T))
  | bp (b off : Nat)
  | ap (b g c i off : Nat)
  | nils
  | rs (c : Nat) (l : List (T c))
  | bs (b g c i n : Nat)
  | bw (b g c n : Nat)
  | agg (cs : List (DT T))
  | tup (vs : List (DT T))
  | fn (f : Nat) (cap : List (DT T))

/-- How the elements lie in memory, and back. -/
structure Cd (T : Nat → Type) where
  sz : Nat → Nat
  encD : (c : Nat) → T c → List D
  enc : (c : Nat) → T c → List (DT T)
  dec : (c : Nat) → List (DT T) → Option (T c)
  bt : Nat
  hb : T bt = UInt8

inductive BoxT (T : Nat → Type) where
  | gone
  | lent
  | var (cs : List (DT T))
  | arr (g c : Nat) (l : List (T c))
  | frz (g c : Nat) (l : List (T c))
  | iter (l : List UInt8) (pos : Nat)

variable {T : Nat → Type}

mutual
def den (C : Cd T) : DT T → D
  | .dead => .dead
  | .bool b => .bool b
  | .int k n => .int k n
  | .u8 x => .int .u8 x.toNat
  | .u16 x => .int .u16 x.toNat
  | .u32 x => .int .u32 x.toNat
  | .u64 x => .int .u64 x.toNat
  | .str l => .str l
  | .lit v => .lit v
  | .nilp => .nilp
  | .rp cs => .rp (denL C cs)
  | .bp b off => .bp b off
  | .ap b g c i off => .ap b g (C.sz c) i off
  | .nils => .nils
  | .rs c l => .rs (C.sz c) (l.map (C.encD c))
  | .bs b g c i n => .bs b g (C.sz c) i n
  | .bw b g c n => .bs b g (C.sz c) 0 n
  | .agg cs => .agg (denL C cs)
  | .tup cs => .tup (denL C cs)
  | .fn f cs => .fn f (denL C cs)
def denL (C : Cd T) : List (DT T) → List D
  | [] => []
  | d :: r => den C d :: denL C r
end

theorem denL_map (C : Cd T) : ∀ l : List (DT T), denL C l = l.map (den C)
  | [] => rfl
  | d :: r => by simp [denL, denL_map C r]

def denB (C : Cd T) : BoxT T → Box
  | .gone => .gone
  | .lent => .lent
  | .var cs => .var (denL C cs)
  | .arr g c l => .arr g (C.sz c) (l.map (C.encD c))
  | .frz g c l => .frz g (C.sz c) (l.map (C.encD c))
  | .iter l pos => .iter l pos

/-- the boxes of a state, by their numbers. -/
abbrev MT (T : Nat → Type) := List (BoxT T)
def MT.get (m : MT T) (b : Nat) : BoxT T := List.getD m b .gone
def denM (C : Cd T) (m : MT T) : Mem := ⟨m.length, fun b => denB C (m.get b)⟩

/-! ### no box in it -/
mutual
def DT.pure : DT T → Bool
  | .dead => true
  | .bool _ => true
  | .int _ _ => true
  | .u8 _ => true
  | .u16 _ => true
  | .u32 _ => true
  | .u64 _ => true
  | .str _ => true
  | .lit _ => true
  | .nilp => true
  | .nils => true
  | .rs _ _ => true
  | .rp _ => true
  | .agg cs => pureTL cs
  | _ => false
def pureTL : List (DT T) → Bool
  | [] => true
  | d :: r => d.pure && pureTL r
end

/-! ### the length that a whole slice of a box says -/
mutual
def WfD (L : Nat → Nat → Nat) : DT T → Prop
  | .bw b g _ n => L b g = n
  | .agg cs => WfL L cs
  | .tup cs => WfL L cs
  | .fn _ cs => WfL L cs
  | _ => True
def WfL (L : Nat → Nat → Nat) : List (DT T) → Prop
  | [] => True
  | d :: r => WfD L d ∧ WfL L r
end
def WfB (L : Nat → Nat → Nat) (b : Nat) : BoxT T → Prop
  | .var cs => WfL L cs
  | .arr g _ l => L b g = l.length
  | .frz g _ l => L b g = l.length
  | _ => True
def WfM (L : Nat → Nat → Nat) (m : MT T) : Prop := ∀ b, WfB L b (m.get b)

mutual
theorem DT.pure_den (C : Cd T) : ∀ d : DT T, d.pure = true → (den C d).pure = true
  | .dead, _ => rfl
  | .bool _, _ => rfl
  | .int _ _, _ => rfl
  | .u8 _, _ => rfl
  | .u16 _, _ => rfl
  | .u32 _, _ => rfl
  | .u64 _, _ => rfl
  | .str _, _ => rfl
  | .lit _, _ => rfl
  | .nilp, _ => rfl
  | .nils, _ => rfl
  | .rs _ _, _ => rfl
  | .rp _, _ => rfl
  | .agg cs, h => by
    simp only [DT.pure] at h
    simp only [den, D.pure]
    exact pureTL_den C cs h
  | .bp _ _, h => by cases h
  | .ap _ _ _ _ _, h => by cases h
  | .bs _ _ _ _ _, h => by cases h
  | .bw _ _ _ _, h => by cases h
  | .tup _, h => by cases h
  | .fn _ _, h => by cases h
theorem pureTL_den (C : Cd T) : ∀ l : List (DT T), pureTL l = true → pureL (denL C l) = true
  | [], _ => rfl
  | d :: r, h => by
    simp only [pureTL, Bool.and_eq_true] at h
    simp only [denL, pureL, Bool.and_eq_true]
    exact ⟨DT.pure_den C d h.1, pureTL_den C r h.2⟩
end

mutual
theorem pure_WfD (L : Nat → Nat → Nat) : ∀ d : DT T, d.pure = true → WfD L d
  | .agg cs, h => by
    simp only [DT.pure] at h
    simp only [WfD]
    exact pure_WfL L cs h
  | .dead, _ => trivial
  | .bool _, _ => trivial
  | .int _ _, _ => trivial
  | .u8 _, _ => trivial
  | .u16 _, _ => trivial
  | .u32 _, _ => trivial
  | .u64 _, _ => trivial
  | .str _, _ => trivial
  | .lit _, _ => trivial
  | .nilp, _ => trivial
  | .nils, _ => trivial
  | .rs _ _, _ => trivial
  | .rp _, _ => trivial
  | .bp _ _, h => by cases h
  | .ap _ _ _ _ _, h => by cases h
  | .bs _ _ _ _ _, h => by cases h
  | .bw _ _ _ _, h => by cases h
  | .tup _, h => by cases h
  | .fn _ _, h => by cases h
theorem pure_WfL (L : Nat → Nat → Nat) : ∀ l : List (DT T), pureTL l = true → WfL L l
  | [], _ => trivial
  | d :: r, h => by
    simp only [pureTL, Bool.and_eq_true] at h
    exact ⟨pure_WfD L d h.1, pure_WfL L r h.2⟩
end

/-! ### cells -/
def DT.cells : DT T → List (DT T)
  | .agg cs => cs
  | d => [d]
def DT.one : DT T → Bool
  | .agg _ => false
  | .tup _ => false
  | .dead => false
  | .lit (.agg _) => false
  | .lit (.tuple _) => false
  | _ => true
def DT.fit : DT T → Bool
  | .agg _ => true
  | d => d.one

/-- cells that hold a value each, none of them a box. -/
def solidL : List (DT T) → Bool
  | [] => true
  | d :: r => (d.pure && d.one) && solidL r
theorem solid_pure : ∀ {l : List (DT T)}, solidL l = true → pureTL l = true
  | [], _ => rfl
  | d :: r, h => by
    simp only [solidL, Bool.and_eq_true] at h
    simp only [pureTL, Bool.and_eq_true]
    exact ⟨h.1.1, solid_pure h.2⟩
theorem solid_mem : ∀ {l : List (DT T)}, solidL l = true → ∀ d ∈ l, d.pure = true ∧ d.one = true
  | [], _, d, hd => by simp at hd
  | x :: r, h, d, hd => by
    simp only [solidL, Bool.and_eq_true] at h
    rcases List.mem_cons.1 hd with rfl | hd
    · exact h.1
    · exact solid_mem h.2 d hd
/-- What is asked of the way elements lie in memory. -/
structure CdOk (C : Cd T) : Prop where
  len : ∀ c x, (C.encD c x).length = C.sz c
  enc : ∀ c x, denL C (C.enc c x) = C.encD c x
  epure : ∀ c x, pureTL (C.enc c x) = true
  byte : ∀ x, C.encD C.bt x = [.int .u8 (cast C.hb x).toNat]
  bsz : C.sz C.bt = 1
  dec : ∀ c ds x, C.dec c ds = some x → solidL ds = true ∧ ∀ (I : Nat → Prop) (w : World) (vs : List Value), VL I w (denL C ds) free vs → VL I w (C.encD c x) free vs

theorem den_cells (C : Cd T) (d : DT T) : (den C d).cells = denL C d.cells := by
  cases d <;> rfl
theorem den_fit (C : Cd T) (d : DT T) : d.fit = true → (den C d).fit = true := by
  cases d <;> simp [DT.fit, DT.one, den, D.fit, D.one]
  rename_i v
  cases v <;> simp
theorem WfD_cells {L : Nat → Nat → Nat} {d : DT T} (h : WfD L d) : WfL L d.cells := by
  cases d <;> first | exact ⟨h, trivial⟩ | exact h

theorem WfL_iff {L : Nat → Nat → Nat} : ∀ {l : List (DT T)}, WfL L l ↔ ∀ d ∈ l, WfD L d
  | [] => by simp [WfL]
  | d :: r => by simp [WfL, WfL_iff (l := r)]
theorem WfL_drop {L : Nat → Nat → Nat} {l : List (DT T)} (n : Nat) (h : WfL L l) : WfL L (l.drop n) :=
  WfL_iff.2 fun d hd => WfL_iff.1 h d (List.mem_of_mem_drop hd)
theorem WfL_take {L : Nat → Nat → Nat} {l : List (DT T)} (n : Nat) (h : WfL L l) : WfL L (l.take n) :=
  WfL_iff.2 fun d hd => WfL_iff.1 h d (List.mem_of_mem_take hd)
theorem denL_drop (C : Cd T) (l : List (DT T)) (n : Nat) : denL C (l.drop n) = (denL C l).drop n := by simp [denL_map]
theorem denL_take (C : Cd T) (l : List (DT T)) (n : Nat) : denL C (l.take n) = (denL C l).take n := by simp [denL_map]
theorem denL_length (C : Cd T) (l : List (DT T)) : (denL C l).length = l.length := by simp [denL_map]
theorem denL_get (C : Cd T) (l : List (DT T)) (i : Nat) : (denL C l)[i]? = (l[i]?).map (den C) := by simp [denL_map]

/-- cells 'vs' written over 'cs' from the place k on. -/
def setT : List (DT T) → Nat → List (DT T) → List (DT T)
  | cs, _, [] => cs
  | [], _, _ :: _ => []
  | _ :: cs, 0, v :: vs => v :: setT cs 0 vs
  | c :: cs, k + 1, v :: vs => c :: setT cs k (v :: vs)
theorem denL_setT (C : Cd T) : ∀ (cs : List (DT T)) (k : Nat) (vs : List (DT T)), denL C (setT cs k vs) = setCells (denL C cs) k (denL C vs)
  | cs, k, [] => by cases cs <;> cases k <;> simp [setT, setCells, denL]
  | [], k, _ :: _ => by simp [setT, setCells, denL]
  | c :: cs, 0, v :: vs => by simp [setT, setCells, denL, denL_setT C cs 0 vs]
  | c :: cs, k + 1, v :: vs => by
    have := denL_setT C cs k (v :: vs)
    simp only [denL] at this
    simp [setT, setCells, denL, this]
theorem WfL_setT {L : Nat → Nat → Nat} : ∀ (cs : List (DT T)) (k : Nat) (vs : List (DT T)), WfL L cs → WfL L vs → WfL L (setT cs k vs)
  | cs, k, [], h, _ => by cases cs <;> cases k <;> simpa [setT] using h
  | [], k, _ :: _, h, _ => by simp [setT, WfL]
  | c :: cs, 0, v :: vs, h, hv => by
    simp only [WfL] at h hv
    simp only [setT, WfL]
    exact ⟨hv.1, WfL_setT cs 0 vs h.2 hv.2⟩
  | c :: cs, k + 1, v :: vs, h, hv => by
    simp only [WfL] at h
    simp only [setT, WfL]
    exact ⟨h.1, WfL_setT cs k (v :: vs) h.2 hv⟩

/-! ### the table of types -/
inductive TK where
  | bool | str | int (k : IntKind) | slice (e : Nat) | arr (n e : Nat) | strct | ptr (e : Nat) | other
  deriving DecidableEq
inductive Zc where
  | b | i (k : IntKind) | s | np | ns | nf | ni | nm
  deriving DecidableEq
structure TI where
  code : Nat
  sz : Nat
  bts : Nat
  kind : TK
  zero : List Zc
  flds : List (Option (Nat × Nat))
  places : List (Nat × Nat)
  eqs : Option (List Nat)

def TK.agg : TK → Bool
  | .strct => true
  | .arr _ _ => true
  | _ => false

/-- an integer of a kind. -/
def mkInt (k : IntKind) (n : Int) : DT T :=
  match k with
  | .u8 => .u8 (UInt8.ofBitVec (BitVec.ofInt 8 n))
  | .u16 => .u16 (BitVec.ofInt 16 n)
  | .u32 => .u32 (BitVec.ofInt 32 n)
  | .u64 => .u64 (BitVec.ofInt 64 n)
  | k => .int k n
def Zc.toT : Zc → DT T
  | .b => .bool false
  | .i k => mkInt k 0
  | .s => .str []
  | .np => .nilp
  | .ns => .nils
  | .nf => .lit .nilFunc
  | .ni => .lit .nilIface
  | .nm => .lit (.map none)
def Zc.toD : Zc → D
  | .b => .bool false
  | .i k => .int k 0
  | .s => .str []
  | .np => .nilp
  | .ns => .nils
  | .nf => .lit .nilFunc
  | .ni => .lit .nilIface
  | .nm => .lit (.map none)
theorem Zc.den (C : Cd T) (z : Zc) : Abs.den C (z.toT : DT T) = z.toD := by
  cases z with
  | i k => cases k <;> rfl
  | _ => rfl

/-- a table of types, as a tree. -/
inductive Tr where
  | leaf
  | node (l : Tr) (k : Nat) (v : TI) (r : Tr)
def Tr.find : Tr → Nat → Option TI
  | .leaf, _ => none
  | .node l k v r, t => match Nat.beq t k with
    | true => some v
    | false => match Nat.blt t k with
      | true => l.find t
      | false => r.find t

structure TIok (P : Program) (t : Nat) (i : TI) : Prop where
  sz : tsz P t = some i.sz
  bts : tbytes P t = some i.bts
  agg : tagg P t = some i.kind.agg
  int : ∀ k, i.kind = .int k → tint P t = some k
  str : i.kind = .str → tstr P t = true
  bool : i.kind = .bool → tbool P t = true
  elem : ∀ e, i.kind = .slice e → telem P t = some e
  nelem : (∀ e, i.kind ≠ .slice e) → telem P t = none
  arr : ∀ n e, i.kind = .arr n e → tarr P t = some (n, e)
  narr : (∀ n e, i.kind ≠ .arr n e) → tarr P t = none
  ptr : ∀ e, i.kind = .ptr e → P.underlying t = some (.pointer e)
  zero : tzero P t = some (if i.kind.agg = true then .agg (i.zero.map Zc.toD) else (i.zero.map Zc.toD).headD .dead)
  zlen : i.zero.length = i.sz
  one : i.kind.agg = false → i.sz = 1
  fld : ∀ k o ft, i.flds[k]? = some (some (o, ft)) → tfld P t k = some (o, ft)
  places : i.kind = .strct → tplaces P t = some i.places
  nplaces : i.kind ≠ .strct → tplaces P t = none
  eqs : ∀ q, i.eqs = some q → flatEq P t = some q
def TysOk (P : Program) (Y : Nat → Option TI) : Prop := ∀ t i, Y t = some i → TIok P t i

def Tr.All (p : Nat → TI → Prop) : Tr → Prop
  | .leaf => True
  | .node l k v r => l.All p ∧ p k v ∧ r.All p
theorem Tr.find_all {p : Nat → TI → Prop} : ∀ {y : Tr} {t : Nat} {i : TI}, y.All p → y.find t = some i → p t i
  | .leaf, _, _, _, h => by cases h
  | .node l k v r, t, i, ha, h => by
    simp only [Tr.find] at h
    split at h
    · rename_i e
      simp only [Option.some.injEq] at h; subst h
      have := Nat.eq_of_beq_eq_true e
      subst this; exact ha.2.1
    · split at h
      · exact Tr.find_all ha.1 h
      · exact Tr.find_all ha.2.2 h
end Go.Abs

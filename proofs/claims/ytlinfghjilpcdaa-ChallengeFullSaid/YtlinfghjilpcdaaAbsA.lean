/- Abstract values of a call and what it means that a value of the model reads as one: definitions, and that a reading is kept while the world grows. No condition. -/
import Derived.Orders
import Derived.Below
import Derived.Laws.Sem
namespace Go.Abs
open Go

/-- Where a box of the abstract state lies. -/
inductive Loc where
  | free
  | stale
  | nil
  | blk (b : Nat)

/-- An abstract value. 'rs', 'rp': a slice, a pointer into memory that nobody writes, with what it reads as; 'bs', 'ap', 'bp': into a box of the state. -/
inductive D where
  | dead
  | bool (b : Bool)
  | int (k : IntKind) (n : Int)
  | str (l : List UInt8)
  | lit (v : Value)
  | nilp
  | rp (cs : List D)
  | bp (b off : Nat)
  | ap (b g s i off : Nat)
  | nils
  | rs (s : Nat) (rows : List (List D))
  | bs (b g s i n : Nat)
  | agg (cs : List D)
  | tup (vs : List D)
  | fn (f : Nat) (cap : List D)

def free : Nat → Nat → Loc := fun _ _ => .free

def rowSize (w : World) (b : Nat) : Nat :=
  match w.heap[b]? with
  | some (.cells c _ _) => c.size
  | _ => 0

mutual
def V (I : Nat → Prop) (w : World) : D → (Nat → Nat → Loc) → Value → Prop
  | .dead, _, _ => True
  | .bool b, _, v => v = .bool b
  | .int k n, _, v => v = .int k n
  | .str l, _, v => v = .string ⟨l.toArray⟩
  | .lit x, _, v => v = x
  | .nilp, _, v => v = .pointer none
  | .rp cs, _, v => ∃ b o, v = .pointer (some ⟨b, o, none⟩) ∧ I b ∧ VC I w cs b o
  | .bp b o, loc, v =>
    match loc b 0 with
    | .stale => ∃ a : Addr, v = .pointer (some a)
    | .blk c => v = .pointer (some ⟨c, o, none⟩)
    | _ => False
  | .ap b g s i o, loc, v =>
    match loc b g with
    | .stale => ∃ a : Addr, v = .pointer (some a)
    | .blk c => v = .pointer (some ⟨c, i * s + o, none⟩)
    | _ => False
  | .nils, _, v => v = .slice none 0 0
  | .rs s rows, _, v => (rows = [] ∧ ∃ p cap, v = .slice p 0 cap) ∨ ∃ b o cap, v = .slice (some ⟨b, o, none⟩) rows.length cap ∧ rows.length ≤ cap ∧ I b ∧ VR I w s rows b o
  | .bs b g s i n, loc, v =>
    match loc b g with
    | .stale => ∃ a cap, v = .slice a n cap ∧ n ≤ cap ∧ (a = none → cap = 0)
    | .nil => i = 0 ∧ n = 0 ∧ v = .slice none 0 0
    | .blk c => ∃ o cap, v = .slice (some ⟨c, o, none⟩) n cap ∧ n ≤ cap ∧ (cap = 0 ∨ o = i * s) ∧ (i + cap) * s ≤ rowSize w c
    | .free => False
  | .agg cs, loc, v => ∃ vs : List Value, v = .agg vs.toArray ∧ (∀ x ∈ vs, x.oneCell' = true) ∧ VL I w cs loc vs
  | .tup cs, loc, v => ∃ vs : List Value, v = .tuple vs.toArray ∧ VL I w cs loc vs
  | .fn f cap, loc, v => ∃ vs : List Value, v = .func (.func f) #[] vs.toArray ∧ VL I w cap loc vs
def VL (I : Nat → Prop) (w : World) : List D → (Nat → Nat → Loc) → List Value → Prop
  | [], _, vs => vs = []
  | d :: r, loc, vs => ∃ v vr, vs = v :: vr ∧ V I w d loc v ∧ VL I w r loc vr
def VC (I : Nat → Prop) (w : World) : List D → Nat → Nat → Prop
  | [], _, _ => True
  | d :: r, b, o => (∃ c, w.cell? ⟨b, o, none⟩ = some c ∧ c.oneCell' = true ∧ V I w d free c) ∧ VC I w r b (o + 1)
def VR (I : Nat → Prop) (w : World) (s : Nat) : List (List D) → Nat → Nat → Prop
  | [], _, _ => True
  | row :: r, b, o => row.length = s ∧ VC I w row b o ∧ VR I w s r b (o + s)
end

/-- The world has grown: nothing that is read has changed. -/
structure Ext (I I' : Nat → Prop) (w w' : World) : Prop where
  imm : ∀ b, I b → I' b
  same : ∀ b, I b → w'.heap[b]? = w.heap[b]?
  rows : ∀ b, rowSize w b ≤ rowSize w' b

def LocExt (loc loc' : Nat → Nat → Loc) : Prop := ∀ b g, loc b g = .free ∨ loc' b g = .stale ∨ loc' b g = loc b g

theorem LocExt.free (loc : Nat → Nat → Loc) : LocExt Abs.free loc := fun _ _ => .inl rfl
theorem LocExt.refl (loc : Nat → Nat → Loc) : LocExt loc loc := fun _ _ => .inr (.inr rfl)

theorem cell_same {w w' : World} {b o : Nat} (h : w'.heap[b]? = w.heap[b]?) : w'.cell? ⟨b, o, none⟩ = w.cell? ⟨b, o, none⟩ := by
  simp [World.cell?, h]

mutual
theorem V_mono {I I' : Nat → Prop} {w w' : World} (h : Ext I I' w w') :
    ∀ (d : D) (loc loc' : Nat → Nat → Loc) (v : Value), LocExt loc loc' → V I w d loc v → V I' w' d loc' v
  | .dead, _, _, _, _, _ => trivial
  | .bool b, _, _, _, _, hv => by simpa only [V] using hv
  | .int k n, _, _, _, _, hv => by simpa only [V] using hv
  | .str l, _, _, _, _, hv => by simpa only [V] using hv
  | .lit x, _, _, _, _, hv => by simpa only [V] using hv
  | .nilp, _, _, _, _, hv => by simpa only [V] using hv
  | .nils, _, _, _, _, hv => by simpa only [V] using hv
  | .rp cs, _, _, _, _, hv => by
    simp only [V] at hv ⊢
    obtain ⟨b, o, rfl, hI, hc⟩ := hv
    exact ⟨b, o, rfl, h.imm b hI, VC_mono h cs b o (h.same b hI) hc⟩
  | .bp b o, loc, loc', v, hl, hv => by
    simp only [V] at hv ⊢
    rcases hl b 0 with e | e | e
    · simp [e] at hv
    · rw [e]
      cases hq : loc b 0 <;> simp only [hq] at hv
      · exact hv
      · exact ⟨_, hv⟩
    · rw [e]; exact hv
  | .ap b g s i o, loc, loc', v, hl, hv => by
    simp only [V] at hv ⊢
    rcases hl b g with e | e | e
    · simp [e] at hv
    · rw [e]
      cases hq : loc b g <;> simp only [hq] at hv
      · exact hv
      · exact ⟨_, hv⟩
    · rw [e]; exact hv
  | .rs s rows, _, _, _, _, hv => by
    simp only [V] at hv ⊢
    rcases hv with hv | ⟨b, o, cap, rfl, hcap, hI, hc⟩
    · exact .inl hv
    · exact .inr ⟨b, o, cap, rfl, hcap, h.imm b hI, VR_mono h s rows b o (h.same b hI) hc⟩
  | .bs b g s i n, loc, loc', v, hl, hv => by
    simp only [V] at hv ⊢
    rcases hl b g with e | e | e
    · simp [e] at hv
    · rw [e]
      cases hq : loc b g with
      | free => simp [hq] at hv
      | stale => simpa [hq] using hv
      | nil =>
        simp only [hq] at hv ⊢
        exact ⟨none, 0, by rw [hv.2.2, hv.2.1], by omega, fun _ => rfl⟩
      | blk c =>
        simp only [hq] at hv ⊢
        obtain ⟨o, cap, hv, hn, _, _⟩ := hv
        exact ⟨_, cap, hv, hn, fun h => by cases h⟩
    · rw [e]
      cases hq : loc b g with
      | free => simp [hq] at hv
      | stale => simpa [hq] using hv
      | nil => simpa [hq] using hv
      | blk c =>
        simp only [hq] at hv ⊢
        obtain ⟨o, cap, hv, hn, ho, hs⟩ := hv
        exact ⟨o, cap, hv, hn, ho, Nat.le_trans hs (h.rows c)⟩
  | .agg cs, loc, loc', v, hl, hv => by
    simp only [V] at hv ⊢
    obtain ⟨vs, rfl, h1, hc⟩ := hv
    exact ⟨vs, rfl, h1, VL_mono h cs loc loc' vs hl hc⟩
  | .tup cs, loc, loc', v, hl, hv => by
    simp only [V] at hv ⊢
    obtain ⟨vs, rfl, hc⟩ := hv
    exact ⟨vs, rfl, VL_mono h cs loc loc' vs hl hc⟩
  | .fn f cs, loc, loc', v, hl, hv => by
    simp only [V] at hv ⊢
    obtain ⟨vs, rfl, hc⟩ := hv
    exact ⟨vs, rfl, VL_mono h cs loc loc' vs hl hc⟩
theorem VL_mono {I I' : Nat → Prop} {w w' : World} (h : Ext I I' w w') :
    ∀ (ds : List D) (loc loc' : Nat → Nat → Loc) (vs : List Value), LocExt loc loc' → VL I w ds loc vs → VL I' w' ds loc' vs
  | [], _, _, _, _, hv => by simpa only [VL] using hv
  | d :: r, loc, loc', vs, hl, hv => by
    simp only [VL] at hv ⊢
    obtain ⟨v, vr, rfl, h1, h2⟩ := hv
    exact ⟨v, vr, rfl, V_mono h d loc loc' v hl h1, VL_mono h r loc loc' vr hl h2⟩
theorem VC_mono {I I' : Nat → Prop} {w w' : World} (h : Ext I I' w w') :
    ∀ (cs : List D) (b o : Nat), w'.heap[b]? = w.heap[b]? → VC I w cs b o → VC I' w' cs b o
  | [], _, _, _, _ => trivial
  | d :: r, b, o, hb, hv => by
    simp only [VC] at hv ⊢
    obtain ⟨⟨c, hc, h1, hd⟩, hr⟩ := hv
    exact ⟨⟨c, (cell_same hb).trans hc, h1, V_mono h d Abs.free Abs.free c (.refl _) hd⟩, VC_mono h r b (o + 1) hb hr⟩
theorem VR_mono {I I' : Nat → Prop} {w w' : World} (h : Ext I I' w w') (s : Nat) :
    ∀ (rows : List (List D)) (b o : Nat), w'.heap[b]? = w.heap[b]? → VR I w s rows b o → VR I' w' s rows b o
  | [], _, _, _, _ => trivial
  | row :: r, b, o, hb, hv => by
    simp only [VR] at hv ⊢
    exact ⟨hv.1, VC_mono h row b o hb hv.2.1, VR_mono h s r b (o + s) hb hv.2.2⟩
end
end Go.Abs

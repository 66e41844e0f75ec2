/- A region's run, list by list, and what is kept of a state. No condition. -/
import Derived.Test.YtlinfghjilpcdaaTyT
namespace Go.Abs
open Go
set_option linter.unusedSimpArgs false

section
variable {T : Nat → Type} {R : Type} {E : Env T} {ops : Array Oper} {P : Program}

theorem argsK_law (C : Cd T) (sn : Bool) : ∀ (ss : List Slot) (m : MT T) (ds : List (DT T)) {R : Type} (K : tySs T ss → List Nat → MT T → Option R), argsK C sn ss m ds K = (argsK C sn ss m ds fun a b c => some (a, b, c)).bind fun p => K p.1 p.2.1 p.2.2
  | [], m, ds, R, K => by simp only [argsK]; split <;> rfl
  | .f (.v t) :: r, m, [], R, K => by simp [argsK]
  | .f (.v t) :: r, m, d :: ds, R, K => by
    simp only [argsK]
    split
    · split
      · rw [purL_law, purL_law (R := tySs T (.f (.v t) :: r) × List Nat × MT T)]
        simp only [Option.bind_assoc]
        congr 1; funext cs
        split
        · rw [argsK_law C _ r m ds, argsK_law C _ r m ds (R := tySs T (.f (.v t) :: r) × List Nat × MT T)]
          simp only [Option.bind_assoc, Option.bind_some]
        · rfl
      · rw [decFK_law, decFK_law (R := tySs T (.f (.v t) :: r) × List Nat × MT T)]
        simp only [Option.bind_assoc]
        congr 1; funext q
        rw [argsK_law C _ r _ ds, argsK_law C _ r _ ds (R := tySs T (.f (.v t) :: r) × List Nat × MT T)]
        simp only [Option.bind_assoc, Option.bind_some]
    · rfl
  | .f (.own c) :: r, m, [], R, K => by simp [argsK]
  | .f (.own c) :: r, m, d :: ds, R, K => by
    simp only [argsK]
    rw [decOK_law, decOK_law (R := tySs T (.f (.own c) :: r) × List Nat × MT T)]
    simp only [Option.bind_assoc]
    congr 1; funext q
    rw [argsK_law C _ r _ ds, argsK_law C _ r _ ds (R := tySs T (.f (.own c) :: r) × List Nat × MT T)]
    simp only [Option.bind_assoc, Option.bind_some]
  | .f (.pt c) :: r, m, ds, R, K => by simp [argsK]
  | .f (.st _ _ _) :: r, m, ds, R, K => by simp [argsK]
  | .f (.fp f t) :: r, m, [], R, K => by simp [argsK]
  | .f (.fp f t) :: r, m, d :: ds, R, K => by
    simp only [argsK]
    split
    · rw [decFK_law, decFK_law (R := tySs T (.f (.fp f t) :: r) × List Nat × MT T)]
      simp only [Option.bind_assoc]
      congr 1; funext q
      rw [argsK_law C _ r _ ds, argsK_law C _ r _ ds (R := tySs T (.f (.fp f t) :: r) × List Nat × MT T)]
      simp only [Option.bind_assoc, Option.bind_some]
    · rfl
  | .ptr fs :: r, m, [], R, K => by simp [argsK]
  | .ptr fs :: r, m, d :: ds, R, K => by
    simp only [argsK]
    split
    · split
      · rw [decFsK_law, decFsK_law (R := tySs T (.ptr fs :: r) × List Nat × MT T)]
        simp only [Option.bind_assoc]
        congr 1; funext q
        rw [argsK_law C _ r _ ds, argsK_law C _ r _ ds (R := tySs T (.ptr fs :: r) × List Nat × MT T)]
        simp only [Option.bind_assoc, Option.bind_some]
      · rfl
    · rfl
  | .inp c :: r, m, [], R, K => by simp [argsK]
  | .inp c :: r, m, d :: ds, R, K => by
    simp only [argsK]
    split
    · split
      · split
        · rw [argsK_law C _ r _ ds, argsK_law C _ r _ ds (R := tySs T (.inp c :: r) × List Nat × MT T)]
          simp only [Option.bind_assoc, Option.bind_some]
        · rfl
      · rfl
    · rfl
  | .iter :: r, m, ds, R, K => by simp [argsK]

theorem callW_law (f : Nat) (ds : List (DT T)) (m : MT T) {R : Type} (K : DT T → MT T → Option R) : callW E f ds m K = (callW E f ds m fun a b => some (a, b)).bind fun p => K p.1 p.2 := by
  unfold callW
  split
  · rw [argsK_law, argsK_law (R := DT T × MT T)]
    simp only [Option.bind_assoc]
    congr 1; funext q
    congr 1; funext r
    split
    · rfl
    · rfl
  · rfl

theorem opK_law (o : Op) (e : Operand → DT T) (m : MT T) {R : Type} (K : DT T → MT T → Option R) : opK E o e m K = (semT E o e m).bind fun p => K p.1 p.2 := by
  unfold semT opK
  split
  · rw [nK_law, nK_law (R := DT T × MT T), Option.bind_assoc]; rfl
  · split
    · rw [callR_law, callR_law (R := DT T × MT T), Option.bind_assoc]; rfl
    · rw [rK_law, rK_law (R := DT T × MT T), Option.bind_assoc]; rfl
  · split
    · split
      · rw [callW_law]
      · rfl
    · rw [wK_law]

def ST.f (σ : ST T) : SF T := ⟨tget σ.ts, σ.m⟩
theorem tget_cons (l : List (Nat × DT T)) (k : Nat) (d : DT T) : tget ((k, d) :: l) = upd (tget l) k d := by
  funext j
  simp only [tget, upd]
  by_cases h : j = k
  · subst h; simp
  · rw [if_neg h]
    have : Nat.beq j k = false := by
      cases hb : Nat.beq j k with
      | false => rfl
      | true => exact absurd (Nat.eq_of_beq_eq_true hb) h
    rw [this]
theorem put_toF (σ : ST T) (dst : Option Nat) (d : DT T) : (σ.put dst d).f = σ.f.put dst d := by
  cases dst with
  | none => rfl
  | some k => simp only [ST.put, ST.f, SF.put, tget_cons]
theorem updSameT (t : Nat → DT T) (k : Nat) : upd t k (t k) = t := by funext j; simp only [upd]; split <;> simp_all

theorem runT_ok : ∀ (l : List Oper) (is : List Nat) (σ : ST T) (K : ST T → Option R) (r : R), l.map some = is.map (ops[·]?) → runT E ops l σ K = some r → ∃ σ', runOpsT E ops is σ.f = some σ'.f ∧ K σ' = some r
  | [], is, σ, K, r, hl, h => by
    have : is = [] := by simpa using hl.symm
    subst this
    exact ⟨σ, rfl, h⟩
  | o :: l, is, σ, K, r, hl, h => by
    cases is with
    | nil => simp at hl
    | cons i is =>
      simp only [List.map_cons, List.cons.injEq] at hl
      obtain ⟨ho, hl⟩ := hl
      have step : ∀ σ1 : ST T, σ1.f = σ.f → gdT ops o σ.f.t = some true → stepT E o σ1 (fun σ' => runT E ops l σ' K) = some r → ∃ σ', runOpsT E ops (i :: is) σ.f = some σ'.f ∧ K σ' = some r := by
        intro σ1 h1 hg h
        unfold stepT at h
        rw [opK_law, Option.bind_eq_some_iff] at h
        obtain ⟨⟨d, m'⟩, h2, h3⟩ := h
        obtain ⟨σ', g1, g2⟩ := runT_ok l is _ K r hl h3
        refine ⟨σ', ?_, g2⟩
        have h2' : semT E o.op (evT E.G σ.f.t) σ.f.m = some (d, m') := by rw [← h1]; exact h2
        simp only [runOpsT, ← ho, stepOT, hg, h2']
        rw [put_toF] at g1
        have : ({ σ.f with m := m' } : SF T) = (⟨σ1.ts, m'⟩ : ST T).f := by rw [← h1]; rfl
        rw [this]; exact g1
      have skip : ∀ σ1 : ST T, σ1.f = σ.f → gdT ops o σ.f.t = some false → runT E ops l (ST.put σ1 o.dst (.tup [])) K = some r → ∃ σ', runOpsT E ops (i :: is) σ.f = some σ'.f ∧ K σ' = some r := by
        intro σ1 h1 hg h
        obtain ⟨σ', g1, g2⟩ := runT_ok l is _ K r hl h
        refine ⟨σ', ?_, g2⟩
        simp only [runOpsT, ← ho, stepOT, hg]
        rw [put_toF, h1] at g1
        exact g1
      have same : ∀ (k : Nat) (d : DT T), tget σ.ts k = d → (⟨(k, d) :: σ.ts, σ.m⟩ : ST T).f = σ.f := fun k d hd => by
        simp only [ST.f, tget_cons]
        rw [← hd, updSameT]
      simp only [runT] at h
      split at h
      · rename_i hg
        exact step σ rfl (by simp [gdT, hg]) h
      · rename_i k hg
        split at h
        · rename_i b hb
          cases b with
          | true => exact step _ (same k _ hb) (by simp [gdT, hg, ST.f, hb]) h
          | false => exact skip _ (same k _ hb) (by simp [gdT, hg, ST.f, hb]) h
        · rename_i hb
          exact skip _ rfl (by simp [gdT, hg, ST.f, hb]) h
        · cases h
      · rename_i k hg
        split at h
        · rename_i b hb
          cases b with
          | true => exact skip _ (same k _ hb) (by simp [gdT, hg, ST.f, hb]) h
          | false => exact step _ (same k _ hb) (by simp [gdT, hg, ST.f, hb]) h
        · rename_i hb
          exact skip _ rfl (by simp [gdT, hg, ST.f, hb]) h
        · cases h
      · cases h

/-! ### what is kept of a state -/
variable {O I0 I : Nat → Prop} {w0 w : World} {n : Nat} {kp : List (Nat × Value)} {loc : Nat → Nat → Loc} {L : Nat → Nat → Nat} {a : Act}

theorem takeK_law (C : Cd T) (s : Shape) (σ : ST T) {R : Type} (K : tySs T s.slots → Option R) : takeK C s σ K = (takeK C s σ some).bind K := by
  unfold takeK
  rw [decSsK_law, decSsK_law (R := tySs T s.slots), Option.bind_assoc]; rfl

theorem tget_zip {E : Env T} : ∀ (s : Shape) (ds : List (DT T)) (vs : List Value), VL I w (denL E.C ds) loc vs → WfL L ds → vs = s.map (fun p => a.tmps.getD p.1 undef) → ∀ i, V I w (den E.C (tget ((s.map (·.1)).zip ds) i)) loc (a.tmps.getD i undef) ∧ WfD L (tget ((s.map (·.1)).zip ds) i)
  | [], ds, vs, hv, hw, hs, i => ⟨trivial, trivial⟩
  | p :: s, [], vs, hv, hw, hs, i => ⟨trivial, trivial⟩
  | p :: s, d :: ds, vs, hv, hw, hs, i => by
    simp only [denL, VL] at hv
    obtain ⟨v, vr, rfl, h1, h2⟩ := hv
    simp only [List.map_cons, List.cons.injEq] at hs
    simp only [List.map_cons, List.zip_cons_cons, tget_cons, upd]
    by_cases e : i = p.1
    · subst e
      rw [if_pos rfl]
      rw [← hs.1]
      exact ⟨h1, hw.1⟩
    · rw [if_neg e]
      exact tget_zip s ds vr h2 hw.2 hs.2 i

theorem empty_ok {C : Cd T} (hI : ∀ k, I k → k < w.heap.size) (hO : ∀ k, w.heap.size ≤ k → O k) : MRel O I free (denM C ([] : MT T)) w :=
  ⟨fun b hb => absurd hb (Nat.not_lt_zero _), fun _ _ _ => rfl, fun b _ _ hb => absurd hb (Nat.not_lt_zero _), fun b _ _ _ _ hb => absurd hb (Nat.not_lt_zero _), hI, hO⟩

/-- THE STATE AS ITS SHAPE KEEPS IT. -/
theorem takeK_ok (hC : CdOk E.C) {σ : ST T} (h : RelT E O I0 w0 n kp I loc L σ.f a w) {s : Shape} {K : tySs T s.slots → Option R} {r : R} (hk : takeK E.C s σ K = some r) :
    ∃ x I' loc' L', RelT E O I0 w0 n kp I' loc' L' (lay E.C s x).f a w ∧ K x = some r := by
  unfold takeK at hk
  have hv : VL I w (denL E.C (s.map fun p => tget σ.ts p.1)) loc (s.map fun p => a.tmps.getD p.1 undef) := by
    rw [denL_map, List.map_map]
    exact VL_map (fun p : Nat × Slot => h.tmp p.1) s
  have hw : WfL L (s.map fun p => tget σ.ts p.1) := WfL_iff.2 fun d hd => by
    simp only [List.mem_map] at hd
    obtain ⟨p, _, rfl⟩ := hd
    exact h.wf p.1
  obtain ⟨x, own, I', m', loc', h1, h2, h3⟩ := dec_ss hC s.slots h.mem h.wfm hw hv hk
  obtain ⟨loc2, L2, p1, p2, p3⟩ := put_ss hC s.slots (m := ([] : MT T)) (loc := free) (L := fun _ _ => 0) (empty_ok h1.mem.imm h1.mem.up) (fun b => trivial) h2
    ⟨fun k hk => ⟨((h1.got k hk).2.facts h.mem).1, (h1.got k hk).1, ((h1.got k hk).2.facts h.mem).2.2⟩, fun k _ ⟨b, g, q, _⟩ => absurd q (Nat.not_lt_zero _)⟩
  refine ⟨x, I', loc2, L2, ?_, h3⟩
  have key := tget_zip (E := E) (a := a) s (encSs E.C 0 s.slots x).1 _ p2 p3 rfl
  have hx : Ext I I' w w := imm_all2 h1.imm0
  exact ⟨h.size, h.defers, fun i => (key i).1, fun i => (key i).2, p1.mem, p1.wf, Glob_mono h.glob hx, h.fr, h.rows, fun k hk => h1.imm0 k (h.imm0 k hk), fun k hk => (h1.imm1 k hk).elim (h.imm1 k) (fun q => .inr (q.facts h.mem).1), h.kept⟩
/-! ### copies of a slice of one's own -/
theorem get_in {m : MT T} {b : Nat} (h : m.get b ≠ .gone) : b < m.length := by
  by_cases hb : b < m.length
  · exact hb
  · exfalso
    apply h
    unfold MT.get
    rw [List.getD_eq_getElem?_getD, List.getElem?_eq_none (by omega)]
    rfl
/-- what the owner holds. -/
def srcV (a : Act) (w : World) (k off : Nat) : Value :=
  match a.tmps.getD k undef with
  | .pointer (some ⟨b, 0, none⟩) => match w.heap[b]? with
    | some (.cells c _ _) => c.toList.getD off undef
    | _ => undef
  | v => v
theorem bwOf_eq {c b g c' n : Nat} {d : DT T} (h : bwOf c d = .bw b g c' n) : c' = c ∧ d = .bw b g c n := by
  cases d <;> simp only [bwOf] at h <;> try cases h
  rename_i b1 g1 c1 n1
  cases hc : Nat.beq c1 c <;> rw [hc] at h
  · cases h
  · have := Nat.eq_of_beq_eq_true hc
    subst this
    simp only [DT.bw.injEq] at h
    obtain ⟨rfl, rfl, rfl, rfl⟩ := h
    exact ⟨rfl, rfl⟩
theorem VL_at {C : Cd T} : ∀ {cs : List (DT T)} {vs : List Value} {off : Nat} {d : DT T}, VL I w (denL C cs) loc vs → cs[off]? = some d → V I w (den C d) loc (vs.getD off undef)
  | [], vs, off, d, h, hd => by simp at hd
  | d' :: r, vs, 0, d, h, hd => by
    simp only [denL, VL] at h
    obtain ⟨v, vr, rfl, h1, h2⟩ := h
    simp only [List.getElem?_cons_zero, Option.some.injEq] at hd
    subst hd
    exact h1
  | d' :: r, vs, off + 1, d, h, hd => by
    simp only [denL, VL] at h
    obtain ⟨v, vr, rfl, h1, h2⟩ := h
    simp only [List.getElem?_cons_succ] at hd
    rw [List.getD_cons_succ]
    exact VL_at (off := off) h2 hd
theorem cpD_ok {σ : ST T} (h : RelT E O I0 w0 n kp I loc L σ.f a w) {k off c b g c' nn : Nat} (hd : cpD σ k off c = .bw b g c' nn) :
    c' = c ∧ V I w (.bs b g (E.C.sz c) 0 nn) loc (srcV a w k off) ∧ L b g = nn := by
  have hk := h.tmp k
  have hw := h.wf k
  simp only [ST.f] at hk hw
  have other : bwOf c (tget σ.ts k) = .bw b g c' nn → c' = c ∧ V I w (.bs b g (E.C.sz c) 0 nn) loc (srcV a w k off) ∧ L b g = nn := by
    intro hd
    obtain ⟨e1, e2⟩ := bwOf_eq hd
    rw [e2] at hk hw
    refine ⟨e1, ?_, hw⟩
    have hk' : V I w (.bs b g (E.C.sz c) 0 nn) loc (a.tmps.getD k undef) := hk
    have : srcV a w k off = a.tmps.getD k undef := by
      unfold srcV
      generalize a.tmps.getD k undef = v at hk'
      simp only [V] at hk'
      split at hk'
      · obtain ⟨_, _, rfl, _⟩ := hk'; rfl
      · obtain ⟨_, _, rfl⟩ := hk'; rfl
      · obtain ⟨_, _, rfl, _⟩ := hk'; rfl
      · exact hk'.elim
    rw [this]
    exact hk'
  unfold cpD at hd
  split at hd
  · rename_i b1 e1
    rw [e1] at hk
    split at hd
    · rename_i cs e2
      split at hd
      · rename_i d e3
        obtain ⟨e4, e5⟩ := bwOf_eq hd
        subst e5
        have hlt : b1 < σ.m.length := get_in (by rw [e2]; simp)
        have hb := h.mem.box b1 hlt
        have hb' : RelB I w loc b1 (denB E.C (σ.m.get b1)) := hb
        rw [e2] at hb'
        simp only [denB, RelB] at hb'
        obtain ⟨_, kk, cc, el, fz, f1, f2, f3, f4, f5⟩ := hb'
        simp only [den, V, f1] at hk
        have : srcV a w k off = cc.toList.getD off undef := by
          unfold srcV
          rw [hk]
          simp only [f2]
        rw [this]
        refine ⟨e4, VL_at f5 e3, ?_⟩
        have hwb := h.wfm b1
        simp only [ST.f] at hwb
        rw [e2] at hwb
        exact (WfL_iff.1 hwb) _ (List.mem_of_getElem? e3)
      · cases hd
    · cases hd
  · exact other hd
theorem copy_ok {σ : ST T} {I' : Nat → Prop} {loc' : Nat → Nat → Loc} {L' : Nat → Nat → Nat} {τ : ST T} (h : RelT E O I0 w0 n kp I loc L σ.f a w) (h' : RelT E O I0 w0 n kp I' loc' L' τ.f a w) {t k off c : Nat} (hc : chkC σ (t, k, off, c) = true) :
    V I' w (den E.C (cpD τ k off c)) loc' (a.tmps.getD t undef) ∧ WfD L' (cpD τ k off c) := by
  have hnew : cpD τ k off c = .dead ∨ ∃ b g n, cpD τ k off c = .bw b g c n := by
    have : ∀ d : DT T, bwOf c d = .dead ∨ ∃ b g n, bwOf c d = .bw b g c n := by
      intro d
      cases d <;> first | exact Or.inl rfl | skip
      rename_i b1 g1 c1 n1
      simp only [bwOf]
      cases hc : Nat.beq c1 c
      · exact Or.inl rfl
      · have := Nat.eq_of_beq_eq_true hc
        subst this
        exact Or.inr ⟨_, _, _, rfl⟩
    unfold cpD
    split
    · split
      · split
        · exact this _
        · exact Or.inl rfl
      · exact Or.inl rfl
    · exact this _
  rcases hnew with e | ⟨b', g', n', e'⟩
  · rw [e]; exact ⟨trivial, trivial⟩
  obtain ⟨_, q2, q3⟩ := cpD_ok h' e'
  unfold chkC at hc
  dsimp only at hc
  split at hc
  · rename_i b g c1 n1 e1
    obtain ⟨rfl, p2, p3⟩ := cpD_ok h e1
    split at hc
    · rename_i b2 g2 c2 n2 e2
      simp only [Bool.and_eq_true] at hc
      obtain ⟨⟨u1, u2, u3⟩, u4⟩ := hc
      have := Nat.eq_of_beq_eq_true u1
      have := Nat.eq_of_beq_eq_true u2
      have := Nat.eq_of_beq_eq_true u3
      subst b2 g2 c2
      have ht := h.tmp t
      have hw := h.wf t
      simp only [ST.f] at ht hw
      rw [e2] at ht hw
      have hw' : L b g = n2 := hw
      have : n2 = n1 := hw'.symm.trans p3
      subst this
      unfold isArr at u4
      split at u4
      · rename_i g3 c3 l e3
        simp only [Bool.and_eq_true] at u4
        have := Nat.eq_of_beq_eq_true u4.1
        have := Nat.eq_of_beq_eq_true u4.2
        subst g3 c3
        have hlt : b < σ.m.length := get_in (by rw [e3]; simp)
        have hb : RelB I w loc b (denB E.C (σ.m.get b)) := h.mem.box b hlt
        rw [e3] at hb
        simp only [denB, RelB] at hb
        have ht' : V I w (.bs b g (E.C.sz c1) 0 n2) loc (a.tmps.getD t undef) := ht
        rw [e']
        refine ⟨?_, q3⟩
        show V I' w (.bs b' g' (E.C.sz c1) 0 n') loc' (a.tmps.getD t undef)
        rcases hb.2 with ⟨f1, _⟩ | ⟨kk, cc, el, fz, f1, _⟩
        · simp only [V, f1] at ht' p2
          rw [ht'.2.2, ← p2.2.2]
          exact q2
        · simp only [V, f1] at ht' p2
          obtain ⟨o1, cap1, r1, r2, r3, r4⟩ := ht'
          obtain ⟨o2, cap2, s1, s2, s3, s4⟩ := p2
          rw [s1] at q2
          rw [r1]
          simp only [V] at q2 ⊢
          split at q2
          · obtain ⟨a1, cap3, w1, w2, w3⟩ := q2
            simp only [Value.slice.injEq] at w1
            obtain ⟨_, w5, _⟩ := w1
            exact ⟨_, _, by rw [← w5], by omega, fun h => by cases h⟩
          · obtain ⟨w1, w2, w3⟩ := q2
            simp only [Value.slice.injEq] at w3
            cases w3.1
          · obtain ⟨o3, cap3, w1, w2, w3, w4⟩ := q2
            simp only [Value.slice.injEq, Option.some.injEq, Addr.mk.injEq] at w1
            obtain ⟨⟨w5, _, _⟩, w6, _⟩ := w1
            subst w5
            exact ⟨_, _, by rw [← w6], by omega, r3, r4⟩
          · exact q2.elim
      · cases u4
    · cases hc
  · cases hc
theorem cpTs_ok {σ τ : ST T} {I' : Nat → Prop} {loc' : Nat → Nat → Loc} {L' : Nat → Nat → Nat} (h : RelT E O I0 w0 n kp I loc L σ.f a w) (h' : RelT E O I0 w0 n kp I' loc' L' τ.f a w) : ∀ (cp : List Cp), cp.all (chkC σ) = true → ∀ i, V I' w (den E.C (tget (cpTs τ cp τ.ts) i)) loc' (a.tmps.getD i undef) ∧ WfD L' (tget (cpTs τ cp τ.ts) i)
  | [], _, i => ⟨h'.tmp i, h'.wf i⟩
  | (t, k, off, c) :: r, hc, i => by
    simp only [List.all_cons, Bool.and_eq_true] at hc
    simp only [cpTs, tget_cons, upd]
    by_cases e : i = t
    · subst e
      rw [if_pos rfl]
      exact copy_ok h h' hc.1
    · rw [if_neg e]
      exact cpTs_ok h h' r hc.2 i
theorem takeC_ok (hC : CdOk E.C) {σ : ST T} (h : RelT E O I0 w0 n kp I loc L σ.f a w) {s : Shape} {cp : List Cp} {K : tySs T s.slots → Option R} {r : R} (hk : takeC E.C s cp σ K = some r) :
    ∃ x I' loc' L', RelT E O I0 w0 n kp I' loc' L' (layC E.C s cp x).f a w ∧ K x = some r := by
  unfold takeC at hk
  split at hk
  · rename_i hc
    obtain ⟨x, I', loc', L', h1, h2⟩ := takeK_ok hC h hk
    refine ⟨x, I', loc', L', ?_, h2⟩
    have key := cpTs_ok h h1 cp hc
    exact ⟨h1.size, h1.defers, fun i => (key i).1, fun i => (key i).2, h1.mem, h1.wfm, h1.glob, h1.fr, h1.rows, h1.imm0, h1.imm1, h1.kept⟩
  · cases hk
end
end Go.Abs

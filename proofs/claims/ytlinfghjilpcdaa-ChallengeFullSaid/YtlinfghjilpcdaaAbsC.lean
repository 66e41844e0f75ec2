/- Each operation without memory does to values what it does to their abstract readings. No condition. -/
import Derived.Test.YtlinfghjilpcdaaAbsB
import Derived.WalkLawsBesides
namespace Go.Abs
open Go

section
variable {P : Program} {I : Nat → Prop} {w : World} {loc : Nat → Nat → Loc}

theorem VL_length : ∀ {ds : List D} {vs : List Value}, VL I w ds loc vs → vs.length = ds.length
  | [], vs, h => by simp only [VL] at h; simp [h]
  | d :: r, vs, h => by
    simp only [VL] at h
    obtain ⟨v, vr, rfl, _, hr⟩ := h
    simp [VL_length hr]

theorem VL_get : ∀ {ds : List D} {vs : List Value} {i : Nat} {d : D}, VL I w ds loc vs → ds[i]? = some d → ∃ v, vs[i]? = some v ∧ V I w d loc v
  | [], _, _, _, _, hi => by simp at hi
  | d :: r, vs, i, x, h, hi => by
    simp only [VL] at h
    obtain ⟨v, vr, rfl, hv, hr⟩ := h
    cases i with
    | zero => simp at hi; subst hi; exact ⟨v, by simp, hv⟩
    | succ i => simp at hi; simpa using VL_get hr hi

theorem VL_append : ∀ {a b : List D} {u v : List Value}, VL I w a loc u → VL I w b loc v → VL I w (a ++ b) loc (u ++ v)
  | [], _, _, _, ha, hb => by simp only [VL] at ha; simpa [ha] using hb
  | d :: r, b, u, v, ha, hb => by
    simp only [VL] at ha
    obtain ⟨x, vr, rfl, hv, hr⟩ := ha
    simp only [List.cons_append, VL]
    exact ⟨x, vr ++ v, rfl, hv, VL_append hr hb⟩

theorem VL_drop : ∀ {ds : List D} {vs : List Value} (n : Nat), VL I w ds loc vs → VL I w (ds.drop n) loc (vs.drop n)
  | ds, vs, 0, h => by simpa using h
  | [], vs, n + 1, h => by simp only [VL] at h; simp [h, VL]
  | d :: r, vs, n + 1, h => by
    simp only [VL] at h
    obtain ⟨x, vr, rfl, hv, hr⟩ := h
    simpa using VL_drop n hr

theorem VL_take : ∀ {ds : List D} {vs : List Value} (n : Nat), VL I w ds loc vs → VL I w (ds.take n) loc (vs.take n)
  | ds, vs, 0, h => by simp [VL]
  | [], vs, n + 1, h => by simp only [VL] at h; simp [h, VL]
  | d :: r, vs, n + 1, h => by
    simp only [VL] at h
    obtain ⟨x, vr, rfl, hv, hr⟩ := h
    simp only [List.take_succ_cons, VL]
    exact ⟨x, _, rfl, hv, VL_take n hr⟩

theorem VL_map {ι : Type} {f : ι → D} {g : ι → Value} (h : ∀ x, V I w (f x) loc (g x)) : ∀ l : List ι, VL I w (l.map f) loc (l.map g)
  | [] => by simp [VL]
  | x :: r => by simp only [List.map_cons, VL]; exact ⟨_, _, rfl, h x, VL_map h r⟩

theorem VC_drop : ∀ {cs : List D} {b o : Nat} (n : Nat), VC I w cs b o → VC I w (cs.drop n) b (o + n)
  | cs, b, o, 0, h => by simpa using h
  | [], b, o, n + 1, h => by simp [VC]
  | d :: r, b, o, n + 1, h => by
    simp only [VC] at h
    have := VC_drop n h.2
    simpa [Nat.add_assoc, Nat.add_comm 1 n] using this

theorem VC_take : ∀ {cs : List D} {b o : Nat} (n : Nat), VC I w cs b o → VC I w (cs.take n) b o
  | cs, b, o, 0, h => by simp [VC]
  | [], b, o, n + 1, h => by simp [VC]
  | d :: r, b, o, n + 1, h => by
    simp only [VC] at h
    simp only [List.take_succ_cons, VC]
    exact ⟨h.1, VC_take n h.2⟩

theorem VR_drop {s : Nat} : ∀ {rows : List (List D)} {b o : Nat} (n : Nat), VR I w s rows b o → VR I w s (rows.drop n) b (o + n * s)
  | rows, b, o, 0, h => by simpa using h
  | [], b, o, n + 1, h => by simp [VR]
  | d :: r, b, o, n + 1, h => by
    simp only [VR] at h
    have := VR_drop n h.2.2
    have e : o + s + n * s = o + (n + 1) * s := by rw [Nat.add_mul]; omega
    rw [e] at this
    simpa using this

theorem VR_take {s : Nat} : ∀ {rows : List (List D)} {b o : Nat} (n : Nat), VR I w s rows b o → VR I w s (rows.take n) b o
  | rows, b, o, 0, h => by simp [VR]
  | [], b, o, n + 1, h => by simp [VR]
  | d :: r, b, o, n + 1, h => by
    simp only [VR] at h
    simp only [List.take_succ_cons, VR]
    exact ⟨h.1, h.2.1, VR_take n h.2.2⟩

theorem VR_get {s : Nat} : ∀ {rows : List (List D)} {b o i : Nat} {row : List D}, VR I w s rows b o → rows[i]? = some row → row.length = s ∧ VC I w row b (o + i * s)
  | [], _, _, _, _, _, hi => by simp at hi
  | d :: r, b, o, i, row, h, hi => by
    simp only [VR] at h
    cases i with
    | zero => simp at hi; subst hi; exact ⟨h.1, by simpa using h.2.1⟩
    | succ i =>
      simp at hi
      have := VR_get h.2.2 hi
      have e : o + s + i * s = o + (i + 1) * s := by rw [Nat.add_mul]; omega
      rw [e] at this
      exact this

mutual
theorem ofV_V : ∀ v : Value, V I w (ofV v) loc v
  | .bool b => by simp [ofV, V]
  | .int k n => by simp [ofV, V]
  | .string s => by simp [ofV, V]
  | .pointer none => by simp [ofV, V]
  | .pointer (some a) => by simp [ofV, V]
  | .slice none 0 0 => by simp [ofV, V]
  | .slice none 0 (n + 1) => by simp [ofV, V]
  | .slice none (n + 1) _ => by simp [ofV, V]
  | .slice (some _) _ _ => by simp [ofV, V]
  | .agg ⟨cs⟩ => by
    simp only [ofV]
    split
    · rename_i h
      simp only [V]
      exact ⟨cs, rfl, fun x hx => by simpa using List.all_eq_true.1 h x hx, ofVs_VL cs⟩
    · simp [V]
  | .nilFunc => by simp [ofV, V]
  | .nilIface => by simp [ofV, V]
  | .map none => by simp [ofV, V]
  | .map (some _) => by simp [ofV, V]
  | .float _ _ => by simp [ofV, V]
  | .complex _ _ _ => by simp [ofV, V]
  | .chan _ => by simp [ofV, V]
  | .func _ _ _ => by simp [ofV, V]
  | .iface _ _ => by simp [ofV, V]
  | .tuple _ => by simp [ofV, V]
theorem ofVs_VL : ∀ vs : List Value, VL I w (ofVs vs) loc vs
  | [] => by simp [ofVs, VL]
  | v :: r => by simp only [ofVs, VL]; exact ⟨v, r, rfl, ofV_V v, ofVs_VL r⟩
end

theorem V_cells {d : D} {v : Value} (h : V I w d loc v) (hd : d.fit = true) : VL I w d.cells loc v.cells.toList ∧ ∀ x ∈ v.cells.toList, x.oneCell' = true := by
  cases d <;> simp [D.fit, D.one] at hd
  case agg cs =>
    simp only [V] at h
    obtain ⟨vs, rfl, h1, hv⟩ := h
    exact ⟨by simpa [D.cells, Value.cells] using hv, by simpa [Value.cells] using h1⟩
  case lit x =>
    simp only [V] at h
    subst h
    have hv : v.cells = #[v] ∧ v.oneCell' = true := by
      cases v <;> first | exact ⟨rfl, rfl⟩ | simp at hd
    simp only [D.cells, VL, hv.1]
    exact ⟨⟨v, [], rfl, by simp [V], rfl⟩, by simp [hv.2]⟩
  all_goals
    have hv : v.cells = #[v] ∧ v.oneCell' = true := by
      cases v <;> first | exact ⟨rfl, rfl⟩ | (simp [V] at h; try (split at h <;> simp at h))
    simp only [D.cells, VL, hv.1]
    exact ⟨⟨v, [], rfl, h, rfl⟩, by simp [hv.2]⟩
end
end Go.Abs

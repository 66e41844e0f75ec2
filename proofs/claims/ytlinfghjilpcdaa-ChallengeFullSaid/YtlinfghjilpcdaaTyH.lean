/- Operations on memory in typed abstract values: what they do to the world. No condition. -/
import Derived.Test.YtlinfghjilpcdaaTyG
import Derived.Laws.MakeOwn
import Derived.Laws.IdiomStrings
namespace Go.Abs
open Go
set_option linter.unusedSimpArgs false

section
variable {T : Nat → Type} {C : Cd T} {O I : Nat → Prop} {w : World} {loc : Nat → Nat → Loc} {L : Nat → Nat → Nat} {m : MT T} {P : Program} {Y : Nat → Option TI} {R : Type}

/-! ### read back -/
mutual
theorem pure_clean : ∀ d : DT T, d.pure = true → d.clean = true
  | .agg cs, h => by simp only [DT.pure] at h; simp only [DT.clean]; exact pureTL_clean cs h
  | .dead, _ => rfl
  | .bool _, _ => rfl
  | .int _ _, _ => rfl
  | .u8 _, _ => rfl
  | .u16 _, _ => rfl
  | .u32 _, _ => rfl
  | .u64 _, _ => rfl
  | .str _, _ => rfl
  | .lit _, _ => rfl
  | .nilp, _ => rfl
  | .nils, _ => rfl
  | .rs _ _, _ => rfl
  | .rp _, _ => rfl
  | .bp _ _, h => by cases h
  | .ap _ _ _ _ _, h => by cases h
  | .bs _ _ _ _ _, h => by cases h
  | .bw _ _ _ _, h => by cases h
  | .tup _, h => by cases h
  | .fn _ _, h => by cases h
theorem pureTL_clean : ∀ l : List (DT T), pureTL l = true → cleanL l = true
  | [], _ => rfl
  | d :: r, h => by
    simp only [pureTL, Bool.and_eq_true] at h
    simp only [cleanL, Bool.and_eq_true]
    exact ⟨pure_clean d h.1, pureTL_clean r h.2⟩
end
theorem cleanL_append : ∀ {a b : List (DT T)}, cleanL a = true → cleanL b = true → cleanL (a ++ b) = true
  | [], _, _, hb => hb
  | d :: r, b, ha, hb => by
    simp only [cleanL, Bool.and_eq_true, List.cons_append] at ha ⊢
    exact ⟨ha.1, cleanL_append ha.2 hb⟩
theorem encC_clean (hC : CdOk C) : ∀ (t : VT) (x : t.ty T), cleanL (encC C t x) = true
  | .agg c, x => pureTL_clean _ (hC.epure c x)
  | .fn f cs, x => by simp only [encC, cleanL, DT.clean, encC_clean hC cs x, Bool.and_self]
  | .cons a b, x => cleanL_append (encC_clean hC a x.1) (encC_clean hC b x.2)
  | .bool, _ => rfl
  | .int _, _ => rfl
  | .u8, _ => rfl
  | .u16, _ => rfl
  | .u32, _ => rfl
  | .u64, _ => rfl
  | .str, _ => rfl
  | .rs _, _ => rfl
  | .ref _, _ => rfl
  | .nil, _ => rfl
theorem denL_append (a b : List (DT T)) : denL C (a ++ b) = denL C a ++ denL C b := by simp [denL_map]

theorem one1_ne {cs : List (DT T)} {d : DT T} (h : one1 cs = d) (hd : d ≠ .dead) : cs = [d] := by
  unfold one1 at h
  split at h
  · rw [h]
  · exact absurd h.symm hd
theorem asBool_some {d : DT T} {x : Bool} (h : asBool d = some x) : d = .bool x := by
  unfold asBool at h; split at h <;> simp_all
theorem asInt_some {k : IntKind} {d : DT T} {x : Int} (h : asInt k d = some x) : d = .int k x := by
  unfold asInt at h
  split at h
  · split at h
    · rename_i hk; have hk := of_decide_eq_true hk; simp_all
    · cases h
  · cases h
theorem asU8_some {d : DT T} {x : UInt8} (h : asU8 d = some x) : d = .u8 x := by
  unfold asU8 at h; split at h <;> simp_all
theorem asU16_some {d : DT T} {x : BitVec 16} (h : asU16 d = some x) : d = .u16 x := by
  unfold asU16 at h; split at h <;> simp_all
theorem asU32_some {d : DT T} {x : BitVec 32} (h : asU32 d = some x) : d = .u32 x := by
  unfold asU32 at h; split at h <;> simp_all
theorem asU64_some {d : DT T} {x : BitVec 64} (h : asU64 d = some x) : d = .u64 x := by
  unfold asU64 at h; split at h <;> simp_all
theorem asStr_some {d : DT T} {x : List UInt8} (h : asStr d = some x) : d = .str x := by
  unfold asStr at h; split at h <;> simp_all
theorem asRs_some {c : Nat} {d : DT T} {l : List (T c)} (h : asRs c d = some l) : (d = .nils ∧ l = []) ∨ d = .rs c l := by
  unfold asRs at h
  split at h
  · simp only [Option.some.injEq] at h; exact .inl ⟨rfl, h.symm⟩
  · split at h
    · rename_i hc _
      subst hc
      simp only [Option.some.injEq] at h; subst h; exact .inr rfl
    · cases h
  · cases h
theorem asRp_some {d : DT T} {x : List (DT T)} (h : asRp d = some x) : d = .rp x := by
  unfold asRp at h; split at h <;> simp_all
theorem asFn_some {f : Nat} {d : DT T} {x : List (DT T)} (h : asFn f d = some x) : d = .fn f x := by
  unfold asFn at h
  split at h
  · split at h
    · rename_i hk; have hk := Nat.eq_of_beq_eq_true hk; simp_all
    · cases h
  · cases h

theorem V_rs_nil {I : Nat → Prop} {w : World} {v : Value} {s : Nat} (h : V I w .nils free v) : V I w (.rs s []) free v := by
  simp only [V] at h ⊢
  exact .inl ⟨trivial, none, 0, h⟩

/-- what cells are taken as is what they read as. -/
theorem decC_ok (hC : CdOk C) : ∀ (t : VT) (cs : List (DT T)) (x : t.ty T), decC C t cs = some x → ∀ (I : Nat → Prop) (w : World) (vs : List Value), VL I w (denL C cs) free vs → VL I w (denL C (encC C t x)) free vs := by
  intro t
  induction t with
  | bool => intro cs x h I w vs hv; rw [one1_ne (asBool_some h) (by simp)] at hv; exact hv
  | int k => intro cs x h I w vs hv; rw [one1_ne (asInt_some h) (by simp)] at hv; exact hv
  | u8 => intro cs x h I w vs hv; rw [one1_ne (asU8_some h) (by simp)] at hv; exact hv
  | u16 => intro cs x h I w vs hv; rw [one1_ne (asU16_some h) (by simp)] at hv; exact hv
  | u32 => intro cs x h I w vs hv; rw [one1_ne (asU32_some h) (by simp)] at hv; exact hv
  | u64 => intro cs x h I w vs hv; rw [one1_ne (asU64_some h) (by simp)] at hv; exact hv
  | str => intro cs x h I w vs hv; rw [one1_ne (asStr_some h) (by simp)] at hv; exact hv
  | rs c =>
    intro cs x h I w vs hv
    rcases asRs_some h with ⟨h1, h2⟩ | h1
    · subst h2
      rw [one1_ne h1 (by simp)] at hv
      simp only [denL, den, VL, encC] at hv ⊢
      obtain ⟨v, vr, rfl, h3, h4⟩ := hv
      exact ⟨v, vr, rfl, V_rs_nil h3, h4⟩
    · rw [one1_ne h1 (by simp)] at hv; exact hv
  | agg c => intro cs x h I w vs hv; exact (congrArg (fun q => VL I w q free vs) (hC.enc c x)).mpr ((hC.dec c cs x h).2 I w vs hv)
  | ref t ih =>
    intro cs x h I w vs hv
    simp only [decC] at h
    split at h
    case h_2 => cases h
    rename_i ds hd
    rw [one1_ne (asRp_some hd) (by simp)] at hv
    simp only [denL, den, VL, encC] at hv ⊢
    obtain ⟨v, vr, rfl, h3, h4⟩ := hv
    refine ⟨v, vr, rfl, ?_, h4⟩
    simp only [V] at h3 ⊢
    obtain ⟨b, o, rfl, hI, hvc⟩ := h3
    obtain ⟨us, u1, u2, u3⟩ := VC_list (VC_take (t.sz C) hvc)
    rw [← denL_take] at u1
    exact ⟨b, o, rfl, hI, list_VC (ih _ x h I w us u1) u2 u3⟩
  | fn f c ih =>
    intro cs x h I w vs hv
    simp only [decC] at h
    split at h
    case h_2 => cases h
    rename_i ds hd
    rw [one1_ne (asFn_some hd) (by simp)] at hv
    simp only [denL, den, VL, encC] at hv ⊢
    obtain ⟨v, vr, rfl, h3, h4⟩ := hv
    refine ⟨v, vr, rfl, ?_, h4⟩
    simp only [V] at h3 ⊢
    obtain ⟨us, rfl, hu⟩ := h3
    exact ⟨us, rfl, ih _ x h I w us hu⟩
  | nil =>
    intro cs x h I w vs hv
    simp only [decC] at h
    split at h
    · exact hv
    · cases h
  | cons a b iha ihb =>
    intro cs x h I w vs hv
    simp only [decC] at h
    split at h
    case h_2 => cases h
    rename_i y hy
    split at h
    case h_2 => cases h
    rename_i z hz
    cases h
    show VL I w (denL C (encC C a y ++ encC C b z)) free vs
    rw [denL_append]
    have h1 := iha _ y hy I w (vs.take (a.sz C)) (by rw [denL_take]; exact VL_take _ hv)
    have h2 := ihb _ z hz I w (vs.drop (a.sz C)) (by rw [denL_drop]; exact VL_drop _ hv)
    have := VL_append h1 h2
    rwa [List.take_append_drop] at this

/-! ### elements -/
def encLD1 (C : Cd T) : (l : Lf) → l.ty T → D
  | .bool, x => .bool x
  | .int k, x => .int k x
  | .u8, x => .int .u8 x.toNat
  | .u16, x => .int .u16 x.toNat
  | .u32, x => .int .u32 x.toNat
  | .u64, x => .int .u64 x.toNat
  | .str, x => .str x
  | .rs c, x => .rs (C.sz c) (x.map (C.encD c))
def encLD (C : Cd T) : (ls : List Lf) → tyLs T ls → List D
  | [], _ => []
  | l :: r, x => encLD1 C l x.1 :: encLD C r x.2
theorem decL1_ok (C : Cd T) {l : Lf} {d : DT T} {x : l.ty T} (h : decL1 l d = some x) : (d.pure && d.one) = true ∧ ∀ (I : Nat → Prop) (w : World) (v : Value), V I w (den C d) free v → V I w (encLD1 C l x) free v := by
  cases l with
  | bool => rw [asBool_some h]; exact ⟨rfl, fun _ _ _ hv => hv⟩
  | int k => rw [asInt_some h]; exact ⟨rfl, fun _ _ _ hv => hv⟩
  | u8 => rw [asU8_some h]; exact ⟨rfl, fun _ _ _ hv => hv⟩
  | u16 => rw [asU16_some h]; exact ⟨rfl, fun _ _ _ hv => hv⟩
  | u32 => rw [asU32_some h]; exact ⟨rfl, fun _ _ _ hv => hv⟩
  | u64 => rw [asU64_some h]; exact ⟨rfl, fun _ _ _ hv => hv⟩
  | str => rw [asStr_some h]; exact ⟨rfl, fun _ _ _ hv => hv⟩
  | rs c =>
    rcases asRs_some h with ⟨h1, h2⟩ | h1
    · subst h2; rw [h1]; exact ⟨rfl, fun _ _ _ hv => V_rs_nil hv⟩
    · rw [h1]; exact ⟨rfl, fun _ _ _ hv => hv⟩
theorem decL_ok (C : Cd T) : ∀ (ls : List Lf) (ds : List (DT T)) (x : tyLs T ls), decL ls ds = some x → solidL ds = true ∧ ∀ (I : Nat → Prop) (w : World) (vs : List Value), VL I w (denL C ds) free vs → VL I w (encLD C ls x) free vs
  | [], [], x, _ => ⟨rfl, fun _ _ _ hv => hv⟩
  | [], _ :: _, x, h => by cases h
  | _ :: _, [], x, h => by cases h
  | l :: r, d :: ds, x, h => by
    simp only [decL] at h
    split at h
    case h_2 => cases h
    rename_i y hy
    split at h
    case h_2 => cases h
    rename_i z hz
    cases h
    obtain ⟨h1, h2⟩ := decL1_ok C hy
    obtain ⟨h3, h4⟩ := decL_ok C r ds z hz
    refine ⟨by simp only [solidL, h1, h3, Bool.and_self], fun I w vs hv => ?_⟩
    simp only [denL, VL] at hv
    obtain ⟨v, vr, rfl, hv1, hv2⟩ := hv
    simp only [encLD, VL]
    exact ⟨v, vr, rfl, h2 I w v hv1, h4 I w vr hv2⟩
/-- an element's codec out of its cells. -/
theorem dec_ok (C : Cd T) {c : Nat} (ls : List Lf) {of : tyLs T ls → T c} {e : T c → List D} (he : ∀ y, e (of y) = encLD C ls y) (ds : List (DT T)) (x : T c) (h : (decL ls ds).map of = some x) :
    solidL ds = true ∧ ∀ (I : Nat → Prop) (w : World) (vs : List Value), VL I w (denL C ds) free vs → VL I w (e x) free vs := by
  rw [Option.map_eq_some_iff] at h
  obtain ⟨y, hy, rfl⟩ := h
  rw [he]
  exact decL_ok C ls ds y hy

/-! ### cells without boxes, the boxes frozen -/
theorem frK_ok (hC : CdOk C) (hm : MRel O I loc (denM C m) w) (hw : WfM L m) {cs : List (DT T)} {vs : List Value} {K : List (DT T) → MT T → Option R} {r : R} (hwf : WfL L cs) (hv : VL I w (denL C cs) loc vs) (h : frK C m cs K = some r) :
    ∃ cs' m' I', MRel O I' loc (denM C m') w ∧ WfM L m' ∧ (∀ k, I k → I' k) ∧ (∀ k, I' k → I k ∨ ∃ b g c l, b < m.length ∧ m.get b = .arr g c l ∧ loc b g = .blk k) ∧ VL I' w (denL C cs') free vs ∧ cleanL cs' = true ∧ m'.length = m.length ∧
      (∀ b, m'.get b = m.get b ∨ ∃ g c l, m.get b = .arr g c l ∧ m'.get b = .frz g c l) ∧ K cs' m' = some r := by
  unfold frK at h
  rw [purL_law, Option.bind_eq_some_iff] at h
  obtain ⟨cs', h1, h2⟩ := h
  obtain ⟨I', g1, g2, g3, g4, g5, g6, g7⟩ := fzAll_ok (cs.flatMap (refs 4)) hm hw
  have h3 := mapK_some (purK C m false 4) (fun d => purK C m false 4 d some) (fun x K => purK_law C m false 4 x K) cs cs' h1
  have := mapM_VL cs cs' vs h3 hv (fun d d' v hd hp hv1 => purK_ok hC hm hw g3 false 4 d d' v (.inr ⟨rfl, fun b hb => g7 b (by simp only [List.mem_flatMap]; exact ⟨d, hd, hb⟩)⟩) hp (WfL_iff.1 hwf d hd) hv1)
  exact ⟨cs', _, I', g1, g2, g3, g4, this.1, this.2, g5, g6, h2⟩

theorem fz_own (hm : MRel O I loc (denM C m) w) {I' : Nat → Prop} (h : ∀ k, I' k → I k ∨ ∃ b g c l, b < m.length ∧ m.get b = BoxT.arr g c l ∧ loc b g = .blk k) : ∀ k, I' k → I k ∨ O k := fun k hk => by
  rcases h k hk with h | ⟨b, g, c, l, h1, h2, h3⟩
  · exact .inl h
  · exact .inr (hm.own b g k h1 (by simp [denM, h2, denB, Box.owned]) h3).1
end
end Go.Abs

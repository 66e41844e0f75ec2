/- A function's contract, out of its run. No condition. -/
import Derived.Test.YtlinfghjilpcdaaTyV
namespace Go.Abs
open Go
set_option linter.unusedSimpArgs false
set_option linter.unusedVariables false

section
variable {T : Nat → Type} {P : Program} {E : Env T} {O I0 I I' : Nat → Prop} {w0 w : World} {n : Nat} {kp : List (Nat × Value)} {loc : Nat → Nat → Loc} {L : Nat → Nat → Nat} {a : Act} {R : Type} {C : Cd T} {m : MT T}

/-! ### results -/
theorem resK_ok (hE : EnvOk P E) {σ : ST T} (h : RelT E O I0 w0 n kp I loc L σ.f a w) : ∀ (rs : List ResultVar) {K : List (DT T) → Option R} {r : R}, resK E σ rs K = some r →
    ∃ (ds : List (DT T)) (vs : List Value), (rs.mapM (rdv a)).run P w = .ok vs w ∧ VL I w (denL E.C ds) loc vs ∧ WfL L ds ∧ K ds = some r
  | [], K, r, hr => ⟨[], [], rfl, by simp [denL, VL], trivial, hr⟩
  | .tmp t :: rs, K, r, hr => by
    simp only [resK] at hr
    obtain ⟨ds, vs, h1, h2, h3, h4⟩ := resK_ok hE h rs hr
    refine ⟨tget σ.ts t :: ds, a.tmps.getD t undef :: vs, ?_, by simp only [denL, VL]; exact ⟨_, _, rfl, h.tmp t, h2⟩, ⟨h.wf t, h3⟩, h4⟩
    simp only [List.mapM_cons, Sem.run_bind, Sem.run_pure, Result.andThen_ok, h1, rdv]
  | .cell x t :: rs, K, r, hr => by
    simp only [resK] at hr
    have hx := (evT_ok h (.tmp x)).1
    have hwx := (evT_ok h (.tmp x)).2
    obtain ⟨d, hd, hwd, hr⟩ := load_ok (P := P) hE.cd hE.tys h.mem h.wfm hwx hx _ _ rfl hr
    obtain ⟨ds, vs, h1, h2, h3, h4⟩ := resK_ok hE h rs hr
    obtain ⟨z, hz, hv⟩ := run_loadR (P := P) h.mem hx hd
    have hl : (do loadVar t (← asAddr (a.tmps.getD x undef)) : Sem Value).run P w = .ok z w := by
      have : ∃ ad, a.tmps.getD x undef = .pointer (some ad) := by
        have hx : V I w (den E.C (evT E.G σ.f.t (.tmp x))) loc (a.tmps.getD x undef) := hx
        generalize den E.C (evT E.G σ.f.t (.tmp x)) = q at hx hd
        unfold loadR at hd
        split at hd
        · rename_i b off
          simp only [V] at hx
          cases hl : loc b 0 <;> simp only [hl] at hx
          · exact hx
          · exact ⟨_, hx⟩
        · rename_i b g s i off
          simp only [V] at hx
          cases hl : loc b g <;> simp only [hl] at hx
          · exact hx
          · exact ⟨_, hx⟩
        · rename_i cs
          simp only [V] at hx
          obtain ⟨b, o, hx, _⟩ := hx
          exact ⟨_, hx⟩
        · cases hd
      obtain ⟨ad, had⟩ := this
      have e : a.eval (.tmp x) = a.tmps.getD x undef := rfl
      rw [e] at hz
      rw [had] at hz ⊢
      simpa [Instr.loadAt, Instr.sureAddr, asAddr] using hz
    refine ⟨d :: ds, z :: vs, ?_, by simp only [denL, VL]; exact ⟨_, _, rfl, hv, h2⟩, ⟨hwd, h3⟩, h4⟩
    have hl' : (rdv a (.cell x t)).run P w = .ok z w := hl
    simp only [List.mapM_cons, Sem.run_bind, Sem.run_pure, Result.andThen_ok, h1, hl']

theorem results_run {fn : Func} {vs : List Value} (h : (fn.results.toList.mapM (rdv a)).run P w = .ok vs w) : (results fn a.tmps).run P w = .ok (resV vs) w := by
  have e : results fn a.tmps = (do
      let vs ← fn.results.mapM (rdv a)
      pure (if h : vs.size = 1 then vs[0] else .tuple vs) : Sem Value) := by
    unfold results
    congr 1
  rw [e, Array.mapM_eq_mapM_toList]
  simp only [Sem.run_bind, Sem.run_map, Sem.run_pure, h, Result.andThen_ok, Result.ok.injEq, and_true]
  match vs with
  | [] => rfl
  | [x] => rfl
  | x :: y :: r => simp [resV]

/-! ### what comes back -/
def KeptV (C : Cd T) (I : Nat → Prop) (w : World) (loc : Nat → Nat → Loc) (t : Nat → DT T) : List Slot → Nat → List Value → Prop
  | [], _, _ => True
  | .ptr _ :: r, j, vs => ∃ v vr, vs = v :: vr ∧ V I w (den C (t j)) loc v ∧ KeptV C I w loc t r (j + 1) vr
  | .inp _ :: r, j, vs => ∃ v vr, vs = v :: vr ∧ V I w (den C (t j)) loc v ∧ KeptV C I w loc t r (j + 1) vr
  | .f _ :: r, j, vs => ∃ v vr, vs = v :: vr ∧ KeptV C I w loc t r (j + 1) vr
  | .iter :: r, j, vs => ∃ v vr, vs = v :: vr ∧ KeptV C I w loc t r (j + 1) vr
theorem KeptV.mono {loc' : Nat → Nat → Loc} {t : Nat → DT T} (hI : ∀ k, I k → I' k) (hl : LocExt loc loc') : ∀ {ss : List Slot} {j : Nat} {vs : List Value}, KeptV C I w loc t ss j vs → KeptV C I' w loc' t ss j vs
  | [], j, vs, h => trivial
  | .ptr _ :: r, j, vs, ⟨v, vr, h1, h2, h3⟩ => ⟨v, vr, h1, V_mono (imm_all2 hI) _ loc loc' _ hl h2, h3.mono hI hl⟩
  | .inp _ :: r, j, vs, ⟨v, vr, h1, h2, h3⟩ => ⟨v, vr, h1, V_mono (imm_all2 hI) _ loc loc' _ hl h2, h3.mono hI hl⟩
  | .f _ :: r, j, vs, ⟨v, vr, h1, h3⟩ => ⟨v, vr, h1, h3.mono hI hl⟩
  | .iter :: r, j, vs, ⟨v, vr, h1, h3⟩ => ⟨v, vr, h1, h3.mono hI hl⟩

theorem SVOuts.keep (hI : ∀ k, I k → I' k) : ∀ {ss : List Slot} {x : tyO T ss} {vs : List Value} {own : Nat → Prop}, SVOuts C I w ss x vs own → SVOuts C I' w ss x vs own
  | [], x, vs, own, h => trivial
  | .ptr fs :: r, x, vs, own, ⟨v, vr, o1, o2, h1, h2, h3, h4⟩ => ⟨v, vr, o1, o2, h1, SVS.keep (s := .ptr fs) (.imm hI) h2, SVOuts.keep hI h3, h4⟩
  | .inp c :: r, x, vs, own, ⟨v, vr, o1, o2, h1, h2, h3, h4⟩ => ⟨v, vr, o1, o2, h1, SVO.keep (.imm hI) h2, SVOuts.keep hI h3, h4⟩
  | .f f :: r, x, vs, own, ⟨v, vr, h1, h2⟩ => ⟨v, vr, h1, SVOuts.keep (ss := r) hI h2⟩
  | .iter :: r, x, vs, own, ⟨v, vr, h1, h2⟩ => ⟨v, vr, h1, SVOuts.keep (ss := r) hI h2⟩

theorem outs_ok (hC : CdOk C) {t : Nat → DT T} (ht : ∀ i, WfD L (t i)) : ∀ (ss : List Slot) {j : Nat} {m : MT T} {I : Nat → Prop} {loc : Nat → Nat → Loc} {vs : List Value} {K : tyO T ss → MT T → Option R} {r : R}, MRel O I loc (denM C m) w → WfM L m → KeptV C I w loc t ss j vs → outsK C t ss j m K = some r →
    ∃ x own I' m' loc', Took C O I w loc L m own I' m' loc' ∧ SVOuts C I' w ss x vs own ∧ K x m' = some r
  | [], j, m, I, loc, vs, K, r, hm, hw, hv, h => ⟨(), none', I, m, loc, .refl hm hw, trivial, h⟩
  | .ptr fs :: ss, j, m, I, loc, vs, K, r, hm, hw, hv, h => by
    obtain ⟨v, vr, rfl, hv1, hv2⟩ := hv
    have h' : decSK C m (.ptr fs) (t j) (fun x m' => outsK C t ss (j + 1) m' fun y m'' => K (x, y) m'') = some r := h
    obtain ⟨x, o1, I1, m1, loc1, h1, h2, h3⟩ := dec_s hC hm hw (ht j) hv1 h'
    obtain ⟨y, o2, I2, m2, loc2, g1, g2, g3⟩ := outs_ok hC ht ss h1.mem h1.wf (hv2.mono h1.imm0 h1.ext) h3
    exact ⟨(x, y), _, I2, m2, loc2, h1.trans g1, ⟨v, vr, o1, o2, rfl, h2.keep (.imm g1.imm0), g2, fun _ h => .inl h, fun _ h => .inr h, h1.disj g1⟩, g3⟩
  | .inp c :: ss, j, m, I, loc, vs, K, r, hm, hw, hv, h => by
    obtain ⟨v, vr, rfl, hv1, hv2⟩ := hv
    have h' : decOK m c (t j) (fun x m' => outsK C t ss (j + 1) m' fun y m'' => K (x, y) m'') = some r := by
      simp only [outsK] at h
      unfold decOK
      split at h
      · rename_i hb; simp only [hb]; exact h
      · cases h
    obtain ⟨x, o1, I1, m1, loc1, h1, h2, h3⟩ := dec_own hm hw (ht j) hv1 h'
    obtain ⟨y, o2, I2, m2, loc2, g1, g2, g3⟩ := outs_ok hC ht ss h1.mem h1.wf (hv2.mono h1.imm0 h1.ext) h3
    exact ⟨(x, y), _, I2, m2, loc2, h1.trans g1, ⟨v, vr, o1, o2, rfl, h2.keep (.imm g1.imm0), g2, fun _ h => .inl h, fun _ h => .inr h, h1.disj g1⟩, g3⟩
  | .f f :: ss, j, m, I, loc, vs, K, r, hm, hw, hv, h => by
    obtain ⟨v, vr, rfl, hv2⟩ := hv
    obtain ⟨y, o2, I2, m2, loc2, g1, g2, g3⟩ := outs_ok hC ht ss (K := K) hm hw hv2 h
    exact ⟨y, o2, I2, m2, loc2, g1, ⟨v, vr, rfl, g2⟩, g3⟩
  | .iter :: ss, j, m, I, loc, vs, K, r, hm, hw, hv, h => by
    obtain ⟨v, vr, rfl, hv2⟩ := hv
    obtain ⟨y, o2, I2, m2, loc2, g1, g2, g3⟩ := outs_ok hC ht ss (K := K) hm hw hv2 h
    exact ⟨y, o2, I2, m2, loc2, g1, ⟨v, vr, rfl, g2⟩, g3⟩

/-! ### a call's beginning -/
/-- the places that come back. -/
def kqOf : List Slot → Nat → List Nat
  | [], _ => []
  | .ptr _ :: r, j => j :: kqOf r (j + 1)
  | .inp _ :: r, j => j :: kqOf r (j + 1)
  | .f _ :: r, j => kqOf r (j + 1)
  | .iter :: r, j => kqOf r (j + 1)
def kpOf (args : List Value) (kq : List Nat) : List (Nat × Value) := kq.map fun j => (j, args.getD j undef)

theorem SVSs_len : ∀ {ss : List Slot} {x : tySs T ss} {vs : List Value} {own : Nat → Prop}, SVSs C I w ss x vs own → vs.length = ss.length
  | [], x, vs, own, h => by have h : vs = [] := h; simp [h]
  | s :: r, x, vs, own, ⟨v, vr, o1, o2, h1, h2, h3, h4⟩ => by subst h1; simp [SVSs_len h3]
theorem encSs_len (C : Cd T) : ∀ (ss : List Slot) (x : tySs T ss) (b : Nat), (encSs C b ss x).1.length = ss.length
  | [], x, b => rfl
  | s :: r, x, b => by simp [encSs, encSs_len C r x.2]

theorem tget_range (ds : List (DT T)) : ∀ (k : Nat) (i : Nat), tget ((List.range' k ds.length).zip ds) (k + i) = ds.getD i .dead := by
  induction ds with
  | nil => intro k i; simp [tget]
  | cons d r ih =>
    intro k i
    simp only [List.length_cons, List.range'_succ, List.zip_cons_cons, tget_cons, upd]
    cases i with
    | zero => simp
    | succ i =>
      rw [if_neg (by omega)]
      have := ih (k + 1) i
      rw [show k + 1 + i = k + (i + 1) by omega] at this
      rw [this]; rfl
theorem tget_enter (ds : List (DT T)) (i : Nat) : tget ((List.range ds.length).zip ds) i = ds.getD i .dead := by
  have := tget_range ds 0 i
  rw [Nat.zero_add] at this
  rw [List.range_eq_range']
  exact this

/-- A FUNCTION'S CONTRACT, out of its typed run. -/
theorem sound_fn (hmix : P.follows .mixedOrders = true) (hE : EnvOk P E) {A : Loc2 T} {done : List Nat} {f : FuncId} {fn : Func} {c : Code} {S : FSpec T} (hf : P.funcs[f]? = some fn) (hb : fn.body = some c) (hname : (fn.name == "runtime.NumGoroutine") = false) (hps : Nat.ble S.ps.length fn.ntmps = true)
    (hlp : ∀ id ∈ done, ∀ S', A.lp id = some S' → LoopOk P E fn.ntmps (kqOf S.ps 0) (loopAt id c) S') (hok : codeOkT E A fn.ntmps (kqOf S.ps 0) done c = true) (hs : strip A c c = c)
    (heq : ∀ x, run E A c (enterT E.C S.ps x) (retK E fn.results.toList S.ps S.rs) = S.fn x) : SoundT P E.C (fun g => (E.G g).map (denL E.C)) f S := by
  refine ⟨⟨fn, hf, by simp [hb], hname⟩, fun I own w args x r hI hown hG hsv hfn => ?_⟩
  have hlen := SVSs_len hsv
  have hps' : S.ps.length ≤ fn.ntmps := Nat.le_of_ble_eq_true hps
  obtain ⟨loc1, L1, p1, p2, p3⟩ := put_ss hE.cd S.ps (m := ([] : MT T)) (loc := free) (L := fun _ _ => 0) (O := fun k => own k ∨ w.heap.size ≤ k) (empty_ok hI (fun k h => .inr h)) (fun b => trivial) hsv
    ⟨fun k hk => ⟨.inl hk, (hown k hk).1, (hown k hk).2⟩, fun k _ ⟨b, g, q, _⟩ => absurd q (Nat.not_lt_zero _)⟩
  have hds : (encSs E.C 0 S.ps x).1.length = args.length := by rw [encSs_len, hlen]
  have getA : ∀ i, (args.toArray ++ Array.replicate (fn.ntmps - args.toArray.size) undef).getD i undef = args.getD i undef := fun i => by
    by_cases hi : i < args.length
    · simp [Array.getD_eq_getD_getElem?, Array.getElem?_append, hi]
    · simp only [Array.getD_eq_getD_getElem?, Array.getElem?_append, List.size_toArray, hi, if_false]
      rw [List.getD_eq_getElem?_getD, List.getElem?_eq_none (by omega), Array.getElem?_replicate]
      split <;> rfl
  have h0 : RelT E (fun k => own k ∨ w.heap.size ≤ k) I w fn.ntmps (kpOf args (kqOf S.ps 0)) I loc1 L1 (enterT E.C S.ps x).f { tmps := args.toArray ++ Array.replicate (fn.ntmps - args.toArray.size) undef, defers := [] } w := by
    have ht : ∀ i, V I w (den E.C ((encSs E.C 0 S.ps x).1.getD i .dead)) loc1 (args.getD i undef) ∧ WfD L1 ((encSs E.C 0 S.ps x).1.getD i .dead) := fun i => by
      by_cases hi : i < (encSs E.C 0 S.ps x).1.length
      · have e1 : (encSs E.C 0 S.ps x).1.getD i .dead = (encSs E.C 0 S.ps x).1[i] := by simp [List.getD, hi]
        obtain ⟨v, g1, g2⟩ := VL_get (i := i) (d := den E.C (encSs E.C 0 S.ps x).1[i]) p2 (by simp [denL_map, hi])
        have e2 : args.getD i undef = v := by rw [List.getD_eq_getElem?_getD, g1]; rfl
        rw [e1, e2]
        exact ⟨g2, WfL_iff.1 p3 _ (List.getElem_mem hi)⟩
      · have e1 : (encSs E.C 0 S.ps x).1.getD i .dead = .dead := by simp [List.getD, hi]
        rw [e1]; exact ⟨trivial, trivial⟩
    refine ⟨by simp; omega, rfl, fun i => ?_, fun i => ?_, p1.mem, p1.wf, hG, .refl _ _, fun _ => Nat.le_refl _, fun _ h => h, fun _ h => .inl h, fun p hp => ?_⟩
    · rw [getA]
      show V I w (den E.C (tget ((List.range (encSs E.C 0 S.ps x).1.length).zip (encSs E.C 0 S.ps x).1) i)) loc1 _
      rw [tget_enter]; exact (ht i).1
    · show WfD L1 (tget ((List.range (encSs E.C 0 S.ps x).1.length).zip (encSs E.C 0 S.ps x).1) i)
      rw [tget_enter]; exact (ht i).2
    · simp only [kpOf, List.mem_map] at hp
      obtain ⟨j, _, rfl⟩ := hp
      exact getA j
  refine calls_of_wp hf hb (run_ok hmix hE (kq := kqOf S.ps 0) (fun p hp => by
    simp only [kpOf, List.mem_map] at hp
    obtain ⟨j, hj, rfl⟩ := hp
    exact hj) hlp c hok hs h0 ((heq x).trans hfn) fun e τ I1 loc2 L2 a w' h hk => ?_)
  have fin : (resK E τ fn.results.toList fun ds => outsK E.C (tget τ.ts) S.ps 0 τ.m fun x m => decFVsK E.C S.rs m ds fun y _ => some (x, y)) = some r →
      a.defers = [] ∧ ∃ v, (results fn a.tmps).run P w' = .ok v w' ∧ ∃ vs I' o1 o2, Ending.returned v = .returned (resV vs) ∧ Fr (fun k => own k ∨ w.heap.size ≤ k) w w' ∧ (∀ b, rowSize w b ≤ rowSize w' b) ∧ (∀ k, I k → I' k) ∧ (∀ k, I' k → I k ∨ own k ∨ w.heap.size ≤ k) ∧ (∀ k, I' k → k < w'.heap.size) ∧
      (∀ k, o1 k ∨ o2 k → (own k ∨ w.heap.size ≤ k) ∧ ¬ I' k ∧ k < w'.heap.size) ∧ (∀ k, o1 k → ¬ o2 k) ∧ SVOuts E.C I' w' S.ps r.1 args o1 ∧ SVVs E.C I' w' S.rs r.2 vs o2 := by
    intro hk
    obtain ⟨ds, vs, h1, h2, h3, h4⟩ := resK_ok hE h _ hk
    have kept : ∀ (ss : List Slot) (j : Nat), (∀ q ∈ kqOf ss j, q ∈ kqOf S.ps 0) → j + ss.length = args.length → KeptV E.C I1 w' loc2 (tget τ.ts) ss j (args.drop j) := by
      intro ss
      induction ss with
      | nil => intro j _ _; trivial
      | cons s ss ih =>
        intro j hq hj
        have hj' : j < args.length := by simp at hj; omega
        have hd : args.drop j = args[j] :: args.drop (j + 1) := by rw [List.drop_eq_getElem_cons hj']
        have next := ih (j + 1) (fun q hq' => hq q (by cases s <;> simp [kqOf, hq'])) (by simp at hj; omega)
        have val : j ∈ kqOf S.ps 0 → V I1 w' (den E.C (tget τ.ts j)) loc2 args[j] := fun hm => by
          have e := h.kept (j, args.getD j undef) (by simp only [kpOf, List.mem_map]; exact ⟨j, hm, rfl⟩)
          have v := h.tmp j
          simp only at e
          rw [e, List.getD_eq_getElem?_getD, List.getElem?_eq_getElem hj'] at v
          exact v
        rw [hd]
        cases s with
        | ptr fs => exact ⟨_, _, rfl, val (hq j (by simp [kqOf])), next⟩
        | inp c => exact ⟨_, _, rfl, val (hq j (by simp [kqOf])), next⟩
        | f g => exact ⟨_, _, rfl, next⟩
        | iter => exact ⟨_, _, rfl, next⟩
    obtain ⟨x1, o1, I2, m2, loc3, g1, g2, g3⟩ := outs_ok (t := tget τ.ts) hE.cd h.wf S.ps h.mem h.wfm (vs := args) (by simpa using kept S.ps 0 (fun _ h => h) (by omega)) h4
    obtain ⟨y1, o2, I3, m3, loc4, k1, k2, k3⟩ := dec_fvs hE.cd S.rs g1.mem g1.wf h3 (VL_mono (imm_all2 g1.imm0) _ _ _ _ g1.ext h2) g3
    simp only [Option.some.injEq] at k3
    subst k3
    have tk := g1.trans k1
    refine ⟨h.defers, _, results_run h1, vs, I3, o1, o2, rfl, h.fr, h.rows, fun k hk => tk.imm0 k (h.imm0 k hk), fun k hk => ?_, tk.mem.imm, fun k hk => ⟨((tk.got k hk).2.facts h.mem).1, (tk.got k hk).1, ((tk.got k hk).2.facts h.mem).2.2⟩, g1.disj k1, SVOuts.keep k1.imm0 g2, k2⟩
    rcases tk.imm1 k hk with q | q
    · exact h.imm1 k q
    · exact .inr (q.facts h.mem).1
  cases e with
  | exit id => cases hk
  | normal => exact fin hk
  | ret => exact fin hk
end
end Go.Abs

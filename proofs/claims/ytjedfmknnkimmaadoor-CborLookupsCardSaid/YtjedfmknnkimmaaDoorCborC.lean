/- cbor: the recursive walk over items is the machine over a stack. No condition. -/
import Derived.Test.YtjedfmknnkimmaaDoorCborB
set_option linter.unusedVariables false
set_option linter.unusedSimpArgs false
set_option maxRecDepth 100000
namespace Go.Proofs.YtjedfmknnkimmaaDoor
open Go Go.Abs
abbrev Res (σ : Type) := Int × List ApiItem × σ
def LA {σ : Type} (rec : σ → Nat → Res σ) : Nat → σ → Nat → Res σ
  | 0, s, _ => (0, [], s)
  | k + 1, s, n => bif decide ((rec s n).1 = 0) then ((LA rec k (rec s n).2.2 (n + (rec s n).2.1.length)).1, (rec s n).2.1 ++ (LA rec k (rec s n).2.2 (n + (rec s n).2.1.length)).2.1, (LA rec k (rec s n).2.2 (n + (rec s n).2.1.length)).2.2) else ((rec s n).1, [], s)
def LM {σ : Type} (recK : σ → Nat → List UInt8 → Res σ) (recV : σ → Nat → Res σ) : Nat → σ → Nat → List UInt8 → Res σ
  | 0, s, _, _ => (0, [], s)
  | k + 1, s, n, last =>
    let a := recK s n last
    bif decide (a.1 = 0) then
      let b := recV a.2.2 (n + a.2.1.length)
      bif decide (b.1 = 0) then
        let q := LM recK recV k b.2.2 (n + a.2.1.length + b.2.1.length) (enc (a.2.1.headD default))
        (q.1, a.2.1 ++ (b.2.1 ++ q.2.1), q.2.2)
      else (b.1, [], s)
    else (a.1, [], s)
def W {σ : Type} (get : Nat → Nat → Bool → List UInt8 → σ → Int × ApiItem × σ) : Nat → σ → Nat → Nat → Bool → List UInt8 → Res σ
  | 0, s, _, _, _, _ => (99, [], s)
  | f + 1, s, n, d, key, before =>
    let g := get n d key before s
    bif decide (g.1 = 0) then
      let q := bif decide (g.2.1.kind = 5) then LA (fun s n => W get f s n (d + 1) false []) g.2.1.number.toNat g.2.2 (n + 1)
        else bif decide (g.2.1.kind = 6) then LM (fun s n last => W get f s n (d + 1) true last) (fun s n => W get f s n (d + 1) false []) g.2.1.number.toNat g.2.2 (n + 1) []
        else (0, [], g.2.2)
      (q.1, g.2.1 :: q.2.1, q.2.2)
    else (g.1, [], s)
structure GetOk {σ : Type} (get : Nat → Nat → Bool → List UInt8 → σ → Int × ApiItem × σ) : Prop where
  small : ∀ {n d : Nat} {k : Bool} {b : List UInt8} {s : σ} {x : ApiItem} {t : σ}, get n d k b s = (0, x, t) → n < 512 ∧ d ≤ 8 ∧ (isN x.kind = true → x.number.toNat ≤ 512)
  free : ∀ (n d : Nat) (b b' : List UInt8) (s : σ), get n d false b s = get n d false b' s
def Goes {σ : Type} (get : Nat → Nat → Bool → List UInt8 → σ → Int × ApiItem × σ) (m : Nat) (S : List CborFrame) (n : Nat) (s : σ) (w : Res σ) (T : List CborFrame) : Prop :=
  (w.1 ≠ 0 → (mach get m S n s).1 = w.1) ∧
  (w.1 = 0 → n + w.2.1.length ≤ 512 ∧ mach get m S n s = ((mach get (m - w.2.1.length) T (n + w.2.1.length) w.2.2).1, w.2.1 ++ (mach get (m - w.2.1.length) T (n + w.2.1.length) w.2.2).2.1, (mach get (m - w.2.1.length) T (n + w.2.1.length) w.2.2).2.2))
theorem Goes.trans {σ : Type} {get : Nat → Nat → Bool → List UInt8 → σ → Int × ApiItem × σ} {m n : Nat} {S T U : List CborFrame} {s : σ} {a b : Res σ} (h1 : Goes get m S n s a T) (ha : a.1 = 0) (h2 : Goes get (m - a.2.1.length) T (n + a.2.1.length) a.2.2 b U) : Goes get m S n s (b.1, a.2.1 ++ b.2.1, b.2.2) U := by
  obtain ⟨_, h1⟩ := h1
  obtain ⟨i1, i2⟩ := h1 ha
  refine ⟨fun hb => ?_, fun hb => ?_⟩
  · rw [i2]; exact h2.1 hb
  · obtain ⟨j1, j2⟩ := h2.2 hb
    dsimp only at *
    refine ⟨by rw [List.length_append]; omega, ?_⟩
    rw [i2, j2, List.length_append, Nat.sub_sub, Nat.add_assoc, List.append_assoc]
theorem Goes.fail {σ : Type} {get : Nat → Nat → Bool → List UInt8 → σ → Int × ApiItem × σ} {m n : Nat} {S T U : List CborFrame} {s : σ} {a : Res σ} {e : Int} {o : List ApiItem} {t : σ} (h1 : Goes get m S n s a T) (ha : a.1 ≠ 0) (he : e = a.1) : Goes get m S n s (e, o, t) U := by
  subst he
  exact ⟨fun _ => h1.1 ha, fun h => absurd h ha⟩
theorem Goes.fail2 {σ : Type} {get : Nat → Nat → Bool → List UInt8 → σ → Int × ApiItem × σ} {m n : Nat} {S T U V : List CborFrame} {s : σ} {a b : Res σ} {o : List ApiItem} {t : σ} (h1 : Goes get m S n s a T) (ha : a.1 = 0) (h2 : Goes get (m - a.2.1.length) T (n + a.2.1.length) a.2.2 b U) (hb : b.1 ≠ 0) : Goes get m S n s (b.1, o, t) V := by
  obtain ⟨i1, i2⟩ := h1.2 ha
  refine ⟨fun _ => ?_, fun h => absurd h hb⟩
  rw [i2]; exact h2.1 hb
theorem Goes.nil {σ : Type} {get : Nat → Nat → Bool → List UInt8 → σ → Int × ApiItem × σ} {m n : Nat} {S : List CborFrame} {s : σ} (hn : n ≤ 512) : Goes get m S n s (0, [], s) S :=
  ⟨fun h => absurd rfl h, fun _ => ⟨by simpa using hn, by simp⟩⟩
theorem W_ne {σ : Type} {get : Nat → Nat → Bool → List UInt8 → σ → Int × ApiItem × σ} {f : Nat} {s : σ} {n d : Nat} {key : Bool} {b : List UInt8} (h : (W get f s n d key b).1 = 0) : ∃ x r, (W get f s n d key b).2.1 = x :: r := by
  cases f with
  | zero => simp [W] at h
  | succ f =>
    unfold W at h ⊢
    dsimp only at h ⊢
    by_cases hg : (get n d key b s).1 = 0
    · rw [show decide ((get n d key b s).1 = 0) = true by simpa using hg]
      exact ⟨_, _, rfl⟩
    · rw [show decide ((get n d key b s).1 = 0) = false by simpa using hg] at h
      exact absurd h hg
theorem tmod2 (j : Nat) : Int.tmod (2 * ((j + 1 : Nat) : Int)) 2 = 0 ∧ Int.tmod (2 * ((j + 1 : Nat) : Int) - 1) 2 = 1 := by
  constructor
  · rw [show (2 * ((j + 1 : Nat) : Int)) = ((2 * (j + 1) : Nat) : Int) by omega]
    show (((2 * (j + 1)) % 2 : Nat) : Int) = 0
    omega
  · rw [show (2 * ((j + 1 : Nat) : Int) - 1) = ((2 * j + 1 : Nat) : Int) by omega]
    show (((2 * j + 1) % 2 : Nat) : Int) = 1
    omega
theorem W_goes {σ : Type} {get : Nat → Nat → Bool → List UInt8 → σ → Int × ApiItem × σ} (G : GetOk get) : ∀ (f : Nat) (S : List CborFrame) (n m : Nat) (s : σ), WS S → (S = [] → n = 0) → 10 ≤ f + S.length → 600 ≤ m + n → n ≤ 512 →
    Goes get m S n s (W get f s n S.length (atK S) (lst S)) (pop (dcr (mrk ((W get f s n S.length (atK S) (lst S)).2.1.headD default) S)))
  | 0, S, n, m, s, hS, _, hf, _, _ => by have := hS.2.2; omega
  | f + 1, S, n, m, s, hS, hS0, hf, hm, hn => by
    have ih := W_goes G f
    have hSe : (decide (0 < n) && S.isEmpty) = false := by
      cases S with
      | nil => rw [hS0 rfl]; rfl
      | cons _ _ => simp
    obtain ⟨m, rfl⟩ : ∃ q, m = q + 1 := ⟨m - 1, by omega⟩
    unfold W
    dsimp only
    rcases hg : get n S.length (atK S) (lst S) s with ⟨e, x, t⟩
    dsimp only
    by_cases he : e = 0
    · subst he
      simp only [decide_true, cond_true, List.headD_cons]
      obtain ⟨g1, g2, g3⟩ := G.small hg
      have hstep := mach_step (f := m) hSe hg
      have hM : (∀ f ∈ dcr (mrk x S), 0 ≤ f.left ∧ f.left ≤ 1024) ∧ (dcr (mrk x S)).length = S.length := by
        cases S with
        | nil => exact ⟨by simp [mrk, atK, dcr], rfl⟩
        | cons f r =>
          have h0 : 0 < f.left := hS.2.1
          have h1 := hS.1 f (by simp)
          have h2 : ∀ g ∈ r, 0 ≤ g.left ∧ g.left ≤ 1024 := fun g hg => hS.1 g (by simp [hg])
          unfold mrk
          cases atK (f :: r)
          · refine ⟨?_, rfl⟩
            intro g hg
            rcases List.mem_cons.1 hg with rfl | hg
            · dsimp only; omega
            · exact h2 g hg
          · refine ⟨?_, rfl⟩
            intro g hg
            rcases List.mem_cons.1 hg with rfl | hg
            · dsimp only; omega
            · exact h2 g hg
      generalize hD : dcr (mrk x S) = D at hM
      obtain ⟨D1, D2⟩ := hM
      have hnx : nxt x S = pop (psh x D) := by unfold nxt; rw [hD]
      rw [hnx] at hstep
      -- the first item is taken
      have h1 : Goes get (m + 1) S n s (0, [x], t) (pop (psh x D)) := ⟨fun h => absurd rfl h, fun _ => ⟨by simp; omega, by
        dsimp only
        rw [hstep]; rfl⟩⟩
      -- a frame over D
      have wsF : ∀ (p : Bool) (j : Int) (l : List UInt8), 0 < j → j ≤ 1024 → WS (⟨p, j, l⟩ :: D) := fun p j l hj hj2 => ⟨fun g hg => by
        rcases List.mem_cons.1 hg with rfl | hg
        · dsimp only; omega
        · exact D1 g hg, hj, by simp [D2]; omega⟩
      have popF : ∀ (p : Bool) (j : Int) (l : List UInt8), j ≠ 0 → pop (⟨p, j, l⟩ :: D) = ⟨p, j, l⟩ :: D := fun p j l hj => by
        conv => lhs; unfold pop
        simp [hj]
      have popZ : ∀ (p : Bool) (l : List UInt8), pop (⟨p, 0, l⟩ :: D) = pop D := fun p l => by
        conv => lhs; unfold pop
        simp
      have fin : ∀ q : Res σ, Goes get m (pop (psh x D)) (n + 1) t q (pop D) → Goes get (m + 1) S n s (q.1, x :: q.2.1, q.2.2) (pop D) := fun q hq => h1.trans rfl hq
      refine fin _ ?_
      by_cases hk0 : 0 < x.number.toNat
      · by_cases h5 : x.kind = 5
        · have hk := g3 (by simp [isN, h5])
          have hp : pop (psh x D) = ⟨false, (x.number.toNat : Int), []⟩ :: D := by
            unfold psh
            simp only [h5, hk0, decide_true, cond_true]
            exact popF _ _ _ (by omega)
          rw [hp]
          simp only [h5, decide_true, cond_true]
          have loop : ∀ (k : Nat) (s : σ) (n m : Nat), 0 < k → k ≤ 512 → 600 ≤ m + n → 0 < n → n ≤ 512 → Goes get m (⟨false, (k : Int), []⟩ :: D) n s (LA (fun s n => W get f s n (S.length + 1) false []) k s n) (pop D) := by
            intro k
            induction k with
            | zero => intro s n m h; omega
            | succ k ihk =>
              intro s n m _ hk2 hm2 hn0 hn2
              have hr := ih (⟨false, ((k + 1 : Nat) : Int), []⟩ :: D) n m s (wsF _ _ _ (by omega) (by omega)) (by simp) (by simp [D2]; omega) hm2 hn2
              have ea : atK (⟨false, ((k + 1 : Nat) : Int), []⟩ :: D) = false := rfl
              have el : (⟨false, ((k + 1 : Nat) : Int), []⟩ :: D : List CborFrame).length = S.length + 1 := by simp [D2]
              have elst : lst (⟨false, ((k + 1 : Nat) : Int), []⟩ :: D) = [] := rfl
              have em : ∀ y, pop (dcr (mrk y (⟨false, ((k + 1 : Nat) : Int), []⟩ :: D))) = pop (⟨false, (k : Int), []⟩ :: D) := fun y => by
                unfold mrk
                rw [ea]
                show pop (⟨false, ((k + 1 : Nat) : Int) - 1, []⟩ :: D) = _
                rw [show ((k + 1 : Nat) : Int) - 1 = (k : Int) by omega]
              rw [ea, el, elst, em] at hr
              unfold LA
              generalize hw : W get f s n (S.length + 1) false [] = w at hr
              by_cases hw0 : w.1 = 0
              · rw [show decide (w.1 = 0) = true by simpa using hw0]
                simp only [cond_true]
                obtain ⟨i1, i2⟩ := hr.2 hw0
                obtain ⟨y, r, hy⟩ := W_ne (get := get) (f := f) (s := s) (n := n) (d := S.length + 1) (key := false) (b := []) (by rw [hw]; exact hw0)
                rw [hw] at hy
                have hl1 : 1 ≤ w.2.1.length := by rw [hy]; simp
                refine hr.trans hw0 ?_
                by_cases hk1 : 0 < k
                · rw [popF _ _ _ (by omega)]
                  exact ihk w.2.2 (n + w.2.1.length) (m - w.2.1.length) hk1 (by omega) (by omega) (by omega) (by omega)
                · have : k = 0 := by omega
                  subst this
                  rw [show ((0 : Nat) : Int) = 0 from rfl, popZ]
                  exact Goes.nil (by omega)
              · rw [show decide (w.1 = 0) = false by simpa using hw0]
                exact hr.fail hw0 rfl
          exact loop _ t (n + 1) m hk0 hk (by omega) (by omega) (by omega)
        · by_cases h6 : x.kind = 6
          · have hk := g3 (by simp [isN, h6])
            have hp : pop (psh x D) = ⟨true, 2 * (x.number.toNat : Int), []⟩ :: D := by
              unfold psh
              simp only [h6, hk0, decide_true, cond_true, Int.reduceEq, decide_false, cond_false]
              exact popF _ _ _ (by omega)
            rw [hp]
            simp only [h6, decide_true, cond_true, Int.reduceEq, decide_false, cond_false]
            have loop : ∀ (k : Nat) (s : σ) (n m : Nat) (l : List UInt8), 0 < k → k ≤ 512 → 600 ≤ m + n → 0 < n → n ≤ 512 → Goes get m (⟨true, 2 * (k : Int), l⟩ :: D) n s (LM (fun s n last => W get f s n (S.length + 1) true last) (fun s n => W get f s n (S.length + 1) false []) k s n l) (pop D) := by
              intro k
              induction k with
              | zero => intro s n m l h; omega
              | succ k ihk =>
                intro s n m l _ hk2 hm2 hn0 hn2
                obtain ⟨t0, t1⟩ := tmod2 k
                -- the key
                have hr := ih (⟨true, 2 * ((k + 1 : Nat) : Int), l⟩ :: D) n m s (wsF _ _ _ (by omega) (by omega)) (by simp) (by simp [D2]; omega) hm2 hn2
                have ea : atK (⟨true, 2 * ((k + 1 : Nat) : Int), l⟩ :: D) = true := by simp only [atK, t0]; rfl
                have el : ∀ g : CborFrame, (g :: D).length = S.length + 1 := fun g => by simp [D2]
                have elst : lst (⟨true, 2 * ((k + 1 : Nat) : Int), l⟩ :: D) = l := rfl
                have em : ∀ y, pop (dcr (mrk y (⟨true, 2 * ((k + 1 : Nat) : Int), l⟩ :: D))) = ⟨true, 2 * ((k + 1 : Nat) : Int) - 1, enc y⟩ :: D := fun y => by
                  unfold mrk
                  rw [ea]
                  exact popF true (2 * ((k + 1 : Nat) : Int) - 1) (enc y) (by omega)
                rw [ea, el, elst, em] at hr
                unfold LM
                dsimp only
                generalize hw : W get f s n (S.length + 1) true l = w at hr
                by_cases hw0 : w.1 = 0
                · rw [show decide (w.1 = 0) = true by simpa using hw0]
                  simp only [cond_true]
                  obtain ⟨i1, i2⟩ := hr.2 hw0
                  obtain ⟨y, r, hy⟩ := W_ne (get := get) (f := f) (s := s) (n := n) (d := S.length + 1) (key := true) (b := l) (by rw [hw]; exact hw0)
                  rw [hw] at hy
                  have hl1 : 1 ≤ w.2.1.length := by rw [hy]; simp
                  generalize hky : enc (w.2.1.headD default) = ky at hr
                  -- the value
                  have hv := ih (⟨true, 2 * ((k + 1 : Nat) : Int) - 1, ky⟩ :: D) (n + w.2.1.length) (m - w.2.1.length) w.2.2 (wsF _ _ _ (by omega) (by omega)) (by simp) (by simp [D2]; omega) (by omega) (by omega)
                  have eb : atK (⟨true, 2 * ((k + 1 : Nat) : Int) - 1, ky⟩ :: D) = false := by simp only [atK, t1]; rfl
                  have eWf : ∀ (s : σ) (n : Nat) (b : List UInt8), W get f s n (S.length + 1) false b = W get f s n (S.length + 1) false [] := fun s n b => by
                    cases f with
                    | zero => rfl
                    | succ f =>
                      unfold W
                      rw [G.free n (S.length + 1) b []]
                  have em2 : ∀ y, pop (dcr (mrk y (⟨true, 2 * ((k + 1 : Nat) : Int) - 1, ky⟩ :: D))) = pop (⟨true, 2 * (k : Int), ky⟩ :: D) := fun y => by
                    unfold mrk
                    rw [eb]
                    show pop (⟨true, 2 * ((k + 1 : Nat) : Int) - 1 - 1, ky⟩ :: D) = _
                    rw [show 2 * ((k + 1 : Nat) : Int) - 1 - 1 = 2 * (k : Int) by omega]
                  rw [eb, el, eWf, em2] at hv
                  generalize hw2 : W get f w.2.2 (n + w.2.1.length) (S.length + 1) false [] = v at hv
                  by_cases hv0 : v.1 = 0
                  · rw [show decide (v.1 = 0) = true by simpa using hv0]
                    simp only [cond_true]
                    obtain ⟨p1, p2⟩ := hv.2 hv0
                    refine hr.trans hw0 (hv.trans hv0 ?_)
                    by_cases hk1 : 0 < k
                    · rw [popF _ _ _ (by omega)]
                      exact ihk v.2.2 (n + w.2.1.length + v.2.1.length) (m - w.2.1.length - v.2.1.length) ky hk1 (by omega) (by omega) (by omega) (by omega)
                    · have : k = 0 := by omega
                      subst this
                      rw [show (2 * ((0 : Nat) : Int)) = 0 from rfl, popZ]
                      exact Goes.nil (by omega)
                  · rw [show decide (v.1 = 0) = false by simpa using hv0]
                    exact hr.fail2 hw0 hv hv0
                · rw [show decide (w.1 = 0) = false by simpa using hw0]
                  exact hr.fail hw0 rfl
            exact loop _ t (n + 1) m [] hk0 hk (by omega) (by omega) (by omega)
          · have hp : psh x D = D := by
              unfold psh
              simp only [h5, h6, decide_false, cond_false]
              cases decide (0 < x.number.toNat) <;> rfl
            rw [hp]
            simp only [h5, h6, decide_false, cond_false]
            exact Goes.nil (by omega)
      · have hk1 : x.number.toNat = 0 := by omega
        have hp : psh x D = D := by
          unfold psh
          simp [hk1]
        rw [hp, hk1]
        have : (bif decide (x.kind = 5) then LA (fun s n => W get f s n (S.length + 1) false []) 0 t (n + 1) else bif decide (x.kind = 6) then LM (fun s n last => W get f s n (S.length + 1) true last) (fun s n => W get f s n (S.length + 1) false []) 0 t (n + 1) [] else ((0 : Int), ([] : List ApiItem), t)) = (0, [], t) := by
          cases decide (x.kind = 5) <;> cases decide (x.kind = 6) <;> rfl
        rw [this]
        exact Goes.nil (by omega)
    · rw [show decide (e = 0) = false by simpa using he]
      simp only [cond_false]
      refine ⟨fun _ => ?_, fun h => absurd h he⟩
      rw [mach_err hSe hg he]
theorem W_mach {σ : Type} {get : Nat → Nat → Bool → List UInt8 → σ → Int × ApiItem × σ} (G : GetOk get) (f : Nat) (hf : 10 ≤ f) (s : σ) : ((W get f s 0 0 false []).1 ≠ 0 → (mach get 600 [] 0 s).1 = (W get f s 0 0 false []).1) ∧ ((W get f s 0 0 false []).1 = 0 → mach get 600 [] 0 s = W get f s 0 0 false []) := by
  have h := W_goes G f [] 0 600 s ⟨by simp, trivial, by simp⟩ (fun _ => rfl) (by simpa using hf) (by omega) (by omega)
  refine ⟨fun hw => h.1 hw, fun hw => ?_⟩
  obtain ⟨h1, h2⟩ := h.2 hw
  obtain ⟨x, r, hx⟩ := W_ne hw
  have : mach get 600 [] 0 s = _ := h2
  rw [this]
  have e : pop (dcr (mrk ((W get f s 0 ([] : List CborFrame).length (atK []) (lst [])).2.1.headD default) [])) = [] := rfl
  rw [e]
  have hl : 0 < (W get f s 0 0 false []).2.1.length := by rw [hx]; simp
  have hl2 : 0 + (W get f s 0 0 false []).2.1.length ≤ 512 := h1
  show (_, _, _) = _
  have hd := mach_done (get := get) (f := 600 - (W get f s 0 0 false []).2.1.length - 1) (n := 0 + (W get f s 0 0 false []).2.1.length) (s := (W get f s 0 0 false []).2.2) (by omega)
  rw [show 600 - (W get f s 0 0 false []).2.1.length - 1 + 1 = 600 - (W get f s 0 0 false []).2.1.length by omega] at hd
  have e2 : (W get f s 0 ([] : List CborFrame).length (atK []) (lst [])) = W get f s 0 0 false [] := rfl
  rw [e2, hd]
  simp only [List.append_nil]
  rw [← hw]
end Go.Proofs.YtjedfmknnkimmaaDoor

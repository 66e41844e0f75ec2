/- cbor: the trees of passkeybase are valid data items; spoil; Skip. No condition. -/
import Derived.Test.YtjedfmknnkimmaaDoorCborD
set_option linter.unusedVariables false
set_option linter.unusedSimpArgs false
set_option maxRecDepth 100000
namespace Go.Proofs.YtjedfmknnkimmaaDoor
open Go Go.Abs
theorem mask (a : Int) (m : Nat) (hm : m < 10000000) : ∃ k : Nat, k ≤ m ∧ IntKind.wrap .i64 ((BitVec.ofInt (IntKind.bits .i64) a &&& BitVec.ofInt (IntKind.bits .i64) (m : Int)).toNat : Int) = (k : Int) := by
  have e : (BitVec.ofInt 64 (m : Int)).toNat = m := by rw [BitVec.ofInt_natCast, BitVec.toNat_ofNat, Nat.mod_eq_of_lt (by omega)]
  have h : (BitVec.ofInt 64 a &&& BitVec.ofInt 64 (m : Int)).toNat ≤ m := by
    rw [BitVec.toNat_and, e]; exact Nat.and_le_right
  refine ⟨_, h, ?_⟩
  show IntKind.wrap .i64 ((BitVec.ofInt 64 a &&& BitVec.ofInt 64 (m : Int)).toNat : Int) = _
  exact wrap_id (by omega) (by omega)
def VT (h : Nat) (o : List ApiItem) : Prop := ∀ (g n dd : Nat) (r : List ApiItem) (b : List UInt8), h ≤ g → n + o.length ≤ 512 → dd + h ≤ 9 → W getL g (o ++ r) n dd false b = (0, o, r)
theorem VT_leaf {x : ApiItem} (h5 : x.kind ≠ 5) (h6 : x.kind ≠ 6) (hc : ∀ n d b, n < 512 → d ≤ 8 → chk x n d false b = 0) : VT 1 [x] := by
  intro g n dd r b hg hn hd
  obtain ⟨g, rfl⟩ : ∃ q, g = q + 1 := ⟨g - 1, by omega⟩
  unfold W
  have := hc n dd b (by simp at hn; omega) (by omega)
  simp [getL, this, h5, h6]
theorem VT_mono {h h' : Nat} {o : List ApiItem} (hh : h ≤ h') (H : VT h o) : VT h' o := fun g n dd r b h1 h2 h3 => H g n dd r b (by omega) h2 (by omega)
theorem LA_ok {h g dd : Nat} (hg : h ≤ g) (hd : dd + 1 + h ≤ 9) : ∀ (os : List (List ApiItem)) (r : List ApiItem) (n : Nat), (∀ o ∈ os, VT h o) → n + os.flatten.length ≤ 512 → LA (fun s n => W getL g s n (dd + 1) false []) os.length (os.flatten ++ r) n = (0, os.flatten, r)
  | [], r, n, _, _ => rfl
  | o :: os, r, n, H, hn => by
    simp only [List.flatten_cons, List.length_append] at hn
    have h1 := H o (by simp) g n (dd + 1) (os.flatten ++ r) [] hg (by omega) (by omega)
    have h2 := LA_ok hg hd os r (n + o.length) (fun p hp => H p (by simp [hp])) (by omega)
    simp only [List.length_cons, LA, List.flatten_cons, List.append_assoc]
    rw [h1]
    simp only [decide_true, cond_true]
    rw [h2]
theorem VT_array {h k : Nat} {os : List (List ApiItem)} (hk : os.length = k) (hk3 : k ≤ 512) (H : ∀ o ∈ os, VT h o) : VT (h + 1) (⟨5, BitVec.ofNat 64 k, []⟩ :: os.flatten) := by
  intro g n dd r b hg hn hd
  obtain ⟨g, rfl⟩ : ∃ q, g = q + 1 := ⟨g - 1, by omega⟩
  simp only [List.length_cons] at hn
  have hkn : (BitVec.ofNat 64 k).toNat = k := by rw [BitVec.toNat_ofNat, Nat.mod_eq_of_lt (by omega)]
  have hc : chk ⟨5, BitVec.ofNat 64 k, []⟩ n dd false b = 0 := by
    unfold chk adm bad big acc
    dsimp only
    rw [hkn, show decide (512 ≤ n) = false by simp; omega, show decide (8 < dd) = false by simp; omega, show decide (512 < k) = false by simp; omega]
    rfl
  have := LA_ok (g := g) (dd := dd) (by omega) (by omega) os r (n + 1) H (by omega)
  rw [hk] at this
  unfold W
  simp only [List.cons_append, getL, hc, decide_true, cond_true, hkn, this]
def keysOk : List UInt8 → List ApiItem → Prop
  | _, [] => True
  | last, x :: r => isN x.kind = false ∧ (∀ n d, n < 512 → d ≤ 8 → chk x n d true last = 0) ∧ keysOk (enc x) r
theorem LM_ok {h g dd : Nat} (hg : h ≤ g) (hg1 : 1 ≤ g) (hd : dd + 1 + h ≤ 9) (hd8 : dd + 1 ≤ 8) : ∀ (ks : List ApiItem) (os : List (List ApiItem)) (r : List ApiItem) (n : Nat) (last : List UInt8), ks.length = os.length → keysOk last ks → (∀ o ∈ os, VT h o) → n + ((ks.zip os).flatMap fun p => p.1 :: p.2).length ≤ 512 → LM (fun s n last => W getL g s n (dd + 1) true last) (fun s n => W getL g s n (dd + 1) false []) ks.length (((ks.zip os).flatMap fun p => p.1 :: p.2) ++ r) n last = (0, (ks.zip os).flatMap fun p => p.1 :: p.2, r)
  | [], os, r, n, last, _, _, _, _ => rfl
  | x :: ks, [], r, n, last, hl, _, _, _ => by cases hl
  | x :: ks, o :: os, r, n, last, hl, hk, H, hn => by
    obtain ⟨k1, k2, k3⟩ := hk
    simp only [List.zip_cons_cons, List.flatMap_cons, List.length_append, List.length_cons] at hn
    obtain ⟨g, rfl⟩ : ∃ q, g = q + 1 := ⟨g - 1, by omega⟩
    have hkey : ∀ s, W getL (g + 1) (x :: s) n (dd + 1) true last = (0, [x], s) := by
      intro s
      unfold W
      simp only [isN, Bool.or_eq_false_iff, decide_eq_false_iff_not] at k1
      simp [getL, k2 n (dd + 1) (by omega) hd8, k1.1, k1.2]
    have h1 := H o (by simp) (g + 1) (n + 1) (dd + 1) (((ks.zip os).flatMap fun p => p.1 :: p.2) ++ r) [] hg (by omega) (by omega)
    have h2 := LM_ok hg hg1 hd hd8 ks os r (n + 1 + o.length) (enc x) (by simpa using hl) k3 (fun p hp => H p (by simp [hp])) (by omega)
    simp only [List.length_cons, List.zip_cons_cons, List.flatMap_cons, List.cons_append, List.append_assoc]
    unfold LM
    dsimp only
    rw [hkey]
    simp only [decide_true, cond_true, List.length_cons, List.length_nil, List.headD_cons, Nat.zero_add]
    rw [h1]
    simp only [decide_true, cond_true]
    rw [h2]
    rfl
theorem VT_map {h k : Nat} {ks : List ApiItem} {os : List (List ApiItem)} (hk : ks.length = k) (hl : ks.length = os.length) (hk3 : k ≤ 512) (h1 : 1 ≤ h) (hK : keysOk [] ks) (H : ∀ o ∈ os, VT h o) : VT (h + 1) (⟨6, BitVec.ofNat 64 k, []⟩ :: (ks.zip os).flatMap fun p => p.1 :: p.2) := by
  intro g n dd r b hg hn hd
  obtain ⟨g, rfl⟩ : ∃ q, g = q + 1 := ⟨g - 1, by omega⟩
  simp only [List.length_cons] at hn
  have hkn : (BitVec.ofNat 64 k).toNat = k := by rw [BitVec.toNat_ofNat, Nat.mod_eq_of_lt (by omega)]
  have hc : chk ⟨6, BitVec.ofNat 64 k, []⟩ n dd false b = 0 := by
    unfold chk adm bad big acc
    dsimp only
    rw [hkn, show decide (512 ≤ n) = false by simp; omega, show decide (8 < dd) = false by simp; omega, show decide (512 < k) = false by simp; omega]
    rfl
  have := LM_ok (g := g) (dd := dd) (by omega) (by omega) (by omega) (by omega) ks os r (n + 1) [] hl hK H (by omega)
  rw [hk] at this
  unfold W
  simp only [List.cons_append, getL, hc, decide_true, decide_false, cond_true, cond_false, hkn, this, Int.reduceEq]
def words : List (List UInt8) := [([] : List UInt8), ([97] : List UInt8), ([98] : List UInt8), ([108, 111, 103, 105, 110] : List UInt8), ([107, 101, 121] : List UInt8), ([101, 120, 97, 109, 112, 108, 101, 46, 111, 114, 103] : List UInt8), ([195, 169] : List UInt8), ([48, 49, 50, 51, 52, 53, 54, 55, 56, 57, 48, 49, 50, 51, 52, 53] : List UInt8)]
theorem words_len : ∀ a : Fin 8, (words[a.val]'(by have := a.isLt; simp only [words, List.length_cons, List.length_nil]; omega)).length ≤ 16 := by decide
theorem Text_ok (n : Int) : ∃ a b : Fin 8, passkeybase_Text n = some ((), words.getD a.val [] ++ words.getD b.val [], ()) := by
  obtain ⟨a, ha, ea⟩ := mask n 7 (by omega)
  obtain ⟨b, hb, eb⟩ := mask (Int.fdiv n (2 ^ (min 3 (IntKind.bits .i64)))) 7 (by omega)
  refine ⟨⟨a, by omega⟩, ⟨b, by omega⟩, ?_⟩
  unfold passkeybase_Text
  dsimp only
  rw [show ((7 : Nat) : Int) = 7 from rfl] at ea eb
  rw [ea, eb]
  rw [show (decide ((0 : Int) ≤ (a : Int)) && decide ((a : Int) < 8)) = true by simp; omega, show (decide ((0 : Int) ≤ (b : Int)) && decide ((b : Int) < 8)) = true by simp; omega, Int.toNat_natCast, Int.toNat_natCast]
  have w8 : ∀ c : Nat, c ≤ 7 → ∃ w, words[c]? = some w ∧ w.length ≤ 16 := by
    intro c hc
    have : c < words.length := by simp [words]; omega
    exact ⟨words[c], by simp [this], words_len ⟨c, by omega⟩⟩
  obtain ⟨wa, qa, la⟩ := w8 a ha
  obtain ⟨wb, qb, lb⟩ := w8 b hb
  have qa' : ([([] : List UInt8), ([97] : List UInt8), ([98] : List UInt8), ([108, 111, 103, 105, 110] : List UInt8), ([107, 101, 121] : List UInt8), ([101, 120, 97, 109, 112, 108, 101, 46, 111, 114, 103] : List UInt8), ([195, 169] : List UInt8), ([48, 49, 50, 51, 52, 53, 54, 55, 56, 57, 48, 49, 50, 51, 52, 53] : List UInt8)] : List (List UInt8))[a]? = some wa := qa
  have qb' : ([([] : List UInt8), ([97] : List UInt8), ([98] : List UInt8), ([108, 111, 103, 105, 110] : List UInt8), ([107, 101, 121] : List UInt8), ([101, 120, 97, 109, 112, 108, 101, 46, 111, 114, 103] : List UInt8), ([195, 169] : List UInt8), ([48, 49, 50, 51, 52, 53, 54, 55, 56, 57, 48, 49, 50, 51, 52, 53] : List UInt8)] : List (List UInt8))[b]? = some wb := qb
  rw [qa', qb']
  simp only [cond_true, bindS]
  rw [ble_of (by omega), List.getD_eq_getElem?_getD, List.getD_eq_getElem?_getD, qa, qb]
  rfl
theorem text_valid : ∀ a b : Fin 8, Lib.validD (words.getD a.val [] ++ words.getD b.val []) = true ∧ (words.getD a.val [] ++ words.getD b.val []).length ≤ 32 := by decide +kernel
theorem key_valid : ∀ a b : Fin 8, Lib.validD ([108, 111, 110, 103, 107, 101, 121] ++ (words.getD a.val [] ++ words.getD b.val [])) = true := by decide +kernel
theorem At_ok (l : List Int) (i : Int) (h0 : 0 ≤ i) (hi : i < 1000000) : ∃ k : Nat, k < 1000000 ∧ passkeybase_At l i = some ((), (k : Int), ()) := by
  unfold passkeybase_At
  by_cases h : l.length = 0
  · obtain ⟨a, ha, ea⟩ := mask i 65535 (by omega)
    rw [show decide ((l.length : Int) = 0) = true by simp [h]]
    refine ⟨a, by omega, ?_⟩
    rw [show ((65535 : Nat) : Int) = 65535 from rfl] at ea
    simp only [cond_true]
    rw [ea]
  · rw [show decide ((l.length : Int) = 0) = false from decide_eq_false (by omega)]
    simp only [cond_false]
    obtain ⟨i, rfl⟩ : ∃ j : Nat, i = (j : Int) := ⟨i.toNat, by omega⟩
    have hm : i % l.length < l.length := Nat.mod_lt _ (by omega)
    have eg : getI l (Int.tmod (i : Int) (l.length : Int)) = some (l[i % l.length]'hm) := by
      rw [show Int.tmod (i : Int) (l.length : Int) = ((i % l.length : Nat) : Int) from rfl]
      unfold getI
      rw [show decide ((0 : Int) ≤ ((i % l.length : Nat) : Int)) = true from decide_eq_true (Int.natCast_nonneg _), Int.toNat_natCast]
      exact List.getElem?_eq_getElem hm
    rw [eg]
    simp only [bindS]
    obtain ⟨a, ha, ea⟩ := mask (l[i % l.length]'hm) 65535 (by omega)
    obtain ⟨b, hb, eb⟩ := mask (IntKind.wrap .i64 (Int.tdiv (i : Int) (l.length : Int))) 65535 (by omega)
    rw [show ((65535 : Nat) : Int) = 65535 from rfl] at ea eb
    rw [ea, eb, wrap_id (n := (a : Int) + (b : Int)) (by omega) (by omega)]
    exact ⟨a + b, by omega, rfl⟩
theorem chk_leaf {x : ApiItem} {n d : Nat} {b : List UInt8} (h1 : 1 ≤ x.kind) (h2 : x.kind ≤ 8) (h3 : bad x = false) (h4 : big x = false) (h5 : x.kind = 4 → Lib.validD x.data = true) (hn : n < 512) (hd : d ≤ 8) : chk x n d false b = 0 := by
  unfold chk adm acc
  rw [h3, h4, show decide (512 ≤ n) = false by simp; omega, show decide (8 < d) = false by simp; omega, show (decide (1 ≤ x.kind) && decide (x.kind ≤ 8)) = true by simp [h1, h2]]
  by_cases hk : x.kind = 4
  · rw [h5 hk]; simp
  · simp [hk]
def szB : Nat → Nat
  | 0 => 0
  | 1 => 1
  | h + 1 => 4 + 3 * szB h
def TrO (h at0 : Nat) (r : Unit × (List ApiItem × Int × Unit)) : Prop := ∃ at' : Nat, r.2.2.1 = (at' : Int) ∧ at' ≤ at0 + szB h ∧ r.2.1.length ≤ szB h ∧ VT h r.2.1 ∧ ∀ x ∈ r.2.1, x.data.length ≤ 40
theorem szB_pos : ∀ h, 1 ≤ h → 1 ≤ szB h
  | 1, _ => Nat.le_refl _
  | h + 2, _ => by show 1 ≤ 4 + 3 * szB (h + 1); omega
theorem szB_mono (h : Nat) (h1 : 1 ≤ h) : szB (h + 1) = 4 + 3 * szB h := by
  cases h with
  | zero => omega
  | succ h => rfl
theorem TrO_leaf {h at0 : Nat} (hh : 1 ≤ h) {x : ApiItem} {a : Int} (ha : a = ((at0 + 1 : Nat) : Int)) (h1 : 1 ≤ x.kind) (h2 : x.kind ≤ 8) (h3 : bad x = false) (h4 : big x = false) (h5 : x.kind = 4 → Lib.validD x.data = true) (k5 : x.kind ≠ 5) (k6 : x.kind ≠ 6) (hd : x.data.length ≤ 40) : TrO h at0 ((), [x], a, ()) := by
  have := szB_pos h hh
  refine ⟨at0 + 1, ha, by omega, by simpa using this, VT_mono hh (VT_leaf k5 k6 fun n d b hn hd => chk_leaf h1 h2 h3 h4 h5 hn hd), ?_⟩
  intro y hy
  simp only [List.mem_singleton] at hy
  subst hy; exact hd
theorem flat_len {B : Nat} : ∀ {os : List (List ApiItem)}, (∀ o ∈ os, o.length ≤ B) → os.flatten.length ≤ os.length * B
  | [], _ => by simp
  | o :: os, h => by
    have h1 := h o (by simp)
    have h2 := flat_len (B := B) (os := os) fun p hp => h p (by simp [hp])
    simp only [List.flatten_cons, List.length_append, List.length_cons, Nat.add_mul, Nat.one_mul]
    omega
theorem tree_arr {l : List Int} {f h d at0 : Nat} (k : Int) (k3 : Nat) (hk3 : k3 ≤ 3) (hd : d ≤ 10) (hh : 1 ≤ h) (hB : szB h ≤ 100) (hat : at0 ≤ 1000 * (d + 1)) (ek : IntKind.wrap .i64 ((BitVec.ofInt (IntKind.bits .i64) k &&& BitVec.ofInt (IntKind.bits .i64) (3 : Int)).toNat : Int) = (k3 : Int))
    (ih : ∀ at1 : Nat, at1 ≤ 1000 * (d + 2) → Ok (passkeybase_tree_n f l (at1 : Int) ((d + 1 : Nat) : Int)) (TrO h at1)) :
    Ok (passkeybase_tree_L1 (passkeybase_tree_n f) (l, ((at0 + 1 : Nat) : Int), (d : Int), k, [⟨5, BitVec.ofNat 64 k3, []⟩], 0, ())) fun z => TrO (h + 1) at0 ((), z.2.1, z.1, ()) := by
  unfold passkeybase_tree_L1
  refine Ok.iter (fun q => q.1 = l ∧ q.2.2.1 = (d : Int) ∧ q.2.2.2.1 = k ∧ ∃ (os : List (List ApiItem)) (at1 : Nat), os.length ≤ k3 ∧ q.2.2.2.2.2.1 = (os.length : Int) ∧ q.2.1 = (at1 : Int) ∧ at1 ≤ at0 + 1 + os.length * szB h ∧ q.2.2.2.2.1 = ⟨5, BitVec.ofNat 64 k3, []⟩ :: os.flatten ∧ (∀ o ∈ os, VT h o) ∧ (∀ o ∈ os, o.length ≤ szB h) ∧ ∀ o ∈ os, ∀ x ∈ o, x.data.length ≤ 40) (fun q => (4 - q.2.2.2.2.2.1).toNat) ⟨rfl, rfl, rfl, [], at0 + 1, by simp, rfl, rfl, by simp, rfl, by simp, by simp, by simp⟩ (by rw [rounds_eq]; dsimp only; omega) ?_
  rintro ⟨y0, y1, y2, y3, y4, y5, u⟩ ⟨e1, e2, e3, os, at1, o1, o2, o3, o4, o5, o6, o7, o8⟩
  dsimp only at *
  subst e1; subst e2; subst e3; subst o2; subst o3; subst o5
  have hfl := flat_len o7
  have hb : os.length * szB h ≤ 3 * szB h := Nat.mul_le_mul_right _ (by omega)
  simp only [passkeybase_tree_L1b]
  rw [ek]
  refine Ok.cond (fun hc => ?_) (fun hc => ?_)
  · simp only [decide_eq_true_eq] at hc
    rw [wrap_id (n := (d : Int) + 1) (by omega) (by omega), show (d : Int) + 1 = ((d + 1 : Nat) : Int) from rfl]
    refine Ok.bind (Ok.mono (ih at1 (by omega)) ?_)
    rintro ⟨_, o, a, _⟩ ⟨at2, t1, t2, t3, t4, t5⟩
    dsimp only at *
    subst t1
    rw [small32 (by simp only [List.length_cons]; omega), wrap_id (n := (os.length : Int) + 1) (by omega) (by omega)]
    refine Ok.some ?_
    dsimp only
    refine ⟨⟨rfl, rfl, rfl, os ++ [o], at2, by simp; omega, by simp, rfl, ?_, by simp, ?_, ?_, ?_⟩, by omega⟩
    · rw [List.length_append, Nat.add_mul]; simp; omega
    · intro p hp
      rcases List.mem_append.1 hp with hp | hp
      · exact o6 p hp
      · simp at hp; subst hp; exact t4
    · intro p hp
      rcases List.mem_append.1 hp with hp | hp
      · exact o7 p hp
      · simp at hp; subst hp; exact t3
    · intro p hp
      rcases List.mem_append.1 hp with hp | hp
      · exact o8 p hp
      · simp at hp; subst hp; exact t5
  · simp only [decide_eq_false_iff_not] at hc
    refine Ok.some ?_
    dsimp only
    refine ⟨at1, rfl, by rw [szB_mono h hh]; omega, by rw [szB_mono h hh]; simp only [List.length_cons]; omega, VT_array (by omega) (by omega) o6, ?_⟩
    intro x hx
    rcases List.mem_cons.1 hx with rfl | hx
    · simp
    · obtain ⟨o, ho, hxo⟩ := List.mem_flatten.1 hx
      exact o8 o ho x hxo
def mkey (T : List UInt8) (fl : Bool) (c i : Nat) : ApiItem := bif decide (i = 2) && fl then ⟨4, 0#64, [108, 111, 110, 103, 107, 101, 121] ++ T⟩ else ⟨1, BitVec.ofNat 64 (c + 20 * i), []⟩
def txt (a b : Fin 8) : List UInt8 := words.getD a.val [] ++ words.getD b.val []
theorem mkey_order : ∀ (c : Fin 32) (a b : Fin 8) (fl : Bool), lss (enc (mkey (txt a b) fl c.val 0)) (enc (mkey (txt a b) fl c.val 1)) = true ∧ lss (enc (mkey (txt a b) fl c.val 1)) (enc (mkey (txt a b) fl c.val 2)) = true := by decide +kernel
theorem chk_key {x : ApiItem} {n d : Nat} {last : List UInt8} (h1 : x.kind = 1 ∨ x.kind = 4) (h3 : bad x = false) (h4 : big x = false) (h5 : x.kind = 4 → Lib.validD x.data = true) (h6 : last = [] ∨ lss last (enc x) = true) (hn : n < 512) (hd : d ≤ 8) : chk x n d true last = 0 := by
  have e6 : (true && (!last.isEmpty && !lss last (enc x))) = false := by
    rcases h6 with rfl | h
    · rfl
    · rw [h]; cases last.isEmpty <;> rfl
  unfold chk adm acc
  rw [h3, h4, show decide (512 ≤ n) = false from decide_eq_false (by omega), show decide (8 < d) = false from decide_eq_false (by omega), e6]
  rcases h1 with hk | hk
  · rw [hk]; rfl
  · rw [h5 hk, hk]; rfl
theorem mkey_chk (c : Nat) (a b : Fin 8) (fl : Bool) (i : Nat) {n d : Nat} {last : List UInt8} (h6 : last = [] ∨ lss last (enc (mkey (txt a b) fl c i)) = true) (hn : n < 512) (hd : d ≤ 8) : isN (mkey (txt a b) fl c i).kind = false ∧ chk (mkey (txt a b) fl c i) n d true last = 0 ∧ (mkey (txt a b) fl c i).data.length ≤ 40 := by
  have ht := (text_valid a b).2
  have hv := key_valid a b
  unfold mkey at h6 ⊢
  cases hf : (decide (i = 2) && fl)
  · rw [hf] at h6
    exact ⟨rfl, chk_key (.inl rfl) rfl rfl (fun h => by cases h) h6 hn hd, by simp⟩
  · rw [hf] at h6
    refine ⟨rfl, chk_key (.inr rfl) rfl ?_ (fun _ => hv) h6 hn hd, ?_⟩
    · unfold big isN txt
      simp only [cond_true, List.length_append, List.length_cons, List.length_nil]
      rw [List.length_append] at ht
      rw [show decide (1024 < _) = false from decide_eq_false (by omega)]
      rfl
    · simp only [cond_true, List.length_append, List.length_cons, List.length_nil, txt]
      rw [List.length_append] at ht
      omega
theorem mkeys_ok {c : Nat} (hc : c ≤ 31) (a b : Fin 8) (fl : Bool) : ∀ m, m ≤ 3 → keysOk [] ((List.range m).map (mkey (txt a b) fl c)) := by
  obtain ⟨o1, o2⟩ := mkey_order ⟨c, by omega⟩ a b fl
  dsimp only at o1 o2
  have k0 := fun n d hn hd => mkey_chk c a b fl 0 (n := n) (d := d) (last := []) (.inl rfl) hn hd
  have k1 := fun n d hn hd => mkey_chk c a b fl 1 (n := n) (d := d) (last := enc (mkey (txt a b) fl c 0)) (.inr o1) hn hd
  have k2 := fun n d hn hd => mkey_chk c a b fl 2 (n := n) (d := d) (last := enc (mkey (txt a b) fl c 1)) (.inr o2) hn hd
  have q0 := (k0 0 0 (by omega) (by omega)).1
  have q1 := (k1 0 0 (by omega) (by omega)).1
  have q2 := (k2 0 0 (by omega) (by omega)).1
  intro m hm
  have hm4 : m = 0 ∨ m = 1 ∨ m = 2 ∨ m = 3 := by omega
  rcases hm4 with rfl | rfl | rfl | rfl
  · trivial
  · exact ⟨q0, fun n d hn hd => (k0 n d hn hd).2.1, trivial⟩
  · exact ⟨q0, fun n d hn hd => (k0 n d hn hd).2.1, q1, fun n d hn hd => (k1 n d hn hd).2.1, trivial⟩
  · exact ⟨q0, fun n d hn hd => (k0 n d hn hd).2.1, q1, fun n d hn hd => (k1 n d hn hd).2.1, q2, fun n d hn hd => (k2 n d hn hd).2.1, trivial⟩
theorem zipf_snoc (ks : List ApiItem) (os : List (List ApiItem)) (x : ApiItem) (o : List ApiItem) (h : ks.length = os.length) : (((ks ++ [x]).zip (os ++ [o])).flatMap fun p => p.1 :: p.2) = ((ks.zip os).flatMap fun p => p.1 :: p.2) ++ (x :: o) := by
  rw [List.zip_append h, List.flatMap_append]
  simp
theorem zipf_len {B : Nat} : ∀ (ks : List ApiItem) {os : List (List ApiItem)}, ks.length = os.length → (∀ o ∈ os, o.length ≤ B) → ((ks.zip os).flatMap fun p => p.1 :: p.2).length ≤ os.length * (B + 1)
  | [], os, h, _ => by simp
  | x :: ks, [], h, _ => by cases h
  | x :: ks, o :: os, h, H => by
    have h1 := H o (by simp)
    have h2 := zipf_len (B := B) ks (os := os) (by simpa using h) fun p hp => H p (by simp [hp])
    simp only [List.zip_cons_cons, List.flatMap_cons, List.length_append, List.length_cons, Nat.add_mul, Nat.one_mul]
    omega
theorem zipf_mem {ks : List ApiItem} {os : List (List ApiItem)} {x : ApiItem} (h : x ∈ (ks.zip os).flatMap fun p => p.1 :: p.2) : x ∈ ks ∨ ∃ o ∈ os, x ∈ o := by
  obtain ⟨p, hp, hx⟩ := List.mem_flatMap.1 h
  have h1 := (List.of_mem_zip hp)
  rcases List.mem_cons.1 hx with rfl | hx
  · exact .inl h1.1
  · exact .inr ⟨_, h1.2, hx⟩
theorem tree_map {l : List Int} {f h d at0 : Nat} (k : Int) (k3 : Nat) (hk3 : k3 ≤ 3) (hd : d ≤ 10) (hh : 1 ≤ h) (hB : szB h ≤ 100) (hat : at0 ≤ 1000 * (d + 1)) (ek : IntKind.wrap .i64 ((BitVec.ofInt (IntKind.bits .i64) k &&& BitVec.ofInt (IntKind.bits .i64) (3 : Int)).toNat : Int) = (k3 : Int))
    (ih : ∀ at1 : Nat, at1 ≤ 1000 * (d + 2) → Ok (passkeybase_tree_n f l (at1 : Int) ((d + 1 : Nat) : Int)) (TrO h at1)) :
    Ok (passkeybase_tree_L3 (passkeybase_tree_n f) (l, ((at0 + 1 : Nat) : Int), (d : Int), k, [⟨6, BitVec.ofNat 64 k3, []⟩], 0, ())) fun z => TrO (h + 1) at0 ((), z.2.1, z.1, ()) := by
  obtain ⟨c, hc, ec⟩ := mask (Int.fdiv k (2 ^ (min 2 (IntKind.bits .i64)))) 31 (by omega)
  obtain ⟨w, hw, ew⟩ := mask (Int.fdiv k (2 ^ (min 7 (IntKind.bits .i64)))) 1 (by omega)
  obtain ⟨ta, tb, et⟩ := Text_ok (k3 : Int)
  rw [show ((31 : Nat) : Int) = 31 from rfl] at ec
  rw [show ((1 : Nat) : Int) = 1 from rfl] at ew
  have etl := (text_valid ta tb).2
  have eK : ∀ fl m, ∀ x ∈ (List.range m).map (mkey (txt ta tb) fl c), x.data.length ≤ 40 := by
    intro fl m x hx
    obtain ⟨i, _, rfl⟩ := List.mem_map.1 hx
    exact (mkey_chk c ta tb fl i (n := 0) (d := 0) (.inl rfl) (by omega) (by omega)).2.2
  generalize hfl : decide (w = 1) = fl
  unfold passkeybase_tree_L3
  refine Ok.iter (fun q => q.1 = l ∧ q.2.2.1 = (d : Int) ∧ q.2.2.2.1 = k ∧ ∃ (os : List (List ApiItem)) (at1 : Nat), os.length ≤ k3 ∧ q.2.2.2.2.2.1 = (os.length : Int) ∧ q.2.1 = (at1 : Int) ∧ at1 ≤ at0 + 1 + os.length * szB h ∧ q.2.2.2.2.1 = ⟨6, BitVec.ofNat 64 k3, []⟩ :: ((((List.range os.length).map (mkey (txt ta tb) fl c)).zip os).flatMap fun p => p.1 :: p.2) ∧ (∀ o ∈ os, VT h o) ∧ (∀ o ∈ os, o.length ≤ szB h) ∧ ∀ o ∈ os, ∀ x ∈ o, x.data.length ≤ 40) (fun q => (4 - q.2.2.2.2.2.1).toNat) ⟨rfl, rfl, rfl, [], at0 + 1, by simp, rfl, rfl, by simp, rfl, by simp, by simp, by simp⟩ (by rw [rounds_eq]; dsimp only; omega) ?_
  rintro ⟨y0, y1, y2, y3, y4, y5, u⟩ ⟨e1, e2, e3, os, at1, o1, o2, o3, o4, o5, o6, o7, o8⟩
  dsimp only at *
  subst e1; subst e2; subst e3; subst o2; subst o3; subst o5
  have hkl : ((List.range os.length).map (mkey (txt ta tb) fl c)).length = os.length := by simp
  have hfl2 := zipf_len _ hkl o7
  have hb : os.length * szB h ≤ 3 * szB h := Nat.mul_le_mul_right _ (by omega)
  have hb2 : os.length * (szB h + 1) ≤ 3 * (szB h + 1) := Nat.mul_le_mul_right _ (by omega)
  simp only [passkeybase_tree_L3b]
  rw [ek]
  refine Ok.cond (fun hc => ?_) (fun hc => ?_)
  · simp only [decide_eq_true_eq] at hc
    rw [ec, ew, wrap_id (n := (20 : Int) * (os.length : Int)) (by omega) (by omega), wrap_id (n := (c : Int) + 20 * (os.length : Int)) (by omega) (by omega)]
    refine Ok.bind (Ok.mono (Q := fun j => j = (y0, (at1 : Int), (d : Int), y3, (⟨6, BitVec.ofNat 64 k3, []⟩ :: ((((List.range os.length).map (mkey (txt ta tb) fl c)).zip os).flatMap fun p => p.1 :: p.2)), (os.length : Int), (mkey (txt ta tb) fl c os.length, ()), ())) ?_ ?_)
    · have en : (BitVec.ofInt 64 ((c : Int) + 20 * (os.length : Int))) = BitVec.ofNat 64 (c + 20 * os.length) := by
        rw [show ((c : Int) + 20 * (os.length : Int)) = ((c + 20 * os.length : Nat) : Int) by omega, BitVec.ofInt_natCast]
      rw [en]
      by_cases h2 : os.length = 2
      · rw [show decide ((os.length : Int) = 2) = true from decide_eq_true (by omega)]
        by_cases hw1 : w = 1
        · rw [show decide ((w : Int) = 1) = true from decide_eq_true (by omega), et]
          have hft : fl = true := by rw [← hfl]; exact decide_eq_true hw1
          simp only [cond_true, bindS]
          rw [ble_of (by rw [List.length_append] at etl ⊢; simp only [List.length_cons, List.length_nil]; omega)]
          refine Ok.some ?_
          unfold mkey
          rw [show decide (os.length = 2) = true from decide_eq_true h2, hft]
          rfl
        · rw [show decide ((w : Int) = 1) = false from decide_eq_false (by omega)]
          have hft : fl = false := by rw [← hfl]; exact decide_eq_false hw1
          simp only [cond_true, cond_false]
          refine Ok.some ?_
          unfold mkey
          rw [hft, Bool.and_false]
          rfl
      · rw [show decide ((os.length : Int) = 2) = false from decide_eq_false (by omega)]
        simp only [cond_false]
        refine Ok.some ?_
        unfold mkey
        rw [show decide (os.length = 2) = false from decide_eq_false h2]
        rfl
    · rintro _ rfl
      dsimp only
      rw [wrap_id (n := (d : Int) + 1) (by omega) (by omega), show (d : Int) + 1 = ((d + 1 : Nat) : Int) from rfl]
      refine Ok.bind (Ok.mono (ih at1 (by omega)) ?_)
      rintro ⟨_, o, a, _⟩ ⟨at2, t1, t2, t3, t4, t5⟩
      dsimp only at *
      subst t1
      rw [small32 (by simp only [List.length_cons, List.length_nil]; omega), small32 (by simp only [List.length_append, List.length_cons, List.length_nil]; omega), wrap_id (n := (os.length : Int) + 1) (by omega) (by omega)]
      refine Ok.some ?_
      dsimp only
      refine ⟨⟨rfl, rfl, rfl, os ++ [o], at2, by simp; omega, by simp, rfl, ?_, ?_, ?_, ?_, ?_⟩, by omega⟩
      · rw [List.length_append, Nat.add_mul]; simp; omega
      · rw [List.length_append, List.length_singleton, List.range_succ, List.map_append, List.map_singleton, zipf_snoc _ _ _ _ hkl]
        simp
      · intro p hp
        rcases List.mem_append.1 hp with hp | hp
        · exact o6 p hp
        · simp at hp; subst hp; exact t4
      · intro p hp
        rcases List.mem_append.1 hp with hp | hp
        · exact o7 p hp
        · simp at hp; subst hp; exact t3
      · intro p hp
        rcases List.mem_append.1 hp with hp | hp
        · exact o8 p hp
        · simp at hp; subst hp; exact t5
  · simp only [decide_eq_false_iff_not] at hc
    refine Ok.some ?_
    dsimp only
    have hm : os.length = k3 := by omega
    refine ⟨at1, rfl, by rw [szB_mono h hh]; omega, by rw [szB_mono h hh]; simp only [List.length_cons]; omega, VT_map (by rw [hkl]; exact hm) hkl (by omega) hh (mkeys_ok ‹c ≤ 31› ta tb fl _ (by omega)) o6, ?_⟩
    intro x hx
    rcases List.mem_cons.1 hx with rfl | hx
    · simp
    · rcases zipf_mem hx with hx | ⟨o, ho, hxo⟩
      · exact eK fl _ x hx
      · exact o8 o ho x hxo
theorem TrO_k {h at0 : Nat} {kk : Int} {m : BitVec 64} {dd : List UInt8} (hh : 1 ≤ h) (h1 : 1 ≤ kk) (h2 : kk ≤ 8) (h3 : bad ⟨kk, m, dd⟩ = false) (h4 : big ⟨kk, m, dd⟩ = false) (h5 : kk = 4 → Lib.validD dd = true) (k5 : kk ≠ 5) (k6 : kk ≠ 6) (hd : dd.length ≤ 40) : TrO h at0 ((), [⟨kk, m, dd⟩], ((at0 + 1 : Nat) : Int), ()) := TrO_leaf hh rfl h1 h2 h3 h4 h5 k5 k6 hd
theorem tree_ok (l : List Int) : ∀ (f d at0 : Nat), d ≤ 4 → 5 ≤ f + d → at0 ≤ 1000 * (d + 1) → Ok (passkeybase_tree_n f l (at0 : Int) (d : Int)) (TrO (5 - d) at0)
  | 0, d, at0, hd, hf, _ => by omega
  | f + 1, d, at0, hd, hf, hat => by
    have ih := tree_ok l f
    show Ok (passkeybase_tree_R (passkeybase_tree_n f) l (at0 : Int) (d : Int)) _
    unfold passkeybase_tree_R
    obtain ⟨kv, hkv, ekv⟩ := At_ok l (at0 : Int) (by omega) (by omega)
    rw [ekv]
    simp only [bindS]
    generalize Int.fdiv (kv : Int) (2 ^ (min 3 (IntKind.bits .i64))) = k
    obtain ⟨k3, hk3, ek3⟩ := mask k 3 (by omega)
    obtain ⟨k1, hk1, ek1⟩ := mask k 1 (by omega)
    rw [show ((3 : Nat) : Int) = 3 from rfl] at ek3
    rw [show ((1 : Nat) : Int) = 1 from rfl] at ek1
    have ea : IntKind.wrap .i64 ((at0 : Int) + 1) = ((at0 + 1 : Nat) : Int) := by
      rw [wrap_id (n := (at0 : Int) + 1) (by omega) (by omega)]; rfl
    rw [ea]
    have hh : 1 ≤ 5 - d := by omega
    obtain ⟨ta, tb, et⟩ := Text_ok k
    obtain ⟨tv, tl⟩ := text_valid ta tb
    rw [et]
    generalize words.getD ta.val [] ++ words.getD tb.val [] = T at tv tl
    have bigT : ∀ kk : Int, isN kk = false → big ⟨kk, 0#64, T⟩ = false := by
      intro kk hkk
      unfold big
      dsimp only
      rw [hkk, show decide (1024 < T.length) = false from decide_eq_false (by omega)]
      rfl
    refine Ok.cond (fun _ => Ok.some (TrO_k hh (by decide) (by decide) rfl rfl (fun h => by cases h) (by decide) (by decide) (by simp))) (fun _ => ?_)
    refine Ok.cond (fun _ => Ok.some (TrO_k hh (by decide) (by decide) rfl rfl (fun h => by cases h) (by decide) (by decide) (by simp))) (fun _ => ?_)
    refine Ok.cond (fun _ => Ok.some (TrO_k hh (by decide) (by decide) rfl (bigT 3 rfl) (fun h => by cases h) (by decide) (by decide) (by dsimp only; omega))) (fun _ => ?_)
    refine Ok.cond (fun _ => Ok.some (TrO_k hh (by decide) (by decide) rfl (bigT 4 rfl) (fun h => tv) (by decide) (by decide) (by dsimp only; omega))) (fun _ => ?_)
    refine Ok.cond (fun _ => Ok.some (TrO_k hh (by decide) (by decide) ?_ rfl (fun h => by cases h) (by decide) (by decide) (by simp))) (fun _ => ?_)
    · rw [ek1, BitVec.ofInt_natCast]
      have h1 : k1 = 0 ∨ k1 = 1 := by omega
      rcases h1 with rfl | rfl <;> rfl
    refine Ok.cond (fun _ => Ok.some (TrO_k hh (by decide) (by decide) rfl rfl (fun h => by cases h) (by decide) (by decide) (by simp))) (fun _ => ?_)
    refine Ok.cond (fun _ => Ok.some (TrO_k hh (by decide) (by decide) rfl rfl (fun h => by cases h) (by decide) (by decide) (by simp))) (fun h3 => ?_)
    simp only [decide_eq_false_iff_not] at h3
    refine Ok.cond (fun _ => Ok.some (TrO_k hh (by decide) (by decide) rfl rfl (fun h => by cases h) (by decide) (by decide) (by simp))) (fun _ => ?_)
    have hsz : szB (5 - (d + 1)) ≤ 100 := by
      have : d = 0 ∨ d = 1 ∨ d = 2 ∨ d = 3 := by omega
      rcases this with rfl | rfl | rfl | rfl <;> decide
    have e5 : 5 - d = 5 - (d + 1) + 1 := by omega
    have ih' : ∀ at1 : Nat, at1 ≤ 1000 * (d + 2) → Ok (passkeybase_tree_n f l (at1 : Int) ((d + 1 : Nat) : Int)) (TrO (5 - (d + 1)) at1) := fun at1 h1 => ih (d + 1) at1 (by omega) (by omega) (by omega)
    rw [ek3, BitVec.ofInt_natCast, e5]
    refine Ok.cond (fun _ => ?_) (fun _ => ?_)
    · exact Ok.bind (Ok.mono (tree_arr k k3 hk3 (by omega) (by omega) hsz hat ek3 ih') fun z hz => Ok.some hz)
    · exact Ok.bind (Ok.mono (tree_map k k3 hk3 (by omega) (by omega) hsz hat ek3 ih') fun z hz => Ok.some hz)
structure Tre (o : List ApiItem) : Prop where
  vt : W getL 12 o 0 0 false [] = (0, o, [])
  val : valO o = 0
  len : o.length ≤ 241
  data : ∀ x ∈ o, x.data.length ≤ 40
  ne : o ≠ []
theorem Tree_ok (l : List Int) : Ok (passkeybase_Tree l) fun r => Tre r.2.1 := by
  unfold passkeybase_Tree passkeybase_tree
  refine Ok.bind (Ok.mono (tree_ok l 8 0 0 (by omega) (by omega) (by omega)) ?_)
  rintro ⟨_, o, a, _⟩ ⟨at', t1, t2, t3, t4, t5⟩
  dsimp only at *
  have hs : szB (5 - 0) = 241 := by decide
  rw [hs] at t3
  have hv := t4 12 0 0 [] [] (by omega) (by omega) (by omega)
  rw [List.append_nil] at hv
  refine Ok.some ⟨hv, ?_, t3, t5, ?_⟩
  · unfold valO
    rw [(W_mach getL_ok 12 (by omega) o).2 (by rw [hv]), hv]
    rfl
  · intro he
    dsimp only at he
    obtain ⟨x, r, hx⟩ := W_ne (get := getL) (f := 12) (s := o) (n := 0) (d := 0) (key := false) (b := []) (by rw [hv])
    rw [hv] at hx
    dsimp only at hx
    rw [he] at hx
    cases hx
end Go.Proofs.YtjedfmknnkimmaaDoor

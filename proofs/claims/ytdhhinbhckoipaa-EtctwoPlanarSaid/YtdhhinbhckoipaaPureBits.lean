/- Plain lemmas on bits of blocks: fields of bits that are laid one after the other; blocks by their bits; loops that fill a list. -/
import Derived.Test.YtdhhinbhckoipaaPure02b
set_option linter.unusedSimpArgs false
set_option linter.unusedVariables false
namespace Go.AE.Gn
open Go Go.AE

/-! ### loops -/

theorem nextI {i : Nat} (h : i < 1000000000000) : IntKind.wrap .i64 ((i : Int) + 1) = ((i + 1 : Nat) : Int) := by rw [w64 (by omega) (by omega)]; omega

/-- A loop that fills a list. -/
theorem fill_loop {α : Type} (N : Nat) (f : Nat → Int) (L : Nat → List Int → Int → Option α) (res : List Int → Option α)
    (step : ∀ (k i : Nat) (w : List Int), i < N → w.length = N → L (k + 1) w i = L k (w.set i (f i)) ((i + 1 : Nat) : Int))
    (stop : ∀ (k : Nat) (w : List Int), w.length = N → L (k + 1) w N = res w) (w0 : List Int) (h0 : w0.length = N) (k : Nat) (hk : N < k) :
    L k w0 0 = res ((List.range N).map f) := by
  have key : ∀ (m i k : Nat) (w : List Int), N - i = m → i ≤ N → m < k → w.length = N → w.take i = (List.range i).map f → L k w i = res ((List.range N).map f) := by
    intro m
    induction m with
    | zero =>
      intro i k w h1 h2 h3 h4 h5
      obtain ⟨k, rfl⟩ : ∃ k', k = k' + 1 := ⟨k - 1, by omega⟩
      have : i = N := by omega
      subst this
      rw [stop k w h4, ← h5, List.take_of_length_le (by omega)]
    | succ m ih =>
      intro i k w h1 h2 h3 h4 h5
      obtain ⟨k, rfl⟩ : ∃ k', k = k' + 1 := ⟨k - 1, by omega⟩
      rw [step k i w (by omega) h4]
      refine ih (i + 1) k _ (by omega) (by omega) (by omega) (by simp [h4]) ?_
      rw [List.range_succ, List.map_append, ← h5, List.take_add_one, List.take_set_of_le (by omega)]
      congr 1
      rw [List.getElem?_set_self (by omega)]
      rfl
  have := key N 0 k w0 (by omega) (by omega) (by omega) h0 (by simp)
  simpa using this

theorem getD_range_map {N : Nat} (f : Nat → Int) {i : Nat} (h : i < N) : ((List.range N).map f).getD i 0 = f i := by
  simp [List.getD_eq_getElem?_getD, h]

theorem ipow_le {m n : Nat} (h : m ≤ n) : (2 : Int) ^ m ≤ 2 ^ n := by
  have h1 : (2 : Nat) ^ m ≤ 2 ^ n := Nat.pow_le_pow_right (by decide) h
  have e1 : ((2 ^ m : Nat) : Int) = (2 : Int) ^ m := Int.natCast_pow 2 m
  have e2 : ((2 ^ n : Nat) : Int) = (2 : Int) ^ n := Int.natCast_pow 2 n
  omega

/-! ### what bits are -/

/-- The number of so many high bits of a block. -/
def hv (b : List Int) (a n : Nat) : Int := sumHi (fun j => highBit b (a + j)) n
/-- The number of so many low bits. -/
def lv (b : List Int) (a n : Nat) : Int := sumLo (fun j => lowBit b (a + j)) n

theorem highBit_01 (b : List Int) (i : Nat) : highBit b i = 0 ∨ highBit b i = 1 := bitL_01 _ _
theorem lowBit_01 (b : List Int) (i : Nat) : lowBit b i = 0 ∨ lowBit b i = 1 := bitL_01 _ _
theorem hv_bound (b : List Int) (a n : Nat) : 0 ≤ hv b a n ∧ hv b a n < 2 ^ n := sumHi_bound fun i _ => highBit_01 _ _
theorem lv_bound (b : List Int) (a n : Nat) : 0 ≤ lv b a n ∧ lv b a n < 2 ^ n := sumLo_bound fun i _ => lowBit_01 _ _

theorem chk_ok {len : Nat} {a n : Nat} (hn : n ≤ 64) (h : a + n ≤ 8 * len) : chk len a n = 0 := by
  unfold chk
  rw [if_neg (by omega), if_pos (by omega)]

theorem highV_hv {b : List Int} {a n : Nat} (hn : n ≤ 64) (h : a + n ≤ 8 * b.length) : highV b a n = hv b a n := by
  unfold highV hv
  rw [if_pos (chk_ok hn h)]
  simp
theorem lowV_lv {b : List Int} {a n : Nat} (hn : n ≤ 64) (h : a + n ≤ 8 * b.length) : lowV b a n = lv b a n := by
  unfold lowV lv
  rw [if_pos (chk_ok hn h)]
  simp

theorem High_hv {F : Nat} (hF : 66 ≤ F) {b : List Int} (hb : Bytes b) (hl : b.length ≤ 1099511627776) {a n : Nat} (hn : n ≤ 64) (h : a + n ≤ 8 * b.length) : bits_High F b a n = some (hv b a n, (0, ())) := by
  rw [High_is hF hb hl (by omega), highV_hv hn h, chk_ok hn h]
theorem Low_lv {F : Nat} (hF : 66 ≤ F) {b : List Int} (hb : Bytes b) (hl : b.length ≤ 1099511627776) {a n : Nat} (hn : n ≤ 64) (h : a + n ≤ 8 * b.length) : bits_Low F b a n = some (lv b a n, (0, ())) := by
  rw [Low_is hF hb hl (by omega), lowV_lv hn h, chk_ok hn h]

/-- A block with so many bits set. -/
def hset (b : List Int) (a n : Nat) (v : Int) : List Int := sets (posHi a n) v b n
def lset (b : List Int) (a n : Nat) (v : Int) : List Int := sets (posLo a) v b n

theorem hset_len (b : List Int) (a n : Nat) (v : Int) : (hset b a n v).length = b.length := sets_len _ _ _ _
theorem lset_len (b : List Int) (a n : Nat) (v : Int) : (lset b a n v).length = b.length := sets_len _ _ _ _
theorem hset_bytes {b : List Int} (hb : Bytes b) (a n : Nat) (v : Int) : Bytes (hset b a n v) := sets_bytes hb (posHi8 a n) n
theorem lset_bytes {b : List Int} (hb : Bytes b) (a n : Nat) (v : Int) : Bytes (lset b a n v) := sets_bytes hb (posLo8 a) n

theorem hset_bit {b : List Int} (hb : Bytes b) {a n : Nat} (h : a + n ≤ 8 * b.length) (v : Int) (q : Nat) : highBit (hset b a n v) q = if a ≤ q ∧ q < a + n then v / 2 ^ (a + n - 1 - q) % 2 else highBit b q := by
  have := highBit_sets hb h v q n (Nat.le_refl _)
  rw [Nat.add_sub_cancel] at this
  exact this
theorem lset_bit {b : List Int} (hb : Bytes b) {a n : Nat} (h : a + n ≤ 8 * b.length) (v : Int) (q : Nat) : lowBit (lset b a n v) q = if a ≤ q ∧ q < a + n then v / 2 ^ (q - a) % 2 else lowBit b q :=
  lowBit_sets hb h v q n (Nat.le_refl _)

theorem fitsV_ok {len : Nat} {a n : Nat} {v : Int} (hn : n ≤ 64) (h : a + n ≤ 8 * len) (hv : 0 ≤ v ∧ v < 2 ^ n) : fitsV len a n v = 0 := by
  unfold fitsV
  rw [if_pos (chk_ok hn h), if_neg]
  rintro ⟨_, h2⟩
  apply h2
  simp only [Int.toNat_natCast]
  exact Int.ediv_eq_zero_of_lt hv.1 hv.2

theorem pow64 {n : Nat} (hn : n ≤ 64) : (2 : Int) ^ n ≤ 18446744073709551616 := by
  have h : (2 : Nat) ^ n ≤ 18446744073709551616 := Nat.le_trans (Nat.pow_le_pow_right (by decide) hn) (by decide)
  have e : ((2 ^ n : Nat) : Int) = (2 : Int) ^ n := Int.natCast_pow 2 n
  omega

theorem SetHigh_ok {F : Nat} (hF : 66 ≤ F) {b : List Int} (hb : Bytes b) (hl : b.length ≤ 1099511627776) {a n : Nat} {v : Int} (hn : n ≤ 64) (h : a + n ≤ 8 * b.length) (hv : 0 ≤ v ∧ v < 2 ^ n) :
    bits_SetHigh F b a n v = some (hset b a n v, (0, ())) := by
  have hp := pow64 hn
  rw [SetHigh_is hF hb hl (by omega) ⟨hv.1, by omega⟩, fitsV_ok hn h hv]
  unfold setV hset
  rw [if_pos (fitsV_ok hn h hv)]
  simp
theorem SetLow_ok {F : Nat} (hF : 66 ≤ F) {b : List Int} (hb : Bytes b) (hl : b.length ≤ 1099511627776) {a n : Nat} {v : Int} (hn : n ≤ 64) (h : a + n ≤ 8 * b.length) (hv : 0 ≤ v ∧ v < 2 ^ n) :
    bits_SetLow F b a n v = some (lset b a n v, (0, ())) := by
  have hp := pow64 hn
  rw [SetLow_is hF hb hl (by omega) ⟨hv.1, by omega⟩, fitsV_ok hn h hv]
  unfold setV lset
  rw [if_pos (fitsV_ok hn h hv)]
  simp

/-- A number is its bits. -/
theorem sumHi_digits {v : Int} {n : Nat} (hv : 0 ≤ v ∧ v < 2 ^ n) : sumHi (fun j => v / 2 ^ (n - 1 - j) % 2) n = v := by
  have := sumHi_rev (fun i => v / 2 ^ i % 2) n
  rw [this, sumLo_bits v hv.1, Int.emod_eq_of_lt hv.1 hv.2]
theorem sumLo_digits {v : Int} {n : Nat} (hv : 0 ≤ v ∧ v < 2 ^ n) : sumLo (fun j => v / 2 ^ j % 2) n = v := by
  rw [sumLo_bits v hv.1, Int.emod_eq_of_lt hv.1 hv.2]

theorem hv_of_bits {b : List Int} {a n : Nat} {v : Int} (hv' : 0 ≤ v ∧ v < 2 ^ n) (h : ∀ q, a ≤ q → q < a + n → highBit b q = v / 2 ^ (a + n - 1 - q) % 2) : hv b a n = v := by
  rw [← sumHi_digits hv']
  unfold hv
  refine sumHi_congr fun i hi => ?_
  rw [h (a + i) (by omega) (by omega), show a + n - 1 - (a + i) = n - 1 - i by omega]
theorem lv_of_bits {b : List Int} {a n : Nat} {v : Int} (hv' : 0 ≤ v ∧ v < 2 ^ n) (h : ∀ q, a ≤ q → q < a + n → lowBit b q = v / 2 ^ (q - a) % 2) : lv b a n = v := by
  rw [← sumLo_digits hv']
  unfold lv
  refine sumLo_congr fun i hi => ?_
  rw [h (a + i) (by omega) (by omega), show a + i - a = i by omega]

/-- The digits of a sum of bits. -/
theorem sumLo_digit {f : Nat → Int} : ∀ {n : Nat}, Bit f n → ∀ i, i < n → sumLo f n / 2 ^ i % 2 = f i
  | 0, _, i, hi => by omega
  | n + 1, h, 0, _ => by
    rw [sumLo_shift]
    have := h 0 (by omega)
    simp
    omega
  | n + 1, h, i + 1, hi => by
    rw [sumLo_shift]
    have h0 := h 0 (by omega)
    have ih := sumLo_digit (f := fun i => f (i + 1)) (n := n) (fun j hj => h (j + 1) (by omega)) i (by omega)
    rw [Int.pow_succ, Int.mul_comm (2 ^ i) 2, ← Int.ediv_ediv_of_nonneg (by decide)]
    have : (f 0 + 2 * sumLo (fun i => f (i + 1)) n) / 2 = sumLo (fun i => f (i + 1)) n := by omega
    rw [this]
    exact ih
theorem hv_digit (b : List Int) {a n q : Nat} (h1 : a ≤ q) (h2 : q < a + n) : hv b a n / 2 ^ (a + n - 1 - q) % 2 = highBit b q := by
  have e := sumHi_rev (fun i => highBit b (a + (n - 1 - i))) n
  have : hv b a n = sumLo (fun i => highBit b (a + (n - 1 - i))) n := by
    rw [← e]
    unfold hv
    refine sumHi_congr fun i hi => ?_
    congr 1
    omega
  rw [this, sumLo_digit (fun i _ => highBit_01 _ _) _ (by omega)]
  congr 1
  omega
theorem lv_digit (b : List Int) {a n q : Nat} (h1 : a ≤ q) (h2 : q < a + n) : lv b a n / 2 ^ (q - a) % 2 = lowBit b q := by
  unfold lv
  rw [sumLo_digit (fun i _ => lowBit_01 _ _) _ (by omega)]
  congr 1
  omega

/-! ### a byte is its bits -/

theorem byte_bits {x : Int} (h : 0 ≤ x ∧ x ≤ 255) : x = sumLo (fun j => bitL x j) 8 := by
  have := sumLo_bits x h.1 8
  unfold bitL
  rw [this]
  omega

theorem byte_ext {x y : Int} (hx : 0 ≤ x ∧ x ≤ 255) (hy : 0 ≤ y ∧ y ≤ 255) (h : ∀ j, j < 8 → bitL x j = bitL y j) : x = y := by
  rw [byte_bits hx, byte_bits hy]
  exact sumLo_congr h

theorem bytes_ext_high {b c : List Int} (hb : Bytes b) (hc : Bytes c) (hl : b.length = c.length) (h : ∀ q, q < 8 * b.length → highBit b q = highBit c q) : b = c := by
  apply List.ext_getElem hl
  intro i h1 h2
  have e1 : b[i] = b.getD i 0 := by simp [List.getD_eq_getElem?_getD, h1]
  have e2 : c[i] = c.getD i 0 := by simp [List.getD_eq_getElem?_getD, h2]
  rw [e1, e2]
  refine byte_ext (hb.getD _) (hc.getD _) fun j hj => ?_
  have := h (8 * i + (7 - j)) (by omega)
  unfold highBit at this
  rw [show (8 * i + (7 - j)) / 8 = i by omega, show 7 - (8 * i + (7 - j)) % 8 = j by omega] at this
  exact this
theorem bytes_ext_low {b c : List Int} (hb : Bytes b) (hc : Bytes c) (hl : b.length = c.length) (h : ∀ q, q < 8 * b.length → lowBit b q = lowBit c q) : b = c := by
  apply List.ext_getElem hl
  intro i h1 h2
  have e1 : b[i] = b.getD i 0 := by simp [List.getD_eq_getElem?_getD, h1]
  have e2 : c[i] = c.getD i 0 := by simp [List.getD_eq_getElem?_getD, h2]
  rw [e1, e2]
  refine byte_ext (hb.getD _) (hc.getD _) fun j hj => ?_
  have := h (8 * i + j) (by omega)
  unfold lowBit at this
  rw [show (8 * i + j) / 8 = i by omega, show (8 * i + j) % 8 = j by omega] at this
  exact this

/-! ### fields laid one after the other -/

def hlaid (A N : Nat → Nat) (V : Nat → Int) (c : List Int) : Nat → List Int
  | 0 => c
  | i + 1 => hset (hlaid A N V c i) (A i) (N i) (V i)

theorem hlaid_len (A N : Nat → Nat) (V : Nat → Int) (c : List Int) : ∀ i, (hlaid A N V c i).length = c.length
  | 0 => rfl
  | i + 1 => by rw [hlaid, hset_len, hlaid_len A N V c i]
theorem hlaid_bytes (A N : Nat → Nat) (V : Nat → Int) {c : List Int} (hc : Bytes c) : ∀ i, Bytes (hlaid A N V c i)
  | 0 => hc
  | i + 1 => hset_bytes (hlaid_bytes A N V hc i) _ _ _

/-- The bits of a field, when all is laid and fields lie apart. -/
theorem hlaid_bit {A N : Nat → Nat} {V : Nat → Int} {c : List Int} (hc : Bytes c) {m : Nat} (hr : ∀ i, i < m → A i + N i ≤ 8 * c.length) (hd : ∀ i j, i < m → j < m → i ≠ j → A i + N i ≤ A j ∨ A j + N j ≤ A i) {j : Nat} (hj : j < m) {q : Nat} (h1 : A j ≤ q) (h2 : q < A j + N j) :
    ∀ i, j < i → i ≤ m → highBit (hlaid A N V c i) q = V j / 2 ^ (A j + N j - 1 - q) % 2
  | 0, h, _ => by omega
  | i + 1, h, hi => by
    rw [hlaid, hset_bit (hlaid_bytes A N V hc i) (by rw [hlaid_len]; exact hr i (by omega))]
    by_cases e : i = j
    · subst e
      rw [if_pos ⟨h1, h2⟩]
    · have := hd i j (by omega) hj e
      rw [if_neg (by omega)]
      exact hlaid_bit hc hr hd hj h1 h2 i (by omega) (by omega)

theorem hlaid_hv {A N : Nat → Nat} {V : Nat → Int} {c : List Int} (hc : Bytes c) {m : Nat} (hr : ∀ i, i < m → A i + N i ≤ 8 * c.length) (hd : ∀ i j, i < m → j < m → i ≠ j → A i + N i ≤ A j ∨ A j + N j ≤ A i) (hV : ∀ i, i < m → 0 ≤ V i ∧ V i < 2 ^ N i) {j : Nat} (hj : j < m) :
    hv (hlaid A N V c m) (A j) (N j) = V j :=
  hv_of_bits (hV j hj) fun q h1 h2 => hlaid_bit hc hr hd hj h1 h2 m hj (Nat.le_refl _)

/-- What is laid anew from a block's own fields is the block. -/
theorem hlaid_back {A N : Nat → Nat} {V : Nat → Int} {b c : List Int} (hb : Bytes b) (hc : Bytes c) (hl : c.length = b.length) {m : Nat} (hr : ∀ i, i < m → A i + N i ≤ 8 * c.length) (hd : ∀ i j, i < m → j < m → i ≠ j → A i + N i ≤ A j ∨ A j + N j ≤ A i)
    (hV : ∀ i, i < m → V i = hv b (A i) (N i)) (cov : ∀ q, q < 8 * c.length → ∃ i, i < m ∧ A i ≤ q ∧ q < A i + N i) : hlaid A N V c m = b := by
  refine bytes_ext_high (hlaid_bytes A N V hc m) hb (by rw [hlaid_len, hl]) fun q hq => ?_
  rw [hlaid_len] at hq
  obtain ⟨i, h1, h2, h3⟩ := cov q hq
  rw [hlaid_bit hc hr hd h1 h2 h3 m h1 (Nat.le_refl _), hV i h1, hv_digit b h2 h3]

end Go.AE.Gn

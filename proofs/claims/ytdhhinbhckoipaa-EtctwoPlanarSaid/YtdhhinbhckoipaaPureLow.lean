/- Plain lemmas: low fields of bits, laid one after the other; numbers that are put together of fields; masks. -/
import Derived.Test.YtdhhinbhckoipaaPureBits
set_option linter.unusedSimpArgs false
set_option linter.unusedVariables false
namespace Go.AE.Gn
open Go Go.AE

/-- A loop that fills a list, and reads it ahead. -/
theorem fill_loop' {α : Type} (N : Nat) (f : Nat → Int) (w0 : List Int) (L : Nat → List Int → Int → Option α) (res : List Int → Option α)
    (step : ∀ (k i : Nat) (w : List Int), i < N → w.length = N → (∀ j, i ≤ j → w.getD j 0 = w0.getD j 0) → L (k + 1) w i = L k (w.set i (f i)) ((i + 1 : Nat) : Int))
    (stop : ∀ (k : Nat) (w : List Int), w.length = N → L (k + 1) w N = res w) (h0 : w0.length = N) (k : Nat) (hk : N < k) :
    L k w0 0 = res ((List.range N).map f) := by
  have key : ∀ (m i k : Nat) (w : List Int), N - i = m → i ≤ N → m < k → w.length = N → w.take i = (List.range i).map f → (∀ j, i ≤ j → w.getD j 0 = w0.getD j 0) → L k w i = res ((List.range N).map f) := by
    intro m
    induction m with
    | zero =>
      intro i k w h1 h2 h3 h4 h5 _
      obtain ⟨k, rfl⟩ : ∃ k', k = k' + 1 := ⟨k - 1, by omega⟩
      have : i = N := by omega
      subst this
      rw [stop k w h4, ← h5, List.take_of_length_le (by omega)]
    | succ m ih =>
      intro i k w h1 h2 h3 h4 h5 h6
      obtain ⟨k, rfl⟩ : ∃ k', k = k' + 1 := ⟨k - 1, by omega⟩
      rw [step k i w (by omega) h4 h6]
      refine ih (i + 1) k _ (by omega) (by omega) (by omega) (by simp [h4]) ?_ fun j hj => ?_
      · rw [List.range_succ, List.map_append, ← h5, List.take_add_one, List.take_set_of_le (by omega)]
        congr 1
        rw [List.getElem?_set_self (by omega)]
        rfl
      · rw [getD_set _ _ _ _ (by omega), if_neg (by omega)]
        exact h6 j (by omega)
  have := key N 0 k w0 (by omega) (by omega) (by omega) h0 (by simp) (fun _ _ => rfl)
  simpa using this

/-- A loop that fills a list by parts of m. -/
theorem fill_parts {α : Type} (N m : Nat) (f : Nat → List Int) (hf : ∀ i, i < N → (f i).length = m) (L : Nat → List Int → Int → Option α) (res : List Int → Option α)
    (step : ∀ (k i : Nat) (w : List Int), i < N → w.length = N * m → L (k + 1) w i = L k (w.take (i * m) ++ f i ++ w.drop (i * m + m)) ((i + 1 : Nat) : Int))
    (stop : ∀ (k : Nat) (w : List Int), w.length = N * m → L (k + 1) w N = res w) (w0 : List Int) (h0 : w0.length = N * m) (k : Nat) (hk : N < k) :
    L k w0 0 = res ((List.range N).flatMap f) := by
  have key : ∀ (d i k : Nat) (w : List Int), N - i = d → i ≤ N → d < k → w.length = N * m → w.take (i * m) = (List.range i).flatMap f → L k w i = res ((List.range N).flatMap f) := by
    intro d
    induction d with
    | zero =>
      intro i k w h1 h2 h3 h4 h5
      obtain ⟨k, rfl⟩ : ∃ k', k = k' + 1 := ⟨k - 1, by omega⟩
      have : i = N := by omega
      subst this
      rw [stop k w h4, ← h5, List.take_of_length_le (by omega)]
    | succ d ih =>
      intro i k w h1 h2 h3 h4 h5
      obtain ⟨k, rfl⟩ : ∃ k', k = k' + 1 := ⟨k - 1, by omega⟩
      have him : (i + 1) * m ≤ N * m := Nat.mul_le_mul_right m (by omega)
      rw [Nat.add_mul, Nat.one_mul] at him
      have hfi := hf i (by omega)
      rw [step k i w (by omega) h4]
      have hlen : (w.take (i * m) ++ f i ++ w.drop (i * m + m)).length = N * m := by simp; omega
      refine ih (i + 1) k _ (by omega) (by omega) (by omega) hlen ?_
      rw [List.range_succ, List.flatMap_append, ← h5, Nat.add_mul, Nat.one_mul]
      have h6 : (w.take (i * m) ++ f i).length = i * m + m := by simp; omega
      rw [List.take_append_of_le_length (by omega), List.take_of_length_le (by omega)]
      simp
  have := key N 0 k w0 (by omega) (by omega) (by omega) h0 (by simp)
  simpa using this

theorem lowsL_map {b : List Int} {a n : Nat} (hn : n ≤ 16) : ∀ {M : Nat}, a + M * n ≤ 8 * b.length → lowsL b a n M = (List.range M).map fun i => lv b (a + i * n) n
  | 0, _ => rfl
  | M + 1, h => by
    have hm : (M + 1) * n = M * n + n := by rw [Nat.add_mul, Nat.one_mul]
    rw [lowsL, lowsL_map hn (by omega), List.range_succ, List.map_append]
    congr 1
    have e : ((a : Int) + (M : Int) * (n : Int)) = ((a + M * n : Nat) : Int) := by simp
    have hb := lv_bound b (a + M * n) n
    have h2 : (2 : Int) ^ n ≤ 2 ^ 16 := ipow_le hn
    simp only [List.map_cons, List.map_nil]
    rw [e, lowV_lv (by omega) (by omega), w64 (by omega) (by omega)]

theorem Lows_lv {F : Nat} (hF : 66 ≤ F) {b : List Int} (hb : Bytes b) (hl : b.length ≤ 64) {a n m : Nat} (hn : n ≤ 16) (hm : m ≤ 64) (h : a + m * n ≤ 8 * b.length) :
    bits_Lows F b a n m = some ((List.range m).map (fun i => lv b (a + i * n) n), (0, ())) := by
  have hmn : m * n ≤ 64 * 16 := Nat.mul_le_mul hm hn
  have hk := Lows_l1_is hF hb hl (a := a) (n := n) (by omega) (by omega) (M := m) hm F 0 (by omega) (by omega)
  have hr := room_is F (b := b) (by omega) (a := a) (n := IntKind.wrap .i64 ((n : Int) * (m : Int))) (by omega)
  have e : ((n : Int) * (m : Int)) = ((m * n : Nat) : Int) := by rw [Nat.mul_comm]; simp
  rw [e, w64 (by omega) (by omega)] at hr
  have e2 : IntKind.wrap .i64 ((n : Int) * (m : Int)) = ((m * n : Nat) : Int) := by rw [e, w64 (by omega) (by omega)]
  have h0 : (decide (((a : Int) + ((m * n : Nat) : Int) ≤ 8 * (b.length : Int)) ∧ (a : Int) ≤ 8 * (b.length : Int))) = true := by simp only [decide_eq_true_eq]; omega
  unfold bits_Lows
  have c1 : ¬ (a : Int) < 0 := by omega
  have c2 : ¬ (n : Int) < 0 := by omega
  have c3 : ¬ (16 : Int) < (n : Int) := by omega
  have c4 : ¬ (m : Int) < 0 := by omega
  have c5 : ¬ (64 : Int) < (m : Int) := by omega
  simp only [c1, c2, c3, c4, c5, decide_false, cond_false, e2, hr, h0, Option.bind_some, Bool.not_true]
  rw [← lowsL_map hn h]
  simp only [lowsL, Int.natCast_zero] at hk
  rw [hk]
  rfl

theorem Set_ok {F : Nat} (hF : 66 ≤ F) {b : List Int} (hb : Bytes b) (hl : b.length ≤ 1099511627776) {a n : Nat} {v : Int} (hn : n ≤ 64) (h : a + n ≤ 8 * b.length) (hv : 0 ≤ v ∧ v < 2 ^ n) :
    ref02_Set F b a n false v = some (lset b a n v, (0, ())) := by
  have hp := pow64 hn
  rw [Set_is hF hb hl ⟨hv.1, by omega⟩, fitsV_ok hn h hv]
  unfold setV lset
  rw [if_pos (fitsV_ok hn h hv)]
  simp
theorem SetTop_ok {F : Nat} (hF : 66 ≤ F) {b : List Int} (hb : Bytes b) (hl : b.length ≤ 1099511627776) {a n : Nat} {v : Int} (hn : n ≤ 64) (h : a + n ≤ 8 * b.length) (hv : 0 ≤ v ∧ v < 2 ^ n) :
    ref02_Set F b a n true v = some (hset b a n v, (0, ())) := by
  have hp := pow64 hn
  rw [Set_is hF hb hl ⟨hv.1, by omega⟩, fitsV_ok hn h hv]
  unfold setV hset
  rw [if_pos (fitsV_ok hn h hv)]
  simp

/-! ### low fields laid -/

def llaid (A N : Nat → Nat) (V : Nat → Int) (c : List Int) : Nat → List Int
  | 0 => c
  | i + 1 => lset (llaid A N V c i) (A i) (N i) (V i)

theorem llaid_len (A N : Nat → Nat) (V : Nat → Int) (c : List Int) : ∀ i, (llaid A N V c i).length = c.length
  | 0 => rfl
  | i + 1 => by rw [llaid, lset_len, llaid_len A N V c i]
theorem llaid_bytes (A N : Nat → Nat) (V : Nat → Int) {c : List Int} (hc : Bytes c) : ∀ i, Bytes (llaid A N V c i)
  | 0 => hc
  | i + 1 => lset_bytes (llaid_bytes A N V hc i) _ _ _

theorem llaid_bit {A N : Nat → Nat} {V : Nat → Int} {c : List Int} (hc : Bytes c) {m : Nat} (hr : ∀ i, i < m → A i + N i ≤ 8 * c.length) (hd : ∀ i j, i < m → j < m → i ≠ j → A i + N i ≤ A j ∨ A j + N j ≤ A i) {j : Nat} (hj : j < m) {q : Nat} (h1 : A j ≤ q) (h2 : q < A j + N j) :
    ∀ i, j < i → i ≤ m → lowBit (llaid A N V c i) q = V j / 2 ^ (q - A j) % 2
  | 0, h, _ => by omega
  | i + 1, h, hi => by
    rw [llaid, lset_bit (llaid_bytes A N V hc i) (by rw [llaid_len]; exact hr i (by omega))]
    by_cases e : i = j
    · subst e
      rw [if_pos ⟨h1, h2⟩]
    · have := hd i j (by omega) hj e
      rw [if_neg (by omega)]
      exact llaid_bit hc hr hd hj h1 h2 i (by omega) (by omega)

theorem llaid_out {A N : Nat → Nat} {V : Nat → Int} {c : List Int} (hc : Bytes c) {m : Nat} (hr : ∀ i, i < m → A i + N i ≤ 8 * c.length) {q : Nat} (hq : ∀ i, i < m → ¬ (A i ≤ q ∧ q < A i + N i)) :
    ∀ i, i ≤ m → lowBit (llaid A N V c i) q = lowBit c q
  | 0, _ => rfl
  | i + 1, hi => by
    rw [llaid, lset_bit (llaid_bytes A N V hc i) (by rw [llaid_len]; exact hr i (by omega)), if_neg (hq i (by omega))]
    exact llaid_out hc hr hq i (by omega)

/-! ### numbers of fields -/

theorem ior_field {x v : Int} {m k : Nat} (hx : 0 ≤ x ∧ x < 2 ^ m) (hv : 0 ≤ v ∧ v < 2 ^ k) (hm : m + k ≤ 64) (hm2 : m < 64) : ior .u64 x (ishl .u64 v (m : Int)) = x + v * 2 ^ m := by
  have e64 : (2 : Int) ^ 64 = 18446744073709551616 := by decide
  have hpm := powPos m
  have hpk := powPos k
  have hmk : (2 : Int) ^ m * 2 ^ k ≤ 2 ^ 64 := by rw [← Int.pow_add]; exact ipow_le hm
  have hvm : v * 2 ^ m + 2 ^ m ≤ 2 ^ m * 2 ^ k := by
    have h1 : (v + 1) * 2 ^ m ≤ 2 ^ k * 2 ^ m := Int.mul_le_mul_of_nonneg_right (by omega) (by omega)
    rw [Int.add_mul, Int.one_mul, Int.mul_comm (2 ^ k) (2 ^ m)] at h1
    exact h1
  have hv0 : 0 ≤ v * 2 ^ m := Int.mul_nonneg hv.1 (by omega)
  rw [ishl_u64 (by omega) hv0 (by omega)]
  obtain ⟨n, rfl⟩ := Int.eq_ofNat_of_zero_le hx.1
  obtain ⟨a, rfl⟩ := Int.eq_ofNat_of_zero_le hv.1
  have ep : ((2 ^ m : Nat) : Int) = (2 : Int) ^ m := Int.natCast_pow 2 m
  have hn : n < 2 ^ m := by omega
  have e : ((a : Int) * 2 ^ m) = ((a * 2 ^ m : Nat) : Int) := by rw [Int.natCast_mul, ep]
  rw [e, ior_comm, ior_add hn (by omega)]
  omega

theorem digit_field {x v : Int} {m : Nat} (hx : 0 ≤ x ∧ x < 2 ^ m) (q : Nat) : (x + v * 2 ^ m) / 2 ^ q % 2 = if q < m then x / 2 ^ q % 2 else v / 2 ^ (q - m) % 2 := by
  have hpm := powPos m
  have hpq := powPos q
  split
  · rename_i h
    obtain ⟨d, rfl⟩ : ∃ d, m = q + (d + 1) := ⟨m - q - 1, by omega⟩
    have e : x + v * 2 ^ (q + (d + 1)) = x + (v * 2 ^ d * 2) * 2 ^ q := by
      rw [Int.pow_add, Int.pow_succ]
      congr 1
      rw [Int.mul_comm (2 ^ q) (2 ^ d * 2), ← Int.mul_assoc, ← Int.mul_assoc]
    rw [e, Int.add_mul_ediv_right _ _ (by omega)]
    omega
  · rename_i h
    obtain ⟨d, rfl⟩ : ∃ d, q = m + d := ⟨q - m, by omega⟩
    rw [Int.pow_add, ← Int.ediv_ediv_of_nonneg (by omega), Int.add_mul_ediv_right _ _ (by omega), Int.ediv_eq_zero_of_lt hx.1 hx.2, Int.zero_add, Nat.add_sub_cancel_left]

/-- A number of fields of one size. -/
def packN (low : Int) (from_ each : Nat) (w : List Int) : Nat → Int
  | 0 => low
  | i + 1 => packN low from_ each w i + w.getD i 0 * 2 ^ (from_ + each * i)

theorem packN_bound {low : Int} {from_ each : Nat} {w : List Int} (hl : 0 ≤ low ∧ low < 2 ^ from_) {m : Nat} (hw : ∀ i, i < m → 0 ≤ w.getD i 0 ∧ w.getD i 0 < 2 ^ each) : ∀ i, i ≤ m → 0 ≤ packN low from_ each w i ∧ packN low from_ each w i < 2 ^ (from_ + each * i)
  | 0, _ => by simpa [packN] using hl
  | i + 1, hi => by
    obtain ⟨h1, h2⟩ := packN_bound hl hw i (by omega)
    obtain ⟨h3, h4⟩ := hw i (by omega)
    rw [packN]
    have hp := powPos (from_ + each * i)
    have h5 : 0 ≤ w.getD i 0 * 2 ^ (from_ + each * i) := Int.mul_nonneg h3 (by omega)
    have h6 : (w.getD i 0 + 1) * 2 ^ (from_ + each * i) ≤ 2 ^ each * 2 ^ (from_ + each * i) := Int.mul_le_mul_of_nonneg_right (by omega) (by omega)
    rw [Int.add_mul, Int.one_mul, ← Int.pow_add] at h6
    have e : each + (from_ + each * i) = from_ + each * (i + 1) := by rw [Nat.mul_succ]; omega
    rw [e] at h6
    omega

theorem packN_digit {low : Int} {from_ each : Nat} {w : List Int} (hl : 0 ≤ low ∧ low < 2 ^ from_) (he : 1 ≤ each) {m : Nat} (hw : ∀ i, i < m → 0 ≤ w.getD i 0 ∧ w.getD i 0 < 2 ^ each) : ∀ i, i ≤ m → ∀ q, q < from_ + each * i →
    packN low from_ each w i / 2 ^ q % 2 = if q < from_ then low / 2 ^ q % 2 else w.getD ((q - from_) / each) 0 / 2 ^ ((q - from_) % each) % 2
  | 0, _, q, hq => by
    rw [if_pos (by omega)]
    rfl
  | i + 1, hi, q, hq => by
    rw [packN, digit_field (packN_bound hl hw i (by omega))]
    split
    · rename_i h
      exact packN_digit hl he hw i (by omega) q h
    · rename_i h
      have hge : from_ + each * i ≤ q := by omega
      rw [if_neg (by omega)]
      have e1 : q - from_ = each * i + (q - (from_ + each * i)) := by omega
      have h3 : q - (from_ + each * i) < each := by rw [Nat.mul_succ] at hq; omega
      have e2 : (q - from_) / each = i := by
        rw [e1, Nat.mul_add_div (by omega), Nat.div_eq_of_lt h3, Nat.add_zero]
      have e3 : (q - from_) % each = q - (from_ + each * i) := by
        rw [e1, Nat.mul_add_mod, Nat.mod_eq_of_lt h3]
      rw [e2, e3]

theorem mulB' {n t c d : Int} (hn : -c ≤ n ∧ n ≤ c) (ht : 0 ≤ t ∧ t ≤ d) (hc : 0 ≤ c) : -(c * d) ≤ n * t ∧ n * t ≤ c * d := by
  have h1 : n * t ≤ c * t := Int.mul_le_mul_of_nonneg_right hn.2 ht.1
  have h2 : c * t ≤ c * d := Int.mul_le_mul_of_nonneg_left ht.2 hc
  have h3 : -c * t ≤ n * t := Int.mul_le_mul_of_nonneg_right hn.1 ht.1
  have h4 : -c * t = -(c * t) := Int.neg_mul c t
  omega

/-! ### masks -/

theorem wrap64_nat {n : Nat} (h : n < 9223372036854775808) : IntKind.wrap .i64 (n : Int) = n := w64 (by omega) (by omega)

theorem iand_mask {x : Int} {b : Nat} (hb : b < 63) : iand .i64 x (2 ^ b - 1) = x % 2 ^ b := by
  have hp : (2 : Nat) ^ b ≤ 2 ^ 62 := Nat.pow_le_pow_right (by decide) (by omega)
  have h62 : (2 : Nat) ^ 62 = 4611686018427387904 := by decide
  have hpos : 0 < 2 ^ b := Nat.pow_pos (by decide : 0 < 2)
  have ep : ((2 ^ b : Nat) : Int) = (2 : Int) ^ b := Int.natCast_pow 2 b
  have e1 : ((2 : Int) ^ b - 1) = ((2 ^ b - 1 : Nat) : Int) := by omega
  have e2 : (BitVec.ofInt 64 ((2 ^ b - 1 : Nat) : Int)).toNat = 2 ^ b - 1 := by
    rw [BitVec.ofInt_natCast, BitVec.toNat_ofNat, Nat.mod_eq_of_lt (by omega)]
  show IntKind.wrap .i64 (((BitVec.ofInt 64 x &&& BitVec.ofInt 64 (2 ^ b - 1)).toNat : Nat) : Int) = _
  rw [e1, BitVec.toNat_and, e2, Nat.and_two_pow_sub_one_eq_mod]
  have h3 : (BitVec.ofInt 64 x).toNat % 2 ^ b < 2 ^ b := Nat.mod_lt _ hpos
  rw [wrap64_nat (by omega)]
  have e4 : ((BitVec.ofInt 64 x).toNat : Int) = x % 2 ^ 64 := by
    rw [BitVec.toNat_ofInt]
    have : 0 ≤ x % (2 ^ 64 : Nat) := Int.emod_nonneg _ (by decide)
    rw [Int.toNat_of_nonneg this]
    rfl
  rw [Int.natCast_emod, e4, ep]
  exact Int.emod_emod_of_dvd x (by
    refine ⟨2 ^ (64 - b), ?_⟩
    rw [← Int.pow_add]
    congr 1
    omega)


end Go.AE.Gn

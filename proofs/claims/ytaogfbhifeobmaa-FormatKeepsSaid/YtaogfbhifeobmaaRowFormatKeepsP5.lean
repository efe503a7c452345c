/- A part of the proof, put together of my texts: Pure02, PureBits, PureLow, Pure03, Pure07, PureLib2, PureTab, Pure06, Pure06b, Pure09, Pure09b, Pure09c, Pure09d, Pure10, Pure10b, Pure11, Pure11b, Pure11c, Pure11d, Pure12, Pure13a, Pure13b. -/
import Derived.Test.YtaogfbhifeobmaaRowFormatKeepsP4
set_option linter.unusedSimpArgs false
set_option linter.unusedVariables false
namespace Go.AE.Gn
open Go Go.AE
def bitL (x : Int) (j : Nat) : Int := x / 2 ^ j % 2
theorem bitL_01 (x : Int) (j : Nat) : bitL x j = 0 ∨ bitL x j = 1 := by unfold bitL; omega
def lowBit (b : List Int) (i : Nat) : Int := bitL (b.getD (i / 8) 0) (i % 8)
def highBit (b : List Int) (i : Nat) : Int := bitL (b.getD (i / 8) 0) (7 - i % 8)
theorem ior_add {a b k : Nat} (hb : b < 2 ^ k) (h : a * 2 ^ k + b < 2 ^ 64) : ior .u64 ((a * 2 ^ k : Nat) : Int) (b : Int) = ((a * 2 ^ k + b : Nat) : Int) := by
  have h1 : a * 2 ^ k < 2 ^ 64 := by omega
  have h2 : b < 2 ^ 64 := by omega
  have e1 : (BitVec.ofInt 64 ((a * 2 ^ k : Nat) : Int)).toNat = a * 2 ^ k := by
    rw [BitVec.ofInt_natCast, BitVec.toNat_ofNat, Nat.mod_eq_of_lt h1]
  have e2 : (BitVec.ofInt 64 (b : Int)).toNat = b := by
    rw [BitVec.ofInt_natCast, BitVec.toNat_ofNat, Nat.mod_eq_of_lt h2]
  have e3 : (BitVec.ofInt 64 ((a * 2 ^ k : Nat) : Int) ||| BitVec.ofInt 64 (b : Int)).toNat = a * 2 ^ k + b := by
    rw [BitVec.toNat_or, e1, e2, Nat.mul_comm, ← Nat.two_pow_add_eq_or_of_lt hb]
  show IntKind.wrap .u64 (((BitVec.ofInt 64 ((a * 2 ^ k : Nat) : Int) ||| BitVec.ofInt 64 (b : Int)).toNat : Nat) : Int) = _
  rw [e3]
  exact wu64 (by omega) (by omega)
theorem ior_comm (k : IntKind) (x y : Int) : ior k x y = ior k y x := by
  unfold ior
  rw [BitVec.or_comm]
theorem ishl_u64 {x : Int} {k : Nat} (hk : k ≤ 64) (h0 : 0 ≤ x * 2 ^ k) (h : x * 2 ^ k ≤ 18446744073709551615) : ishl .u64 x (k : Int) = x * 2 ^ k := by
  unfold ishl
  have : min ((k : Int).toNat) (IntKind.bits .u64) = k := by
    show min ((k : Int).toNat) 64 = k
    simp
    omega
  rw [this]
  exact wu64 h0 h
theorem ishr_u64 {x : Int} {k : Nat} (hk : k ≤ 64) (hx : 0 ≤ x) : ishr .u64 x (k : Int) = x / 2 ^ k := by
  unfold ishr
  have : min ((k : Int).toNat) (IntKind.bits .u64) = k := by
    show min ((k : Int).toNat) 64 = k
    simp
    omega
  rw [this, Int.fdiv_eq_ediv_of_nonneg _ (Int.le_of_lt (Int.pow_pos (by decide)))]
theorem iand_one {n : Int} (h0 : 0 ≤ n) (h : n ≤ 18446744073709551615) : iand .u64 n 1 = n % 2 := by
  obtain ⟨m, rfl⟩ := Int.eq_ofNat_of_zero_le h0
  have e1 : (BitVec.ofInt 64 (m : Int)).toNat = m := by
    rw [BitVec.ofInt_natCast, BitVec.toNat_ofNat, Nat.mod_eq_of_lt (by omega)]
  show IntKind.wrap .u64 (((BitVec.ofInt 64 (m : Int) &&& BitVec.ofInt 64 1).toNat : Nat) : Int) = _
  rw [BitVec.toNat_and, e1, show (BitVec.ofInt 64 1).toNat = 1 from rfl, Nat.and_one_is_mod]
  rw [wu64 (by omega) (by omega)]
  omega
theorem ior_top {x v : Int} {k : Nat} (hx : 0 ≤ x ∧ x < 2 ^ k) (hk : k < 64) (hv : v = 0 ∨ v = 1) : ior .u64 x (ishl .u64 v (k : Int)) = x + v * 2 ^ k := by
  have hp : (2 : Int) ^ k ≤ 9223372036854775808 := pow63 (by omega)
  have hpp : (0 : Int) < 2 ^ k := Int.pow_pos (by decide)
  rw [ishl_u64 (by omega) (by rcases hv with rfl | rfl <;> omega) (by rcases hv with rfl | rfl <;> omega)]
  obtain ⟨n, rfl⟩ := Int.eq_ofNat_of_zero_le hx.1
  obtain ⟨a, rfl⟩ : ∃ a : Nat, v = a := Int.eq_ofNat_of_zero_le (by omega)
  have ep : ((2 ^ k : Nat) : Int) = (2 : Int) ^ k := Int.natCast_pow 2 k
  have hn : n < 2 ^ k := by omega
  have e : ((a : Int) * 2 ^ k) = ((a * 2 ^ k : Nat) : Int) := by rw [Int.natCast_mul, ep]
  have ha : a * 2 ^ k + n < 2 ^ 64 := by
    have : a = 0 ∨ a = 1 := by omega
    rcases this with rfl | rfl <;> omega
  rw [e, ior_comm, ior_add hn ha]
  omega
theorem ior_bot {x v : Int} (hx : 0 ≤ x ∧ x < 9223372036854775808) (hv : v = 0 ∨ v = 1) : ior .u64 (ishl .u64 x 1) v = 2 * x + v := by
  have := ishl_u64 (x := x) (k := 1) (by decide) (by simp; omega) (by simp; omega)
  rw [show ((1 : Nat) : Int) = 1 from rfl] at this
  rw [this]
  obtain ⟨n, rfl⟩ := Int.eq_ofNat_of_zero_le hx.1
  obtain ⟨a, rfl⟩ : ∃ a : Nat, v = a := Int.eq_ofNat_of_zero_le (by omega)
  have e : ((n : Int) * 2 ^ 1) = ((n * 2 ^ 1 : Nat) : Int) := by omega
  rw [e, ior_add (by omega) (by omega)]
  omega
def spreadL (x : Int) : List Int := (List.range 8).map fun j => bitL x j
theorem spread_closed (n : Nat) : ((List.range 256).all fun x => bits_spread (n + 9) x == some (spreadL x, ())) = true := by kernel_rfl
theorem spread_is {F : Nat} (hF : 9 ≤ F) {x : Int} (h : 0 ≤ x ∧ x ≤ 255) : bits_spread F x = some (spreadL x, ()) := by
  obtain ⟨m, rfl⟩ := Int.eq_ofNat_of_zero_le h.1
  obtain ⟨n, rfl⟩ : ∃ n, F = n + 9 := ⟨F - 9, by omega⟩
  have := List.all_eq_true.1 (spread_closed n) m (by simp; omega)
  simpa using this
theorem spreadL_get (x : Int) {j : Nat} (h : j < 8) : (spreadL x).getD j 0 = bitL x j := by
  simp [spreadL, List.getD_eq_getElem?_getD, h]
theorem low_is {F : Nat} (hF : 9 ≤ F) {b : List Int} (hb : Bytes b) {i : Nat} (hi : i < 8 * b.length) (hl : b.length ≤ 1099511627776) : bits_low F b i = some (lowBit b i, ()) := by
  have e1 : IntKind.wrap .i64 (Int.tdiv (i : Int) 8) = ((i / 8 : Nat) : Int) := by
    rw [tdiv_nonneg (by omega), w64 (by omega) (by omega)]; omega
  have e2 : Int.tmod (i : Int) 8 = ((i % 8 : Nat) : Int) := by
    rw [tmod_nonneg (by omega)]; omega
  have h1 : ((i / 8 : Nat) : Int) < (b.length : Int) := by omega
  have h2 : ((i % 8 : Nat) : Int) < 8 := by omega
  unfold bits_low
  simp only [e1, e2, spread_is hF (hb.getD _), Option.bind_some]
  simp only [h1, h2, Int.natCast_nonneg, decide_true, Bool.and_self, cond_true, Int.toNat_natCast, spreadL_get _ (show i % 8 < 8 by omega)]
  rfl
theorem high_is {F : Nat} (hF : 9 ≤ F) {b : List Int} (hb : Bytes b) {i : Nat} (hi : i < 8 * b.length) (hl : b.length ≤ 1099511627776) : bits_high F b i = some (highBit b i, ()) := by
  have e1 : IntKind.wrap .i64 (Int.tdiv (i : Int) 8) = ((i / 8 : Nat) : Int) := by
    rw [tdiv_nonneg (by omega), w64 (by omega) (by omega)]; omega
  have e2 : IntKind.wrap .i64 (7 - Int.tmod (i : Int) 8) = ((7 - i % 8 : Nat) : Int) := by
    rw [tmod_nonneg (by omega), w64 (by omega) (by omega)]; omega
  have h1 : ((i / 8 : Nat) : Int) < (b.length : Int) := by omega
  have h2 : ((7 - i % 8 : Nat) : Int) < 8 := by omega
  unfold bits_high
  simp only [e1, e2, spread_is hF (hb.getD _), Option.bind_some]
  simp only [h1, h2, Int.natCast_nonneg, decide_true, Bool.and_self, cond_true, Int.toNat_natCast, spreadL_get _ (show 7 - i % 8 < 8 by omega)]
  rfl
def chk (len : Nat) (at_ n : Int) : Int := if at_ < 0 ∨ n < 0 ∨ 64 < n then 1 else if at_ + n ≤ 8 * (len : Int) then 0 else 2
theorem check_is (F : Nat) {b : List Int} (hl : b.length ≤ 1099511627776) {a n : Int} (ha : a ≤ 9223372036854775807) : bits_check F b a n = some (chk b.length a n, ()) := by
  unfold chk bits_check
  by_cases h1 : a < 0
  · simp [h1]
  by_cases h2 : n < 0
  · simp [h1, h2]
  by_cases h3 : 64 < n
  · simp [h1, h2, h3]
  have e1 : IntKind.wrap .i64 (8 * (b.length : Int)) = 8 * (b.length : Int) := w64 (by omega) (by omega)
  unfold bits_room
  by_cases h4 : a ≤ 8 * (b.length : Int)
  · have e2 : IntKind.wrap .i64 (8 * (b.length : Int) - a) = 8 * (b.length : Int) - a := w64 (by omega) (by omega)
    by_cases h5 : a + n ≤ 8 * (b.length : Int)
    · have h6 : n ≤ 8 * (b.length : Int) - a := by omega
      simp [h1, h2, h3, e1, e2, h4, h5, h6]
    · have h6 : ¬ n ≤ 8 * (b.length : Int) - a := by omega
      simp [h1, h2, h3, e1, e2, h4, h5, h6]
  · have h5 : ¬ a + n ≤ 8 * (b.length : Int) := by omega
    simp [h1, h2, h3, e1, h4, h5]
theorem Low_l0_is {F : Nat} (hF : 9 ≤ F) {b : List Int} (hb : Bytes b) (hl : b.length ≤ 1099511627776) {A N : Nat} (hA : A + N ≤ 8 * b.length) (hN : N ≤ 64) : ∀ (k i : Nat), i ≤ N → N - i < k →
    bits_Low_l0 F k b A 0 (sumLo (fun j => lowBit b (A + j)) i) N i = some (.inr (0, (sumLo (fun j => lowBit b (A + j)) N, ())))
  | 0, i, _, h => by omega
  | k + 1, i, hi, hk => by
    unfold bits_Low_l0 bits_Low_l0S
    by_cases h : i < N
    · have h1 : (i : Int) < (N : Int) := by omega
      have e1 : IntKind.wrap .i64 ((A : Int) + (i : Int)) = ((A + i : Nat) : Int) := by rw [w64 (by omega) (by omega)]; omega
      have e2 : IntKind.wrap .i64 ((i : Int) + 1) = ((i + 1 : Nat) : Int) := by rw [w64 (by omega) (by omega)]; omega
      have e3 : ior .u64 (sumLo (fun j => lowBit b (A + j)) i) (ishl .u64 (lowBit b (A + i)) (i : Int)) = sumLo (fun j => lowBit b (A + j)) (i + 1) :=
        ior_top (sumLo_bound fun j _ => bitL_01 _ _) (by omega) (bitL_01 _ _)
      simp only [h1, decide_true, cond_true, e1, low_is hF hb (show A + i < 8 * b.length by omega) hl, Option.bind_some, Int.natCast_nonneg, e2, e3]
      exact Low_l0_is hF hb hl hA hN k (i + 1) (by omega) (by omega)
    · have : i = N := by omega
      subst this
      simp
theorem High_l0_is {F : Nat} (hF : 9 ≤ F) {b : List Int} (hb : Bytes b) (hl : b.length ≤ 1099511627776) {A N : Nat} (hA : A + N ≤ 8 * b.length) (hN : N ≤ 64) : ∀ (k i : Nat), i ≤ N → N - i < k →
    bits_High_l0 F k b A 0 (sumHi (fun j => highBit b (A + j)) i) N i = some (.inr (0, (sumHi (fun j => highBit b (A + j)) N, ())))
  | 0, i, _, h => by omega
  | k + 1, i, hi, hk => by
    unfold bits_High_l0 bits_High_l0S
    by_cases h : i < N
    · have h1 : (i : Int) < (N : Int) := by omega
      have e1 : IntKind.wrap .i64 ((A : Int) + (i : Int)) = ((A + i : Nat) : Int) := by rw [w64 (by omega) (by omega)]; omega
      have e2 : IntKind.wrap .i64 ((i : Int) + 1) = ((i + 1 : Nat) : Int) := by rw [w64 (by omega) (by omega)]; omega
      have hbd := sumHi_bound (f := fun j => highBit b (A + j)) (n := i) fun j _ => bitL_01 _ _
      have hp : (2 : Int) ^ i ≤ 9223372036854775808 := pow63 (by omega)
      have e3 : ior .u64 (ishl .u64 (sumHi (fun j => highBit b (A + j)) i) 1) (highBit b (A + i)) = sumHi (fun j => highBit b (A + j)) (i + 1) :=
        ior_bot ⟨hbd.1, by omega⟩ (bitL_01 _ _)
      simp only [h1, decide_true, cond_true, e1, high_is hF hb (show A + i < 8 * b.length by omega) hl, Option.bind_some, e2, e3]
      exact High_l0_is hF hb hl hA hN k (i + 1) (by omega) (by omega)
    · have : i = N := by omega
      subst this
      simp
def lowV (b : List Int) (a n : Int) : Int := if chk b.length a n = 0 then sumLo (fun j => lowBit b (a.toNat + j)) n.toNat else 0
def highV (b : List Int) (a n : Int) : Int := if chk b.length a n = 0 then sumHi (fun j => highBit b (a.toNat + j)) n.toNat else 0
theorem chk0 {len : Nat} {a n : Int} (h : chk len a n = 0) : 0 ≤ a ∧ 0 ≤ n ∧ n ≤ 64 ∧ a + n ≤ 8 * (len : Int) := by
  unfold chk at h
  split at h
  · omega
  · split at h
    · omega
    · omega
theorem Low_is {F : Nat} (hF : 66 ≤ F) {b : List Int} (hb : Bytes b) (hl : b.length ≤ 1099511627776) {a n : Int} (ha : a ≤ 9223372036854775807) : bits_Low F b a n = some (lowV b a n, (chk b.length a n, ())) := by
  unfold bits_Low lowV
  simp only [check_is F hl ha, Option.bind_some]
  by_cases hc : chk b.length a n = 0
  · obtain ⟨h1, h2, h3, h4⟩ := chk0 hc
    obtain ⟨A, rfl⟩ := Int.eq_ofNat_of_zero_le h1
    obtain ⟨N, rfl⟩ := Int.eq_ofNat_of_zero_le h2
    have := Low_l0_is (F := F) (by omega) hb hl (A := A) (N := N) (by omega) (by omega) F 0 (by omega) (by omega)
    simp only [sumLo, Int.natCast_zero] at this
    rw [hc]
    simp only [Int.toNat_natCast, if_true]
    rw [this]
    rfl
  · rw [if_neg hc]
    obtain ⟨k, rfl⟩ : ∃ k, F = k + 1 := ⟨F - 1, by omega⟩
    unfold bits_Low_l0 bits_Low_l0S
    by_cases h0 : 0 < n
    · simp [h0, bneT hc]
    · simp [h0]
theorem High_is {F : Nat} (hF : 66 ≤ F) {b : List Int} (hb : Bytes b) (hl : b.length ≤ 1099511627776) {a n : Int} (ha : a ≤ 9223372036854775807) : bits_High F b a n = some (highV b a n, (chk b.length a n, ())) := by
  unfold bits_High highV
  simp only [check_is F hl ha, Option.bind_some]
  by_cases hc : chk b.length a n = 0
  · obtain ⟨h1, h2, h3, h4⟩ := chk0 hc
    obtain ⟨A, rfl⟩ := Int.eq_ofNat_of_zero_le h1
    obtain ⟨N, rfl⟩ := Int.eq_ofNat_of_zero_le h2
    have := High_l0_is (F := F) (by omega) hb hl (A := A) (N := N) (by omega) (by omega) F 0 (by omega) (by omega)
    simp only [sumHi, Int.natCast_zero] at this
    rw [hc]
    simp only [Int.toNat_natCast, if_true]
    rw [this]
    rfl
  · rw [if_neg hc]
    obtain ⟨k, rfl⟩ : ∃ k, F = k + 1 := ⟨F - 1, by omega⟩
    unfold bits_High_l0 bits_High_l0S
    by_cases h0 : 0 < n
    · simp [h0, bneT hc]
    · simp [h0]
theorem div_pow_succ (x : Int) (k : Nat) : x / 2 ^ k / 2 = x / 2 ^ (k + 1) := by
  rw [Int.pow_succ, Int.ediv_ediv_of_nonneg (Int.le_of_lt (powPos k))]
theorem bit_l0_is {F : Nat} {x : Int} (h : 0 ≤ x ∧ x ≤ 255) {n : Nat} (hn : n ≤ 7) : ∀ (k i : Nat), i ≤ n → n - i < k → ref02_bit_l0 F k n (x / 2 ^ i) i = some (x / 2 ^ n, ())
  | 0, i, _, h => by omega
  | k + 1, i, hi, hk => by
    unfold ref02_bit_l0 ref02_bit_l0S
    by_cases hl : i < n
    · have h1 : (i : Int) < (n : Int) := by omega
      have h0 : 0 ≤ x / 2 ^ i := Int.ediv_nonneg h.1 (Int.le_of_lt (powPos i))
      have h2 : x / 2 ^ i ≤ x := Int.ediv_le_self _ h.1
      have e1 : IntKind.wrap .i64 (Int.tdiv (x / 2 ^ i) 2) = x / 2 ^ (i + 1) := by
        rw [tdiv_nonneg h0, w64 (by omega) (by omega), div_pow_succ]
      have e2 : IntKind.wrap .i64 ((i : Int) + 1) = ((i + 1 : Nat) : Int) := by rw [w64 (by omega) (by omega)]; omega
      simp only [h1, decide_true, cond_true, e1, e2]
      exact bit_l0_is h hn k (i + 1) (by omega) (by omega)
    · have : i = n := by omega
      subst this
      simp
def anyBit (b : List Int) (i : Nat) (high : Bool) : Int := if high then highBit b i else lowBit b i
theorem bit_is {F : Nat} (hF : 9 ≤ F) {b : List Int} (hb : Bytes b) {i : Nat} (hi : i < 8 * b.length) (hl : b.length ≤ 1099511627776) (high : Bool) : ref02_bit F b i high = some (anyBit b i high, ()) := by
  have e1 : IntKind.wrap .i64 (Int.tdiv (i : Int) 8) = ((i / 8 : Nat) : Int) := by
    rw [tdiv_nonneg (by omega), w64 (by omega) (by omega)]; omega
  have e2 : Int.tmod (i : Int) 8 = ((i % 8 : Nat) : Int) := by
    rw [tmod_nonneg (by omega)]; omega
  have e3 : IntKind.wrap .i64 (7 - ((i % 8 : Nat) : Int)) = ((7 - i % 8 : Nat) : Int) := by
    rw [w64 (by omega) (by omega)]; omega
  have h1 : ((i / 8 : Nat) : Int) < (b.length : Int) := by omega
  have hx := hb.getD (i / 8)
  have nn : ∀ j, 0 ≤ b.getD (i / 8) 0 / 2 ^ j := fun j => Int.ediv_nonneg hx.1 (Int.le_of_lt (powPos j))
  have lo := bit_l0_is (F := F) hx (n := i % 8) (by omega) F 0 (by omega) (by omega)
  have hi' := bit_l0_is (F := F) hx (n := 7 - i % 8) (by omega) F 0 (by omega) (by omega)
  simp only [Int.pow_zero, Int.ediv_one, Int.natCast_zero] at lo hi'
  unfold ref02_bit anyBit
  cases high
  · simp only [cond_false, e1, e2, h1, Int.natCast_nonneg, decide_true, Bool.and_self, cond_true, Int.toNat_natCast, lo, Option.bind_some, tmod_nonneg (nn _)]
    rfl
  · simp only [cond_true, e1, e2, e3, h1, Int.natCast_nonneg, decide_true, Bool.and_self, Int.toNat_natCast, hi', Option.bind_some, tmod_nonneg (nn _)]
    rfl
theorem fits_is (F : Nat) {b : List Int} (hl : b.length ≤ 1099511627776) {a n : Int} (ha : 0 ≤ a) (hn : -9223372036854775808 ≤ n) : ref02_fits F b a n = some (decide (a + n ≤ 8 * (b.length : Int) ∧ a ≤ 8 * (b.length : Int)), ()) := by
  have e1 : IntKind.wrap .i64 (8 * (b.length : Int)) = 8 * (b.length : Int) := w64 (by omega) (by omega)
  unfold ref02_fits
  by_cases h4 : a ≤ 8 * (b.length : Int)
  · have e2 : IntKind.wrap .i64 (8 * (b.length : Int) - a) = 8 * (b.length : Int) - a := w64 (by omega) (by omega)
    by_cases h5 : a + n ≤ 8 * (b.length : Int)
    · have h6 : n ≤ 8 * (b.length : Int) - a := by omega
      simp [e1, e2, h4, h5, h6]
    · have h6 : ¬ n ≤ 8 * (b.length : Int) - a := by omega
      simp [e1, e2, h4, h5, h6]
  · simp [e1, h4]
theorem Get_l0_is {F : Nat} (hF : 9 ≤ F) {b : List Int} (hb : Bytes b) (hl : b.length ≤ 1099511627776) {A N : Nat} (hA : A + N ≤ 8 * b.length) (hN : N ≤ 64) (high : Bool) {g : Nat → Int}
    (hg : ∀ i, i < N → g i = if high then highBit b (A + i) else lowBit b (A + (N - 1 - i))) : ∀ (k i : Nat), i ≤ N → N - i < k →
    ref02_Get_l0 F k b A N high (sumHi g i) i = some (sumHi g N, ())
  | 0, i, _, h => by omega
  | k + 1, i, hi, hk => by
    unfold ref02_Get_l0 ref02_Get_l0S
    by_cases h : i < N
    · have h1 : (i : Int) < (N : Int) := by omega
      have e1 : IntKind.wrap .i64 ((A : Int) + (i : Int)) = ((A + i : Nat) : Int) := by rw [w64 (by omega) (by omega)]; omega
      have e1' : IntKind.wrap .i64 (IntKind.wrap .i64 (IntKind.wrap .i64 ((A : Int) + (N : Int)) - 1) - (i : Int)) = ((A + (N - 1 - i) : Nat) : Int) := by
        rw [w64 (x := (A : Int) + (N : Int)) (by omega) (by omega), w64 (x := (A : Int) + (N : Int) - 1) (by omega) (by omega), w64 (by omega) (by omega)]; omega
      have e2 : IntKind.wrap .i64 ((i : Int) + 1) = ((i + 1 : Nat) : Int) := by rw [w64 (by omega) (by omega)]; omega
      have hg01 : Bit g N := fun j hj => by
        rw [hg j hj]
        split <;> exact bitL_01 _ _
      have hbd := sumHi_bound (f := g) (n := i) fun j hj => hg01 j (by omega)
      have hp : (2 : Int) ^ i ≤ 9223372036854775808 := pow63 (by omega)
      have hgi := hg01 i h
      have e3 : IntKind.wrap .u64 (IntKind.wrap .u64 (2 * sumHi g i) + IntKind.wrap .u64 (g i)) = sumHi g (i + 1) := by
        rw [wu64 (x := 2 * sumHi g i) (by omega) (by omega), wu64 (x := g i) (by omega) (by omega), wu64 (by omega) (by omega)]; rfl
      have ih := Get_l0_is hF hb hl hA hN high hg k (i + 1) (by omega) (by omega)
      have hgi2 := hg i h
      cases high
      · have hbit := bit_is hF hb (show A + (N - 1 - i) < 8 * b.length by omega) hl false
        have e4 : anyBit b (A + (N - 1 - i)) false = g i := by rw [hgi2]; rfl
        rw [e4] at hbit
        simp only [h1, decide_true, cond_true, cond_false, e1', hbit, Option.bind_some, e2, e3]
        exact ih
      · have hbit := bit_is hF hb (show A + i < 8 * b.length by omega) hl true
        have e4 : anyBit b (A + i) true = g i := by rw [hgi2]; rfl
        rw [e4] at hbit
        simp only [h1, decide_true, cond_true, e1, hbit, Option.bind_some, e2, e3]
        exact ih
    · have : i = N := by omega
      subst this
      simp
theorem Get_is {F : Nat} (hF : 66 ≤ F) {b : List Int} (hb : Bytes b) (hl : b.length ≤ 1099511627776) {a n : Int} (high : Bool) :
    ref02_Get F b a n high = some (if high then highV b a n else lowV b a n, (chk b.length a n, ())) := by
  unfold ref02_Get
  by_cases h1 : a < 0
  · simp [h1, chk, lowV, highV]
  by_cases h2 : n < 0
  · simp [h1, h2, chk, lowV, highV]
  by_cases h3 : 64 < n
  · simp [h1, h2, h3, chk, lowV, highV]
  have hc : chk b.length a n = if a + n ≤ 8 * (b.length : Int) then 0 else 2 := by simp [chk, h1, h2, h3]
  rw [fits_is F hl (by omega) (by omega)]
  by_cases h4 : a + n ≤ 8 * (b.length : Int)
  · have h5 : a ≤ 8 * (b.length : Int) := by omega
    rw [if_pos h4] at hc
    obtain ⟨A, rfl⟩ := Int.eq_ofNat_of_zero_le (show 0 ≤ a by omega)
    obtain ⟨N, rfl⟩ := Int.eq_ofNat_of_zero_le (show 0 ≤ n by omega)
    have key := Get_l0_is (F := F) (by omega) hb hl (A := A) (N := N) (by omega) (by omega) high (g := fun i => if high then highBit b (A + i) else lowBit b (A + (N - 1 - i))) (fun i _ => rfl) F 0 (by omega) (by omega)
    have key' : ref02_Get_l0 F F b A N high 0 0 = some (if high then highV b A N else lowV b A N, ()) := by
      simp only [sumHi, Int.natCast_zero] at key
      rw [key]
      congr 2
      cases high
      · simp only [Bool.false_eq_true, if_false, lowV, hc, if_true, Int.toNat_natCast]
        exact sumHi_rev (fun j => lowBit b (A + j)) N
      · simp only [if_true, highV, hc, Int.toNat_natCast]
    simp [h1, h2, h3, h4, h5, hc, key']
  · rw [if_neg h4] at hc
    have hz : ∀ high : Bool, (if high then highV b a n else lowV b a n) = 0 := by
      intro high
      cases high <;> simp [lowV, highV, hc]
    simp only [h1, h2, h3, decide_false, cond_false, Option.bind_some, h4, false_and, Bool.not_false, cond_true, hc, hz]
def setB (x : Int) (k : Nat) (v : Int) : Int := x - bitL x k * 2 ^ k + v * 2 ^ k
theorem set_closed : ((List.range 256).all fun x => (List.range 8).all fun k => (List.range 2).all fun v => (ior .u8 (iandn .u8 x (ishl .u8 1 k)) (ishl .u8 v k) == setB x k v) && (decide (0 ≤ setB x k v) && decide (setB x k v ≤ 255))) = true := by kernel_rfl
theorem set_fact {x : Int} (hx : 0 ≤ x ∧ x ≤ 255) {k : Nat} (hk : k < 8) {v : Int} (hv : v = 0 ∨ v = 1) :
    ior .u8 (iandn .u8 x (ishl .u8 1 k)) (ishl .u8 v k) = setB x k v ∧ 0 ≤ setB x k v ∧ setB x k v ≤ 255 := by
  obtain ⟨m, rfl⟩ := Int.eq_ofNat_of_zero_le hx.1
  obtain ⟨a, rfl⟩ := Int.eq_ofNat_of_zero_le (show 0 ≤ v by omega)
  have := List.all_eq_true.1 (List.all_eq_true.1 (List.all_eq_true.1 set_closed m (by simp; omega)) k (by simp; omega)) a (by simp; omega)
  simp only [Bool.and_eq_true, beq_iff_eq, decide_eq_true_eq] at this
  exact this
theorem set_is (F : Nat) {x : Int} (hx : 0 ≤ x ∧ x ≤ 255) {k : Nat} (hk : k < 8) {n : Int} (hn : 0 ≤ n ∧ n ≤ 18446744073709551615) : bits_set F x k n = some (setB x k (n % 2), ()) := by
  unfold bits_set
  have e1 : IntKind.wrap .u8 (iand .u64 n 1) = n % 2 := by rw [iand_one hn.1 hn.2, wu8 (by omega) (by omega)]
  have := (set_fact hx hk (v := n % 2) (by omega)).1
  simp only [Int.natCast_nonneg, decide_true, cond_true, e1, this]
def sets (pos : Nat → Nat × Nat) (n : Int) (b : List Int) : Nat → List Int
  | 0 => b
  | i + 1 => (sets pos n b i).set (pos i).1 (setB ((sets pos n b i).getD (pos i).1 0) (pos i).2 (n / 2 ^ i % 2))
def posLo (A i : Nat) : Nat × Nat := ((A + i) / 8, (A + i) % 8)
def posHi (A N i : Nat) : Nat × Nat := ((A + (N - 1 - i)) / 8, 7 - (A + (N - 1 - i)) % 8)
theorem sets_len (pos : Nat → Nat × Nat) (n : Int) (b : List Int) : ∀ i, (sets pos n b i).length = b.length
  | 0 => rfl
  | i + 1 => by rw [sets, List.length_set, sets_len pos n b i]
theorem sets_bytes {pos : Nat → Nat × Nat} {n : Int} {b : List Int} (hb : Bytes b) (hp : ∀ i, (pos i).2 < 8) : ∀ i, Bytes (sets pos n b i)
  | 0 => hb
  | i + 1 => (sets_bytes hb hp i).set (set_fact ((sets_bytes hb hp i).getD _) (hp i) (by omega)).2
theorem posHi8 (A N i : Nat) : (posHi A N i).2 < 8 := by simp only [posHi]; omega
theorem ushift {n : Int} (hn : 0 ≤ n ∧ n ≤ 18446744073709551615) (i : Nat) : 0 ≤ n / 2 ^ i ∧ n / 2 ^ i ≤ 18446744073709551615 := by
  have h1 : n / 2 ^ i ≤ n := Int.ediv_le_self _ hn.1
  exact ⟨Int.ediv_nonneg hn.1 (Int.le_of_lt (powPos i)), by omega⟩
theorem SetHigh_l0_is {F : Nat} {b : List Int} (hb : Bytes b) (hl : b.length ≤ 1099511627776) {A N : Nat} (hA : A + N ≤ 8 * b.length) (hN : N ≤ 64) {n : Int} (hn : 0 ≤ n ∧ n ≤ 18446744073709551615) : ∀ (k i : Nat), i ≤ N → N - i < k →
    bits_SetHigh_l0 F k A N n (sets (posHi A N) n b i) N i = some (sets (posHi A N) n b N, ())
  | 0, i, _, h => by omega
  | k + 1, i, hi, hk => by
    unfold bits_SetHigh_l0 bits_SetHigh_l0S
    by_cases h : i < N
    · have h1 : (i : Int) < (N : Int) := by omega
      have e1 : IntKind.wrap .i64 (IntKind.wrap .i64 (IntKind.wrap .i64 ((A : Int) + (N : Int)) - 1) - (i : Int)) = ((A + (N - 1 - i) : Nat) : Int) := by
        rw [w64 (x := (A : Int) + (N : Int)) (by omega) (by omega), w64 (x := (A : Int) + (N : Int) - 1) (by omega) (by omega), w64 (by omega) (by omega)]; omega
      have e2 : IntKind.wrap .i64 ((i : Int) + 1) = ((i + 1 : Nat) : Int) := by rw [w64 (by omega) (by omega)]; omega
      have e3 : IntKind.wrap .i64 (Int.tdiv ((A + (N - 1 - i) : Nat) : Int) 8) = (((A + (N - 1 - i)) / 8 : Nat) : Int) := by
        rw [tdiv_nonneg (by omega), w64 (by omega) (by omega)]; omega
      have e4 : IntKind.wrap .i64 (7 - Int.tmod ((A + (N - 1 - i) : Nat) : Int) 8) = ((7 - (A + (N - 1 - i)) % 8 : Nat) : Int) := by
        rw [tmod_nonneg (by omega), w64 (by omega) (by omega)]; omega
      have h2 : (((A + (N - 1 - i)) / 8 : Nat) : Int) < ((sets (posHi A N) n b i).length : Int) := by rw [sets_len]; omega
      have e5 := ishr_u64 (k := i) (by omega) hn.1
      have e6 := set_is F ((sets_bytes (n := n) hb (posHi8 A N) i).getD ((A + (N - 1 - i)) / 8)) (show 7 - (A + (N - 1 - i)) % 8 < 8 by omega) (ushift hn i)
      have ih := SetHigh_l0_is (F := F) hb hl hA hN hn k (i + 1) (by omega) (by omega)
      simp only [h1, h2, decide_true, cond_true, e1, e2, e3, e4, e5, e6, Int.natCast_nonneg, Bool.and_self, Int.toNat_natCast, Option.bind_some]
      exact ih
    · have : i = N := by omega
      subst this
      simp
def fitsV (len : Nat) (a n v : Int) : Int := if chk len a n = 0 then (if n < 64 ∧ v / 2 ^ n.toNat ≠ 0 then 10 else 0) else chk len a n
def setV (high : Bool) (b : List Int) (a n v : Int) : List Int := if fitsV b.length a n v = 0 then sets (if high then posHi a.toNat n.toNat else posLo a.toNat) v b n.toNat else []
theorem bfits_is (F : Nat) {b : List Int} (hl : b.length ≤ 1099511627776) {a n v : Int} (ha : a ≤ 9223372036854775807) (hv : 0 ≤ v) : bits_fits F b a n v = some (fitsV b.length a n v, ()) := by
  unfold bits_fits fitsV
  simp only [check_is F hl ha, Option.bind_some]
  by_cases hc : chk b.length a n = 0
  · obtain ⟨h1, h2, h3, h4⟩ := chk0 hc
    obtain ⟨N, rfl⟩ := Int.eq_ofNat_of_zero_le h2
    have e := ishr_u64 (k := N) (by omega) hv
    by_cases h5 : (N : Int) < 64
    · by_cases h6 : v / 2 ^ N = 0
      · simp [hc, h5, e, h6]
      · simp [hc, h5, e, h6, bneT h6]
    · simp [hc, h5]
  · simp [hc, bneT hc]
theorem fits0 {len : Nat} {a n v : Int} (h : fitsV len a n v = 0) : chk len a n = 0 ∧ (n < 64 → v / 2 ^ n.toNat = 0) := by
  unfold fitsV at h
  split at h
  · rename_i hc
    refine ⟨hc, fun hn => ?_⟩
    split at h
    · cases h
    · rename_i h2
      simp only [hn, true_and, Decidable.not_not] at h2
      exact h2
  · rename_i hc; exact absurd h hc
theorem SetHigh_is {F : Nat} (hF : 66 ≤ F) {b : List Int} (hb : Bytes b) (hl : b.length ≤ 1099511627776) {a n v : Int} (ha : a ≤ 9223372036854775807) (hv : 0 ≤ v ∧ v ≤ 18446744073709551615) :
    bits_SetHigh F b a n v = some (setV true b a n v, (fitsV b.length a n v, ())) := by
  unfold bits_SetHigh setV
  simp only [bfits_is F hl ha hv.1, Option.bind_some]
  by_cases hc : fitsV b.length a n v = 0
  · obtain ⟨h1, h2, h3, h4⟩ := chk0 (fits0 hc).1
    obtain ⟨A, rfl⟩ := Int.eq_ofNat_of_zero_le h1
    obtain ⟨N, rfl⟩ := Int.eq_ofNat_of_zero_le h2
    have := SetHigh_l0_is (F := F) hb hl (A := A) (N := N) (by omega) (by omega) hv F 0 (by omega) (by omega)
    simp only [sets, Int.natCast_zero] at this
    simp [hc, slices_Clone_byte_byte, cloneF_is hl, this]
  · simp [hc, bneT hc]
def lowsL (b : List Int) (a n : Int) : Nat → List Int
  | 0 => []
  | i + 1 => lowsL b a n i ++ [IntKind.wrap .i64 (lowV b (a + i * n) n)]
theorem lowsL_len (b : List Int) (a n : Int) : ∀ i, (lowsL b a n i).length = i
  | 0 => rfl
  | i + 1 => by simp [lowsL, lowsL_len b a n i]
theorem Lows_l1_is {F : Nat} (hF : 66 ≤ F) {b : List Int} (hb : Bytes b) (hl : b.length ≤ 64) {a n : Int} (ha : 0 ≤ a ∧ a ≤ 8 * (b.length : Int)) (hn : 0 ≤ n ∧ n ≤ 16) {M : Nat} (hM : M ≤ 64) : ∀ (k i : Nat), i ≤ M → M - i < k →
    bits_Lows_l1 F k b a n (lowsL b a n i) M i = some (lowsL b a n M, ())
  | 0, i, _, h => by omega
  | k + 1, i, hi, hk => by
    unfold bits_Lows_l1 bits_Lows_l1S
    by_cases h : i < M
    · have h1 : (i : Int) < (M : Int) := by omega
      have h2 : 0 ≤ (i : Int) * n ∧ (i : Int) * n ≤ 64 * 16 := ⟨Int.mul_nonneg (by omega) hn.1, Int.mul_le_mul (by omega) hn.2 hn.1 (by omega)⟩
      have e1 : IntKind.wrap .i64 ((i : Int) * n) = (i : Int) * n := w64 (by omega) (by omega)
      have e2 : IntKind.wrap .i64 (a + (i : Int) * n) = a + (i : Int) * n := w64 (by omega) (by omega)
      have e3 : IntKind.wrap .i64 ((i : Int) + 1) = ((i + 1 : Nat) : Int) := by rw [w64 (by omega) (by omega)]; omega
      have e4 := Low_is hF hb (by omega : b.length ≤ 1099511627776) (a := a + (i : Int) * n) (n := n) (by omega)
      have h5 : (lowsL b a n i).length + 1 ≤ 1099511627776 := by rw [lowsL_len]; omega
      have ih := Lows_l1_is hF hb hl ha hn hM k (i + 1) (by omega) (by omega)
      simp only [h1, decide_true, cond_true, e1, e2, e3, e4, Option.bind_some, h5, Bool.true_and, Bool.false_eq_true, if_false]
      exact ih
    · have : i = M := by omega
      subst this
      simp
theorem room_is (F : Nat) {b : List Int} (hl : b.length ≤ 1099511627776) {a n : Int} (ha : 0 ≤ a) : bits_room F b a n = some (decide (a + n ≤ 8 * (b.length : Int) ∧ a ≤ 8 * (b.length : Int)), ()) := by
  have e1 : IntKind.wrap .i64 (8 * (b.length : Int)) = 8 * (b.length : Int) := w64 (by omega) (by omega)
  unfold bits_room
  by_cases h4 : a ≤ 8 * (b.length : Int)
  · have e2 : IntKind.wrap .i64 (8 * (b.length : Int) - a) = 8 * (b.length : Int) - a := w64 (by omega) (by omega)
    by_cases h5 : a + n ≤ 8 * (b.length : Int)
    · have h6 : n ≤ 8 * (b.length : Int) - a := by omega
      simp [e1, e2, h4, h5, h6]
    · have h6 : ¬ n ≤ 8 * (b.length : Int) - a := by omega
      simp [e1, e2, h4, h5, h6]
  · simp [e1, h4]
theorem bytes_of {b : List Int} (h : ∀ x ∈ b, IntKind.u8.has x) : Bytes b := fun x hx => has_iff.1 (h x hx)
end Go.AE.Gn
set_option linter.unusedSimpArgs false
set_option linter.unusedVariables false
namespace Go.AE.Gn
open Go Go.AE
theorem nextI {i : Nat} (h : i < 1000000000000) : IntKind.wrap .i64 ((i : Int) + 1) = ((i + 1 : Nat) : Int) := by rw [w64 (by omega) (by omega)]; omega
theorem fill_loop {α : Type} (N : Nat) (f : Nat → Int) (L : Nat → List Int → Int → Option α) (res : List Int → Option α)
    (step : ∀ (k i : Nat) (w : List Int), i < N → w.length = N → L (k + 1) w i = L k (w.set i (f i)) ((i + 1 : Nat) : Int))
    (stop : ∀ (k : Nat) (w : List Int), w.length = N → L (k + 1) w N = res w) (w0 : List Int) (h0 : w0.length = N) (k : Nat) (hk : N < k) :
    L k w0 0 = res ((List.range N).map f) := by
  have key : ∀ (m i k : Nat) (w : List Int), N - i = m → i ≤ N → m < k → w.length = N → w.take i = (List.range i).map f → L k w i = res ((List.range N).map f) := by
    intro m
    induction m with
    | zero =>
      intro i k w h1 h2 h3 h4 h5
      obtain ⟨k, rfl⟩ : ∃ k', k = k' + 1 := ⟨k - 1, by omega⟩
      have : i = N := by omega
      subst this
      rw [stop k w h4, ← h5, List.take_of_length_le (by omega)]
    | succ m ih =>
      intro i k w h1 h2 h3 h4 h5
      obtain ⟨k, rfl⟩ : ∃ k', k = k' + 1 := ⟨k - 1, by omega⟩
      rw [step k i w (by omega) h4]
      refine ih (i + 1) k _ (by omega) (by omega) (by omega) (by simp [h4]) ?_
      rw [List.range_succ, List.map_append, ← h5, List.take_add_one, List.take_set_of_le (by omega)]
      congr 1
      rw [List.getElem?_set_self (by omega)]
      rfl
  have := key N 0 k w0 (by omega) (by omega) (by omega) h0 (by simp)
  simpa using this
theorem getD_range_map {N : Nat} (f : Nat → Int) {i : Nat} (h : i < N) : ((List.range N).map f).getD i 0 = f i := by
  simp [List.getD_eq_getElem?_getD, h]
theorem ipow_le {m n : Nat} (h : m ≤ n) : (2 : Int) ^ m ≤ 2 ^ n := by
  have h1 : (2 : Nat) ^ m ≤ 2 ^ n := Nat.pow_le_pow_right (by decide) h
  have e1 : ((2 ^ m : Nat) : Int) = (2 : Int) ^ m := Int.natCast_pow 2 m
  have e2 : ((2 ^ n : Nat) : Int) = (2 : Int) ^ n := Int.natCast_pow 2 n
  omega
def hv (b : List Int) (a n : Nat) : Int := sumHi (fun j => highBit b (a + j)) n
def lv (b : List Int) (a n : Nat) : Int := sumLo (fun j => lowBit b (a + j)) n
theorem highBit_01 (b : List Int) (i : Nat) : highBit b i = 0 ∨ highBit b i = 1 := bitL_01 _ _
theorem lowBit_01 (b : List Int) (i : Nat) : lowBit b i = 0 ∨ lowBit b i = 1 := bitL_01 _ _
theorem hv_bound (b : List Int) (a n : Nat) : 0 ≤ hv b a n ∧ hv b a n < 2 ^ n := sumHi_bound fun i _ => highBit_01 _ _
theorem lv_bound (b : List Int) (a n : Nat) : 0 ≤ lv b a n ∧ lv b a n < 2 ^ n := sumLo_bound fun i _ => lowBit_01 _ _
theorem chk_ok {len : Nat} {a n : Nat} (hn : n ≤ 64) (h : a + n ≤ 8 * len) : chk len a n = 0 := by
  unfold chk
  rw [if_neg (by omega), if_pos (by omega)]
theorem highV_hv {b : List Int} {a n : Nat} (hn : n ≤ 64) (h : a + n ≤ 8 * b.length) : highV b a n = hv b a n := by
  unfold highV hv
  rw [if_pos (chk_ok hn h)]
  simp
theorem lowV_lv {b : List Int} {a n : Nat} (hn : n ≤ 64) (h : a + n ≤ 8 * b.length) : lowV b a n = lv b a n := by
  unfold lowV lv
  rw [if_pos (chk_ok hn h)]
  simp
theorem High_hv {F : Nat} (hF : 66 ≤ F) {b : List Int} (hb : Bytes b) (hl : b.length ≤ 1099511627776) {a n : Nat} (hn : n ≤ 64) (h : a + n ≤ 8 * b.length) : bits_High F b a n = some (hv b a n, (0, ())) := by
  rw [High_is hF hb hl (by omega), highV_hv hn h, chk_ok hn h]
theorem Low_lv {F : Nat} (hF : 66 ≤ F) {b : List Int} (hb : Bytes b) (hl : b.length ≤ 1099511627776) {a n : Nat} (hn : n ≤ 64) (h : a + n ≤ 8 * b.length) : bits_Low F b a n = some (lv b a n, (0, ())) := by
  rw [Low_is hF hb hl (by omega), lowV_lv hn h, chk_ok hn h]
def hset (b : List Int) (a n : Nat) (v : Int) : List Int := sets (posHi a n) v b n
theorem hset_len (b : List Int) (a n : Nat) (v : Int) : (hset b a n v).length = b.length := sets_len _ _ _ _
theorem hset_bytes {b : List Int} (hb : Bytes b) (a n : Nat) (v : Int) : Bytes (hset b a n v) := sets_bytes hb (posHi8 a n) n
theorem fitsV_ok {len : Nat} {a n : Nat} {v : Int} (hn : n ≤ 64) (h : a + n ≤ 8 * len) (hv : 0 ≤ v ∧ v < 2 ^ n) : fitsV len a n v = 0 := by
  unfold fitsV
  rw [if_pos (chk_ok hn h), if_neg]
  rintro ⟨_, h2⟩
  apply h2
  simp only [Int.toNat_natCast]
  exact Int.ediv_eq_zero_of_lt hv.1 hv.2
theorem pow64 {n : Nat} (hn : n ≤ 64) : (2 : Int) ^ n ≤ 18446744073709551616 := by
  have h : (2 : Nat) ^ n ≤ 18446744073709551616 := Nat.le_trans (Nat.pow_le_pow_right (by decide) hn) (by decide)
  have e : ((2 ^ n : Nat) : Int) = (2 : Int) ^ n := Int.natCast_pow 2 n
  omega
theorem SetHigh_ok {F : Nat} (hF : 66 ≤ F) {b : List Int} (hb : Bytes b) (hl : b.length ≤ 1099511627776) {a n : Nat} {v : Int} (hn : n ≤ 64) (h : a + n ≤ 8 * b.length) (hv : 0 ≤ v ∧ v < 2 ^ n) :
    bits_SetHigh F b a n v = some (hset b a n v, (0, ())) := by
  have hp := pow64 hn
  rw [SetHigh_is hF hb hl (by omega) ⟨hv.1, by omega⟩, fitsV_ok hn h hv]
  unfold setV hset
  rw [if_pos (fitsV_ok hn h hv)]
  simp
def hlaid (A N : Nat → Nat) (V : Nat → Int) (c : List Int) : Nat → List Int
  | 0 => c
  | i + 1 => hset (hlaid A N V c i) (A i) (N i) (V i)
end Go.AE.Gn
set_option linter.unusedSimpArgs false
set_option linter.unusedVariables false
namespace Go.AE.Gn
open Go Go.AE
theorem fill_parts {α : Type} (N m : Nat) (f : Nat → List Int) (hf : ∀ i, i < N → (f i).length = m) (L : Nat → List Int → Int → Option α) (res : List Int → Option α)
    (step : ∀ (k i : Nat) (w : List Int), i < N → w.length = N * m → L (k + 1) w i = L k (w.take (i * m) ++ f i ++ w.drop (i * m + m)) ((i + 1 : Nat) : Int))
    (stop : ∀ (k : Nat) (w : List Int), w.length = N * m → L (k + 1) w N = res w) (w0 : List Int) (h0 : w0.length = N * m) (k : Nat) (hk : N < k) :
    L k w0 0 = res ((List.range N).flatMap f) := by
  have key : ∀ (d i k : Nat) (w : List Int), N - i = d → i ≤ N → d < k → w.length = N * m → w.take (i * m) = (List.range i).flatMap f → L k w i = res ((List.range N).flatMap f) := by
    intro d
    induction d with
    | zero =>
      intro i k w h1 h2 h3 h4 h5
      obtain ⟨k, rfl⟩ : ∃ k', k = k' + 1 := ⟨k - 1, by omega⟩
      have : i = N := by omega
      subst this
      rw [stop k w h4, ← h5, List.take_of_length_le (by omega)]
    | succ d ih =>
      intro i k w h1 h2 h3 h4 h5
      obtain ⟨k, rfl⟩ : ∃ k', k = k' + 1 := ⟨k - 1, by omega⟩
      have him : (i + 1) * m ≤ N * m := Nat.mul_le_mul_right m (by omega)
      rw [Nat.add_mul, Nat.one_mul] at him
      have hfi := hf i (by omega)
      rw [step k i w (by omega) h4]
      have hlen : (w.take (i * m) ++ f i ++ w.drop (i * m + m)).length = N * m := by simp; omega
      refine ih (i + 1) k _ (by omega) (by omega) (by omega) hlen ?_
      rw [List.range_succ, List.flatMap_append, ← h5, Nat.add_mul, Nat.one_mul]
      have h6 : (w.take (i * m) ++ f i).length = i * m + m := by simp; omega
      rw [List.take_append_of_le_length (by omega), List.take_of_length_le (by omega)]
      simp
  have := key N 0 k w0 (by omega) (by omega) (by omega) h0 (by simp)
  simpa using this
theorem lowsL_map {b : List Int} {a n : Nat} (hn : n ≤ 16) : ∀ {M : Nat}, a + M * n ≤ 8 * b.length → lowsL b a n M = (List.range M).map fun i => lv b (a + i * n) n
  | 0, _ => rfl
  | M + 1, h => by
    have hm : (M + 1) * n = M * n + n := by rw [Nat.add_mul, Nat.one_mul]
    rw [lowsL, lowsL_map hn (by omega), List.range_succ, List.map_append]
    congr 1
    have e : ((a : Int) + (M : Int) * (n : Int)) = ((a + M * n : Nat) : Int) := by simp
    have hb := lv_bound b (a + M * n) n
    have h2 : (2 : Int) ^ n ≤ 2 ^ 16 := ipow_le hn
    simp only [List.map_cons, List.map_nil]
    rw [e, lowV_lv (by omega) (by omega), w64 (by omega) (by omega)]
theorem Lows_lv {F : Nat} (hF : 66 ≤ F) {b : List Int} (hb : Bytes b) (hl : b.length ≤ 64) {a n m : Nat} (hn : n ≤ 16) (hm : m ≤ 64) (h : a + m * n ≤ 8 * b.length) :
    bits_Lows F b a n m = some ((List.range m).map (fun i => lv b (a + i * n) n), (0, ())) := by
  have hmn : m * n ≤ 64 * 16 := Nat.mul_le_mul hm hn
  have hk := Lows_l1_is hF hb hl (a := a) (n := n) (by omega) (by omega) (M := m) hm F 0 (by omega) (by omega)
  have hr := room_is F (b := b) (by omega) (a := a) (n := IntKind.wrap .i64 ((n : Int) * (m : Int))) (by omega)
  have e : ((n : Int) * (m : Int)) = ((m * n : Nat) : Int) := by rw [Nat.mul_comm]; simp
  rw [e, w64 (by omega) (by omega)] at hr
  have e2 : IntKind.wrap .i64 ((n : Int) * (m : Int)) = ((m * n : Nat) : Int) := by rw [e, w64 (by omega) (by omega)]
  have h0 : (decide (((a : Int) + ((m * n : Nat) : Int) ≤ 8 * (b.length : Int)) ∧ (a : Int) ≤ 8 * (b.length : Int))) = true := by simp only [decide_eq_true_eq]; omega
  unfold bits_Lows
  have c1 : ¬ (a : Int) < 0 := by omega
  have c2 : ¬ (n : Int) < 0 := by omega
  have c3 : ¬ (16 : Int) < (n : Int) := by omega
  have c4 : ¬ (m : Int) < 0 := by omega
  have c5 : ¬ (64 : Int) < (m : Int) := by omega
  simp only [c1, c2, c3, c4, c5, decide_false, cond_false, e2, hr, h0, Option.bind_some, Bool.not_true]
  rw [← lowsL_map hn h]
  simp only [lowsL, Int.natCast_zero] at hk
  rw [hk]
  rfl
theorem mulB' {n t c d : Int} (hn : -c ≤ n ∧ n ≤ c) (ht : 0 ≤ t ∧ t ≤ d) (hc : 0 ≤ c) : -(c * d) ≤ n * t ∧ n * t ≤ c * d := by
  have h1 : n * t ≤ c * t := Int.mul_le_mul_of_nonneg_right hn.2 ht.1
  have h2 : c * t ≤ c * d := Int.mul_le_mul_of_nonneg_left ht.2 hc
  have h3 : -c * t ≤ n * t := Int.mul_le_mul_of_nonneg_right hn.1 ht.1
  have h4 : -c * t = -(c * t) := Int.neg_mul c t
  omega
theorem wrap64_nat {n : Nat} (h : n < 9223372036854775808) : IntKind.wrap .i64 (n : Int) = n := w64 (by omega) (by omega)
theorem iand_mask {x : Int} {b : Nat} (hb : b < 63) : iand .i64 x (2 ^ b - 1) = x % 2 ^ b := by
  have hp : (2 : Nat) ^ b ≤ 2 ^ 62 := Nat.pow_le_pow_right (by decide) (by omega)
  have h62 : (2 : Nat) ^ 62 = 4611686018427387904 := by decide
  have hpos : 0 < 2 ^ b := Nat.pow_pos (by decide : 0 < 2)
  have ep : ((2 ^ b : Nat) : Int) = (2 : Int) ^ b := Int.natCast_pow 2 b
  have e1 : ((2 : Int) ^ b - 1) = ((2 ^ b - 1 : Nat) : Int) := by omega
  have e2 : (BitVec.ofInt 64 ((2 ^ b - 1 : Nat) : Int)).toNat = 2 ^ b - 1 := by
    rw [BitVec.ofInt_natCast, BitVec.toNat_ofNat, Nat.mod_eq_of_lt (by omega)]
  show IntKind.wrap .i64 (((BitVec.ofInt 64 x &&& BitVec.ofInt 64 (2 ^ b - 1)).toNat : Nat) : Int) = _
  rw [e1, BitVec.toNat_and, e2, Nat.and_two_pow_sub_one_eq_mod]
  have h3 : (BitVec.ofInt 64 x).toNat % 2 ^ b < 2 ^ b := Nat.mod_lt _ hpos
  rw [wrap64_nat (by omega)]
  have e4 : ((BitVec.ofInt 64 x).toNat : Int) = x % 2 ^ 64 := by
    rw [BitVec.toNat_ofInt]
    have : 0 ≤ x % (2 ^ 64 : Nat) := Int.emod_nonneg _ (by decide)
    rw [Int.toNat_of_nonneg this]
    rfl
  rw [Int.natCast_emod, e4, ep]
  exact Int.emod_emod_of_dvd x (by
    refine ⟨2 ^ (64 - b), ?_⟩
    rw [← Int.pow_add]
    congr 1
    omega)
end Go.AE.Gn
set_option linter.unusedSimpArgs false
set_option linter.unusedVariables false
namespace Go.AE.Gn
open Go Go.AE
def wideS (b v : Nat) : Int := (List.range 8).foldl (fun o i => 2 * o + (((v / 2 ^ (b - 1 - i % b) % 2 : Nat)) : Int)) 0
theorem wide_closed (n : Nat) : ((List.range 8).all fun b => (List.range (2 ^ (b + 1))).all fun v => level_Wide (n + 10) v ((b + 1 : Nat) : Int) == some (wideS (b + 1) v, ()) && ref03_Wide (n + 10) v ((b + 1 : Nat) : Int) == some (wideS (b + 1) v, ()) && (decide (0 ≤ wideS (b + 1) v) && decide (wideS (b + 1) v ≤ 255))) = true := by kernel_rfl
theorem wide_fact {F : Nat} (hF : 10 ≤ F) {b v : Nat} (hb : 1 ≤ b ∧ b ≤ 8) (hv : v < 2 ^ b) : level_Wide F v b = some (wideS b v, ()) ∧ ref03_Wide F v b = some (wideS b v, ()) ∧ 0 ≤ wideS b v ∧ wideS b v ≤ 255 := by
  obtain ⟨n, rfl⟩ : ∃ n, F = n + 10 := ⟨F - 10, by omega⟩
  obtain ⟨c, rfl⟩ : ∃ c, b = c + 1 := ⟨b - 1, by omega⟩
  have h1 := List.all_eq_true.1 (wide_closed n) c (by simp; omega)
  have h2 := List.all_eq_true.1 h1 v (by simpa using hv)
  simp only [Bool.and_eq_true, beq_iff_eq, decide_eq_true_eq] at h2
  exact ⟨h2.1.1, h2.1.2, h2.2⟩
def wideV (b : Nat) (x : Int) : Int := wideS b (x % 2 ^ b).toNat
theorem emod_nat {x : Int} {b : Nat} : ∃ v : Nat, x % 2 ^ b = v ∧ v < 2 ^ b ∧ (x % 2 ^ b).toNat = v := by
  have hp := powPos b
  have ep : ((2 ^ b : Nat) : Int) = (2 : Int) ^ b := Int.natCast_pow 2 b
  have h1 := Int.emod_nonneg x (Int.ne_of_gt hp)
  have h2 := Int.emod_lt_of_pos x hp
  obtain ⟨v, hv⟩ := Int.eq_ofNat_of_zero_le h1
  exact ⟨v, hv, by omega, by rw [hv]; rfl⟩
theorem wideV_bound {b : Nat} (hb : 1 ≤ b ∧ b ≤ 8) (x : Int) : 0 ≤ wideV b x ∧ wideV b x ≤ 255 := by
  obtain ⟨v, h1, h2, h3⟩ := emod_nat (x := x) (b := b)
  unfold wideV
  rw [h3]
  exact (wide_fact (Nat.le_refl _) hb h2).2.2
theorem ishl_one {b : Nat} (hb : b ≤ 62) : ishl .i64 1 (b : Int) = 2 ^ b := by
  have hp : (2 : Nat) ^ b ≤ 2 ^ 62 := Nat.pow_le_pow_right (by decide) hb
  have h62 : (2 : Nat) ^ 62 = 4611686018427387904 := by decide
  have ep : ((2 ^ b : Nat) : Int) = (2 : Int) ^ b := Int.natCast_pow 2 b
  unfold ishl
  have : min ((b : Int).toNat) (IntKind.bits .i64) = b := by
    show min ((b : Int).toNat) 64 = b
    simp
    omega
  rw [this, Int.one_mul]
  have hp0 := powPos b
  exact w64 (by omega) (by omega)
theorem Wide_is {F : Nat} (hF : 10 ≤ F) {b : Nat} (hb : 1 ≤ b ∧ b ≤ 8) (x : Int) : level_Wide F x b = some (wideV b x, ()) := by
  obtain ⟨v, h1, h2, h3⟩ := emod_nat (x := x) (b := b)
  have hpn : (2 : Nat) ^ b ≤ 2 ^ 8 := Nat.pow_le_pow_right (by decide) hb.2
  have ep : ((2 ^ b : Nat) : Int) = (2 : Int) ^ b := Int.natCast_pow 2 b
  have e : ∀ y : Int, y % 2 ^ b = v → level_Wide F y b = level_Wide F v b := by
    intro y hy
    unfold level_Wide
    have hm : ∀ z : Int, iand .i64 z (IntKind.wrap .i64 (ishl .i64 1 (b : Int) - 1)) = z % 2 ^ b := by
      intro z
      rw [ishl_one (by omega), w64 (by omega) (by omega), iand_mask (by omega)]
    rw [hm, hm, hy, Int.emod_eq_of_lt (by omega) (by omega)]
  rw [e x h1]
  unfold wideV
  rw [h3]
  exact (wide_fact hF hb h2).1
theorem rmod_is (F : Nat) {x m : Int} (hm : 0 < m ∧ m ≤ 1000000000) (hx : -9000000000000000000 ≤ x ∧ x ≤ 9000000000000000000) : ref03_mod F x m = some (x % m, ()) := by
  unfold ref03_mod
  have h0 : (!(m == (0 : Int))) = true := by simp; omega
  have h1 := Int.emod_nonneg x (show m ≠ 0 by omega)
  have h2 := Int.emod_lt_of_pos x hm.1
  rw [h0]
  simp only [cond_true]
  by_cases hn : x.tmod m < 0
  · have e : x.tmod m = x % m - m := by
      have hx0 : ¬ 0 ≤ x := fun h => by rw [tmod_nonneg h] at hn; omega
      have h3 := Int.tmod_add_mul_tdiv x m
      have h4 : -m < x.tmod m := by
        have := Int.tmod_lt_of_pos (-x) hm.1
        rw [Int.neg_tmod] at this
        omega
      have h5 : (x.tmod m + m) % m = x % m := by
        rw [Int.add_emod_right]
        conv => rhs; rw [← h3]
        rw [Int.add_mul_emod_self_left]
      rw [Int.emod_eq_of_lt (by omega) (by omega)] at h5
      omega
    simp only [hn, decide_true, cond_true]
    rw [e, w64 (by omega) (by omega)]
    congr 2
    omega
  · have e : x.tmod m = x % m := by
      by_cases hx0 : 0 ≤ x
      · exact tmod_nonneg hx0
      · have h3 := Int.tmod_add_mul_tdiv x m
        have h4 : x.tmod m ≤ 0 := by
          have := Int.tmod_nonneg m (show 0 ≤ -x by omega)
          rw [Int.neg_tmod] at this
          omega
        have h5 : x.tmod m = 0 := by omega
        rw [h5] at h3 ⊢
        rw [← h3]
        simp
    simp only [hn, decide_false, cond_false]
    rw [e]
theorem rpower_closed (n : Nat) : ((List.range 9).all fun b => ref03_power (n + 10) b == some (2 ^ b, ())) = true := by kernel_rfl
theorem rpower_is {F : Nat} (hF : 10 ≤ F) {b : Nat} (hb : b ≤ 8) : ref03_power F b = some (2 ^ b, ()) := by
  obtain ⟨n, rfl⟩ : ∃ n, F = n + 10 := ⟨F - 10, by omega⟩
  have := List.all_eq_true.1 (rpower_closed n) b (by simp; omega)
  simpa using this
theorem rWide_is {F : Nat} (hF : 10 ≤ F) {b : Nat} (hb : 1 ≤ b ∧ b ≤ 8) {x : Int} (hx : -9000000000000000000 ≤ x ∧ x ≤ 9000000000000000000) : ref03_Wide F x b = some (wideV b x, ()) := by
  obtain ⟨v, h1, h2, h3⟩ := emod_nat (x := x) (b := b)
  have hpn : (2 : Nat) ^ b ≤ 2 ^ 8 := Nat.pow_le_pow_right (by decide) hb.2
  have ep : ((2 ^ b : Nat) : Int) = (2 : Int) ^ b := Int.natCast_pow 2 b
  have hp := powPos b
  have e : ref03_Wide F x b = ref03_Wide F v b := by
    unfold ref03_Wide
    rw [rpower_is hF hb.2]
    simp only [Option.bind_some]
    rw [rmod_is F ⟨hp, by omega⟩ hx, rmod_is F ⟨hp, by omega⟩ ⟨by omega, by omega⟩, h1, Int.emod_eq_of_lt (by omega) (by omega)]
  rw [e]
  unfold wideV
  rw [h3]
  exact (wide_fact hF hb h2).2.1
def mixV (a b k o add : Int) : Int := (a * (o - k) + b * k + add) / o
theorem tdiv_floor {x m : Int} (hm : 0 < m) : x.tdiv m = if x.tmod m < 0 then x / m + 1 else x / m := by
  have h3 := Int.tmod_add_mul_tdiv x m
  have h6 := Int.emod_add_mul_ediv x m
  have h1 := Int.emod_nonneg x (show m ≠ 0 by omega)
  have h2 := Int.emod_lt_of_pos x hm
  have h4 : -m < x.tmod m := by
    have := Int.tmod_lt_of_pos (-x) hm
    rw [Int.neg_tmod] at this
    omega
  have h5 := Int.tmod_lt_of_pos x hm
  split
  · rename_i hn
    have h7 : m * (x.tdiv m - (x / m + 1)) = x % m - m - x.tmod m := by rw [Int.mul_sub, Int.mul_add]; omega
    have h8 : -1 < x.tdiv m - (x / m + 1) ∧ x.tdiv m - (x / m + 1) < 1 := by
      constructor
      · apply Classical.byContradiction
        intro hc
        have : m * (x.tdiv m - (x / m + 1)) ≤ m * (-1) := Int.mul_le_mul_of_nonneg_left (by omega) (by omega)
        omega
      · apply Classical.byContradiction
        intro hc
        have : m * 1 ≤ m * (x.tdiv m - (x / m + 1)) := Int.mul_le_mul_of_nonneg_left (by omega) (by omega)
        omega
    omega
  · rename_i hn
    have h7 : m * (x.tdiv m - x / m) = x % m - x.tmod m := by rw [Int.mul_sub]; omega
    have h8 : -1 < x.tdiv m - x / m ∧ x.tdiv m - x / m < 1 := by
      constructor
      · apply Classical.byContradiction
        intro hc
        have : m * (x.tdiv m - x / m) ≤ m * (-1) := Int.mul_le_mul_of_nonneg_left (by omega) (by omega)
        omega
      · apply Classical.byContradiction
        intro hc
        have : m * 1 ≤ m * (x.tdiv m - x / m) := Int.mul_le_mul_of_nonneg_left (by omega) (by omega)
        omega
    omega
theorem Mix_is (F : Nat) {a b k o add : Int} (ha : -4096 ≤ a ∧ a ≤ 4096) (hb : -4096 ≤ b ∧ b ≤ 4096) (hk : 0 ≤ k ∧ k ≤ 4096) (ho : 1 ≤ o ∧ o ≤ 4096) (hko : 0 ≤ o - k) (hadd : -4096 ≤ add ∧ add ≤ 4096) :
    level_Mix F a b k o add = some (mixV a b k o add, ()) ∧ ref03_Mix F a b k o add = some (mixV a b k o add, ()) ∧ -100000000 ≤ mixV a b k o add ∧ mixV a b k o add ≤ 100000000 := by
  have m1 := mulB' (c := 4096) (d := 4096) ha ⟨hko, by omega⟩ (by decide)
  have m2 := mulB' (c := 4096) (d := 4096) hb hk (by decide)
  have e1 : IntKind.wrap .i64 (o - k) = o - k := w64 (by omega) (by omega)
  have e2 : IntKind.wrap .i64 (a * (o - k)) = a * (o - k) := w64 (by omega) (by omega)
  have e3 : IntKind.wrap .i64 (b * k) = b * k := w64 (by omega) (by omega)
  have e4 : IntKind.wrap .i64 (a * (o - k) + b * k) = a * (o - k) + b * k := w64 (by omega) (by omega)
  have e5 : IntKind.wrap .i64 (a * (o - k) + b * k + add) = a * (o - k) + b * k + add := w64 (by omega) (by omega)
  have hno : (!(o == (0 : Int))) = true := by simp; omega
  have h1 : ¬ o < 1 := by omega
  unfold level_Mix ref03_Mix mixV
  simp only [h1, decide_false, cond_false, e1, e2, e3, e4, e5, hno, cond_true]
  generalize hx : a * (o - k) + b * k + add = x at *
  have hxb : -40000000 ≤ x ∧ x ≤ 40000000 := by omega
  have hdiv : -40000001 ≤ x / o ∧ x / o ≤ 40000000 := by
    have h6 := Int.emod_add_mul_ediv x o
    have h7 := Int.emod_nonneg x (show o ≠ 0 by omega)
    have h8 := Int.emod_lt_of_pos x (show 0 < o by omega)
    constructor
    · apply Classical.byContradiction
      intro hc
      have : o * (x / o) ≤ o * (-40000002) := Int.mul_le_mul_of_nonneg_left (by omega) (by omega)
      omega
    · apply Classical.byContradiction
      intro hc
      have : o * 40000001 ≤ o * (x / o) := Int.mul_le_mul_of_nonneg_left (by omega) (by omega)
      omega
  have htd := tdiv_floor (x := x) (m := o) (by omega)
  refine ⟨?_, ?_, by omega, by omega⟩
  · by_cases hn : x.tmod o < 0
    · rw [if_pos hn] at htd
      rw [htd, w64 (x := x / o + 1) (by omega) (by omega), w64 (x := x / o + 1 - 1) (by omega) (by omega)]
      simp [hn]
    · rw [if_neg hn] at htd
      rw [htd, w64 (x := x / o) (by omega) (by omega)]
      simp [hn]
  · rw [rmod_is F ⟨by omega, by omega⟩ ⟨by omega, by omega⟩]
    have h6 := Int.emod_add_mul_ediv x o
    have h7 := Int.emod_nonneg x (show o ≠ 0 by omega)
    have h8 := Int.emod_lt_of_pos x (show 0 < o by omega)
    have e6 : x - x % o = o * (x / o) := by omega
    simp only [Option.bind_some]
    rw [w64 (x := x - x % o) (by omega) (by omega), e6, Int.mul_tdiv_cancel_left _ (show o ≠ 0 by omega), w64 (by omega) (by omega)]
end Go.AE.Gn
set_option linter.unusedSimpArgs false
set_option linter.unusedVariables false
namespace Go.AE.Gn
open Go Go.AE
def fourW (b : List Int) : List Int := (List.range 16).map fun i => lv b (16 + 3 * i) 3
theorem fourW_len (b : List Int) : (fourW b).length = 16 := by simp [fourW]
theorem fourW_get (b : List Int) {i : Nat} (h : i < 16) : (fourW b).getD i 0 = lv b (16 + 3 * i) 3 := getD_range_map _ h
theorem fourW_ok (b : List Int) : ∀ i, i < 16 → 0 ≤ (fourW b).getD i 0 ∧ (fourW b).getD i 0 < 2 ^ 3 := by
  intro i hi
  rw [fourW_get b hi]
  exact lv_bound _ _ _
theorem Parts7_is {F : Nat} (hF : 66 ≤ F) {b : List Int} (hb : Bytes b) (hl : b.length = 8) : bcfour_Parts F b = some (b.getD 0 0, (b.getD 1 0, (fourW b, (0, ())))) := by
  have h := Lows_lv hF hb (by omega) (a := 16) (n := 3) (m := 16) (by decide) (by decide) (by omega)
  have e : ((List.range 16).map fun i => lv b (16 + i * 3) 3) = fourW b := by
    unfold fourW
    refine List.map_congr_left fun i _ => ?_
    rw [Nat.mul_comm]
  rw [e] at h
  simp only [Int.cast_ofNat_Int] at h
  unfold bcfour_Parts
  simp only [hl, h, Option.bind_some, fourW_len]
  have e2 : (List.take 16 (fourW b)) = fourW b := List.take_of_length_le (by rw [fourW_len]; omega)
  simp [bcfour_DecodeT229, e2]
def ramp0 (a b : Int) : List Int := if a ≤ b then [a, b, 0, 0, 0, 0, 0, 255] else [a, b, 0, 0, 0, 0, 0, 0]
def rampO (a b : Int) : Int := if a ≤ b then 5 else 7
def rampN (a b : Int) : Nat := if a ≤ b then 4 else 6
def rampL (a b o : Int) (base : List Int) : Nat → List Int
  | 0 => base
  | i + 1 => (rampL a b o base i).set (i + 2) (mixV a b ((i : Int) + 1) o 0)
theorem Ramp_l0_is {F : Nat} {a b : Int} (ha : 0 ≤ a ∧ a ≤ 255) (hb : 0 ≤ b ∧ b ≤ 255) (T base : List Int) {o : Int} (ho : 1 ≤ o ∧ o ≤ 8) {n : Nat} (hn : n ≤ 6) (hno : (n : Int) ≤ o) : ∀ (k i : Nat), i ≤ n → n - i < k →
    bcfour_Ramp_l0 F k a b T (rampL a b o base i) o n i = some (T, (rampL a b o base n, ()))
  | 0, i, _, h => by omega
  | k + 1, i, hi, hk => by
    unfold bcfour_Ramp_l0 bcfour_Ramp_l0S
    by_cases h : i < n
    · have h1 : (i : Int) < n := by omega
      have ih := Ramp_l0_is (F := F) ha hb T base ho hn hno k (i + 1) (by omega) (by omega)
      have m := (Mix_is F (a := a) (b := b) (k := (i : Int) + 1) (o := o) (add := 0) (by omega) (by omega) (by omega) (by omega) (by omega) (by decide)).1
      have e2 : IntKind.wrap .i64 ((i : Int) + 2) = ((i + 2 : Nat) : Int) := by rw [w64 (by omega) (by omega)]; omega
      have h2 : ((i + 2 : Nat) : Int) < 8 := by omega
      have e1 : IntKind.wrap .i64 ((i : Int) + 1) = (i : Int) + 1 := w64 (by omega) (by omega)
      simp only [h1, decide_true, cond_true, e1, m, e2, h2, Option.bind_some, Int.natCast_nonneg, Bool.and_self, Int.toNat_natCast]
      have e3 : ((i : Int) + 1) = ((i + 1 : Nat) : Int) := by omega
      rw [rampL] at ih
      rw [e3] at ih ⊢
      exact ih
    · have : i = n := by omega
      subst this
      simp
def ramp7 (a b : Int) : List Int := rampL a b (rampO a b) (ramp0 a b) (rampN a b)
theorem Ramp_is {F : Nat} (hF : 66 ≤ F) {a b : Int} (ha : 0 ≤ a ∧ a ≤ 255) (hb : 0 ≤ b ∧ b ≤ 255) : bcfour_Ramp F a b = some (ramp7 a b, ()) := by
  unfold bcfour_Ramp ramp7 rampO rampN ramp0
  by_cases h : a ≤ b
  · have e := Ramp_l0_is (F := F) ha hb bcfour_joinedT53 [a, b, 0, 0, 0, 0, 0, 255] (o := 5) (by decide) (n := 4) (by decide) (by decide) F 0 (by decide) (by omega)
    simp only [rampL, Int.cast_ofNat_Int, Int.natCast_zero] at e
    simp only [h, decide_true, cond_true, if_true, rampL, e, Option.bind_some, and_self]
    rfl
  · have e := Ramp_l0_is (F := F) ha hb bcfour_joinedT53 [a, b, 0, 0, 0, 0, 0, 0] (o := 7) (by decide) (n := 6) (by decide) (by decide) F 0 (by decide) (by omega)
    simp only [rampL, Int.cast_ofNat_Int, Int.natCast_zero] at e
    simp only [h, decide_false, cond_false, if_false, rampL, e, Option.bind_some, and_self, if_true]
    rfl
theorem ramp7_lo {a b : Int} (h : a ≤ b) : ramp7 a b = [a, b, mixV a b 1 5 0, mixV a b 2 5 0, mixV a b 3 5 0, mixV a b 4 5 0, 0, 255] := by
  unfold ramp7 rampO rampN ramp0
  simp only [h, if_true]
  rfl
theorem ramp7_hi {a b : Int} (h : ¬ a ≤ b) : ramp7 a b = [a, b, mixV a b 1 7 0, mixV a b 2 7 0, mixV a b 3 7 0, mixV a b 4 7 0, mixV a b 5 7 0, mixV a b 6 7 0] := by
  unfold ramp7 rampO rampN ramp0
  simp only [h, if_false]
  rfl
def fourD (b : List Int) : List Int := (List.range 16).map fun i => (ramp7 (b.getD 0 0) (b.getD 1 0)).getD ((fourW b).getD i 0).toNat 0
theorem Decode7_is {F : Nat} (hF : 66 ≤ F) {b : List Int} (hb : Bytes b) (hl : b.length = 8) : bcfour_Decode F b = some (fourD b, (0, ())) := by
  have loop : ∀ T : List Int, bcfour_Decode_l0 F F T (fourW b) (ramp7 (b.getD 0 0) (b.getD 1 0)) (fourW b) 0 = some (T, (fourD b, ())) := by
    intro T
    refine fill_loop 16 (fun i => (ramp7 (b.getD 0 0) (b.getD 1 0)).getD ((fourW b).getD i 0).toNat 0) (fun k w i => bcfour_Decode_l0 F k T w (ramp7 (b.getD 0 0) (b.getD 1 0)) (fourW b) i) (fun w => some (T, (w, ()))) ?_ ?_ _ (fourW_len b) F (by omega)
    · intro k i w hi hw
      show bcfour_Decode_l0S F (bcfour_Decode_l0 F k) T w (ramp7 (b.getD 0 0) (b.getD 1 0)) (fourW b) i = _
      unfold bcfour_Decode_l0S
      have h1 : (i : Int) < 16 := by omega
      have h2 := fourW_ok b i hi
      have h3 : (fourW b).getD i 0 < 8 := by omega
      simp only [h1, decide_true, cond_true, Int.natCast_nonneg, Bool.and_self, Int.toNat_natCast, h2.1, h3, nextI (show i < 1000000000000 by omega)]
    · intro k w hw
      show bcfour_Decode_l0S F (bcfour_Decode_l0 F k) T w (ramp7 (b.getD 0 0) (b.getD 1 0)) (fourW b) 16 = _
      unfold bcfour_Decode_l0S
      simp
  unfold bcfour_Decode
  rw [Parts7_is hF hb hl]
  simp only [Option.bind_some, and_self, if_true, bne_self_eq_false, cond_false, Ramp_is hF (hb.getD 0) (hb.getD 1), loop]
def fours (b : List Int) : List Int := (List.range 16).map fun i => wideV 4 (lv b (4 * i) 4)
def nibs (b : List Int) : List Int := (List.range 16).map fun i => lv b (4 * i) 4
theorem Fours_is {F : Nat} (hF : 66 ≤ F) {b : List Int} (hb : Bytes b) (hl : b.length = 8) : bcfour_Fours F b = some (fours b, (0, ())) := by
  have h := Lows_lv hF hb (by omega) (a := 0) (n := 4) (m := 16) (by decide) (by decide) (by omega)
  have e : ((List.range 16).map fun i => lv b (0 + i * 4) 4) = nibs b := by
    unfold nibs
    refine List.map_congr_left fun i _ => ?_
    rw [Nat.mul_comm, Nat.zero_add]
  rw [e] at h
  simp only [Int.cast_ofNat_Int, Int.natCast_zero] at h
  have hnl : (nibs b).length = 16 := by simp [nibs]
  have loop : ∀ T : List Int, bcfour_Fours_l0 F F T bcfour_DecodeT229 (nibs b) 0 = some (T, (fours b, ())) := by
    intro T
    refine fill_loop 16 (fun i => wideV 4 (lv b (4 * i) 4)) (fun k w i => bcfour_Fours_l0 F k T w (nibs b) i) (fun w => some (T, (w, ()))) ?_ ?_ _ rfl F (by omega)
    · intro k i w hi hw
      show bcfour_Fours_l0S F (bcfour_Fours_l0 F k) T w (nibs b) i = _
      unfold bcfour_Fours_l0S
      have h1 : (i : Int) < 16 := by omega
      have g : (nibs b).getD i 0 = lv b (4 * i) 4 := getD_range_map _ hi
      have wd := Wide_is (F := F) (by omega) (b := 4) (by decide) (lv b (4 * i) 4)
      simp only [Int.cast_ofNat_Int] at wd
      simp only [h1, decide_true, cond_true, hnl, Int.natCast_nonneg, Int.cast_ofNat_Int, Bool.and_self, Int.toNat_natCast, g, wd, Option.bind_some, nextI (show i < 1000000000000 by omega)]
    · intro k w hw
      show bcfour_Fours_l0S F (bcfour_Fours_l0 F k) T w (nibs b) 16 = _
      unfold bcfour_Fours_l0S
      simp
  unfold bcfour_Fours
  simp [hl, h, loop]
def okW (each : Nat) (w : List Int) (j : Nat) : Prop := 0 ≤ w.getD j 0 ∧ w.getD j 0 < 2 ^ each
end Go.AE.Gn
set_option linter.unusedSimpArgs false
set_option linter.unusedVariables false
namespace Go.AE.Gn
open Go Go.AE
theorem ishr64' {x : Int} {k : Nat} (hk : k ≤ 63) : ishr .i64 x (k : Int) = x / 2 ^ k := by
  unfold ishr
  have : min ((k : Int).toNat) (IntKind.bits .i64) = k := by
    show min ((k : Int).toNat) 64 = k
    simp
    omega
  rw [this, Int.fdiv_eq_ediv_of_nonneg _ (Int.le_of_lt (powPos k))]
theorem chunk_get (P l Q : List Int) {n j : Nat} (hn : P.length = n) (hj : j < l.length) : (P ++ l ++ Q).getD (n + j) 0 = l.getD j 0 := by
  subst hn
  simp only [List.getD_eq_getElem?_getD]
  rw [List.getElem?_append_left (by simp; omega), List.getElem?_append_right (by omega), Nat.add_sub_cancel_left]
theorem chunk_set (P l Q : List Int) {n j : Nat} (hn : P.length = n) (hj : j < l.length) (v : Int) : (P ++ l ++ Q).set (n + j) v = P ++ l.set j v ++ Q := by
  subst hn
  rw [List.set_append_left _ _ (by simp; omega), List.set_append_right _ _ (by omega), Nat.add_sub_cancel_left]
theorem tmod_fix {x m : Int} (hm : 0 < m) : (if x.tmod m < 0 then x.tmod m + m else x.tmod m) = x % m := by
  have h3 := Int.tmod_add_mul_tdiv x m
  have h1 := Int.emod_nonneg x (show m ≠ 0 by omega)
  have h2 := Int.emod_lt_of_pos x hm
  have h6 := Int.emod_add_mul_ediv x m
  have h4 : -m < x.tmod m := by
    have := Int.tmod_lt_of_pos (-x) hm
    rw [Int.neg_tmod] at this
    omega
  have h5 := Int.tmod_lt_of_pos x hm
  split
  · rename_i hn
    have h5 : (x.tmod m + m) % m = x % m := by
      rw [Int.add_emod_right]
      conv => rhs; rw [← h3]
      rw [Int.add_mul_emod_self_left]
    rw [Int.emod_eq_of_lt (by omega) (by omega)] at h5
    exact h5
  · rename_i hn
    have h7 : x.tmod m % m = x % m := by
      conv => rhs; rw [← h3]
      rw [Int.add_mul_emod_self_left]
    rw [Int.emod_eq_of_lt (by omega) (by omega)] at h7
    exact h7
theorem flatMap_part {m : Nat} (f : Nat → List Int) : ∀ {N i : Nat}, (∀ i, i < N → (f i).length = m) → i < N → (((List.range N).flatMap f).drop (i * m)).take m = f i
  | 0, i, _, h => by omega
  | N + 1, i, hf, h => by
    have hlen : ∀ M, M ≤ N + 1 → ((List.range M).flatMap f).length = M * m := by
      intro M
      induction M with
      | zero => intro _; simp
      | succ M ih =>
        intro hM
        rw [List.range_succ, List.flatMap_append, List.length_append, ih (by omega), Nat.add_mul]
        simp [hf M (by omega)]
    rw [List.range_succ, List.flatMap_append]
    have hl := hlen N (by omega)
    by_cases hi : i < N
    · have him : (i + 1) * m ≤ N * m := Nat.mul_le_mul_right m (by omega)
      rw [Nat.add_mul, Nat.one_mul] at him
      rw [List.drop_append_of_le_length (by omega), List.take_append_of_le_length (by rw [List.length_drop, hl]; omega)]
      exact flatMap_part f (fun i h => hf i (by omega)) hi
    · have : i = N := by omega
      subst this
      rw [List.drop_append, List.drop_of_length_le (by omega), List.nil_append, hl, Nat.sub_self]
      simp [← hf i (by omega)]
theorem flatMap_len {m : Nat} (f : Nat → List Int) {N : Nat} (hf : ∀ i, i < N → (f i).length = m) : ((List.range N).flatMap f).length = N * m := by
  induction N with
  | zero => simp
  | succ M ih =>
    rw [List.range_succ, List.flatMap_append, List.length_append, ih (fun i h => hf i (by omega)), Nat.add_mul]
    simp [hf M (by omega)]
def clampV (x : Int) : Int := max 0 (min x 255)
theorem clampV_bound (x : Int) : 0 ≤ clampV x ∧ clampV x ≤ 255 := by unfold clampV; omega
end Go.AE.Gn
set_option linter.unusedSimpArgs false
set_option linter.unusedVariables false
namespace Go.AE.Gn
open Go Go.AE
def tab (N : Nat) (g : Nat → Int) : List Int := (List.range N).map g
theorem tab_len (N : Nat) (g : Nat → Int) : (tab N g).length = N := by simp [tab]
theorem tab_get {N i : Nat} {g : Nat → Int} (h : i < N) : (tab N g).getD i 0 = g i := getD_range_map g h
theorem tab_congr {N : Nat} {g f : Nat → Int} (h : ∀ i, i < N → g i = f i) : tab N g = tab N f := by
  unfold tab
  exact List.map_congr_left fun i hi => h i (by simpa using hi)
theorem tab_set {N k : Nat} {g : Nat → Int} {v : Int} : (tab N g).set k v = tab N (fun j => if j = k then v else g j) := by
  apply List.ext_getElem
  · simp [tab]
  · intro i h1 h2
    simp only [tab, List.getElem_set, List.getElem_map, List.getElem_range]
    by_cases h : k = i
    · simp [h]
    · have : ¬ i = k := fun e => h e.symm
      simp [h, this]
theorem tab_rep (N : Nat) : List.replicate N (0 : Int) = tab N fun _ => 0 := by
  unfold tab
  rw [List.map_const']
  simp
theorem tab_part {N i m : Nat} {g : Nat → Int} (h : i * m + m ≤ N) : List.take m (List.drop (i * m) (tab N g)) = tab m fun c => g (i * m + c) := by
  apply List.ext_getElem
  · simp [tab]
    omega
  · intro j h1 h2
    simp [tab]
theorem tab_all {N : Nat} {l : List Int} (h : l.length = N) : l = tab N fun i => l.getD i 0 := by
  apply List.ext_getElem
  · simp [tab, h]
  · intro i h1 h2
    simp [tab, List.getD_eq_getElem?_getD, h1]
theorem mulS {i E n : Nat} (h : i < E) : (i + 1) * n ≤ E * n := Nat.mul_le_mul_right _ (by omega)
def upT (i : Nat) (g : Nat → Int) (j : Nat) : Int := if j < i then g j else 0
theorem upT_set {N i : Nat} (g : Nat → Int) : (tab N (upT i g)).set i (g i) = tab N (upT (i + 1) g) := by
  rw [tab_set]
  refine tab_congr fun j hj => ?_
  unfold upT
  by_cases h : j = i
  · rw [if_pos h, if_pos (by omega), h]
  · rw [if_neg h]
    by_cases h2 : j < i
    · rw [if_pos h2, if_pos (by omega)]
    · rw [if_neg h2, if_neg (by omega)]
theorem upT_all {N : Nat} (g : Nat → Int) : tab N (upT N g) = tab N g := tab_congr fun j hj => if_pos hj
theorem upT_zero {N : Nat} (g : Nat → Int) : tab N (upT 0 g) = tab N fun _ => 0 := tab_congr fun j hj => if_neg (by omega)
theorem mul4 (i c : Nat) (h : c < 4) : (i * 4 + c) / 4 = i ∧ (i * 4 + c) % 4 = c := by omega
theorem beqT {a b : Int} (h : a = b) : (a == b) = true := by simpa using h
theorem tab_row {N i : Nat} {g h : Nat → Int} (hN : i * 4 + 4 ≤ N) : (List.take (i * 4) (tab N g) ++ tab 4 h) ++ List.drop (i * 4 + 4) (tab N g) = tab N fun j => if j / 4 = i then h (j % 4) else g j := by
  apply List.ext_getElem
  · simp [tab]
    omega
  · intro j h1 h2
    have hj : j < N := by simpa [tab] using h2
    have l1 : (List.take (i * 4) (tab N g)).length = i * 4 := by simp [tab]; omega
    have l2 : (tab 4 h).length = 4 := tab_len _ _
    simp only [List.getElem_append, List.length_append, l1, l2]
    by_cases c1 : j < i * 4 + 4
    · rw [dif_pos c1]
      by_cases c2 : j < i * 4
      · rw [dif_pos c2]
        simp only [tab, List.getElem_take, List.getElem_map, List.getElem_range]
        rw [if_neg (by omega)]
      · rw [dif_neg c2]
        simp only [tab, List.getElem_map, List.getElem_range]
        rw [if_pos (by omega)]
        congr 1
        omega
    · rw [dif_neg c1]
      simp only [tab, List.getElem_drop, List.getElem_map, List.getElem_range]
      rw [if_neg (by omega)]
      congr 1
      omega
def upR (i c : Nat) (g : Nat → Int) (j : Nat) : Int := if j < i * 4 + c then g j else 0
theorem upR_zero {N : Nat} (g : Nat → Int) : tab N (upR 0 0 g) = tab N fun _ => 0 := tab_congr fun j hj => if_neg (by omega)
theorem upR_all {N i : Nat} (g : Nat → Int) (h : N ≤ i * 4) : tab N (upR i 0 g) = tab N g := tab_congr fun j hj => if_pos (by omega)
theorem tab_row_of {l : List Int} {N i : Nat} (hl : l.length = N) (h : i * 4 + 4 ≤ N) : List.take 4 (List.drop (i * 4) l) = tab 4 fun c => l.getD (i * 4 + c) 0 := by
  conv => lhs; rw [tab_all hl]
  exact tab_part h
end Go.AE.Gn
set_option linter.unusedSimpArgs false
set_option linter.unusedVariables false
namespace Go.AE.Gn
open Go Go.AE
def colV (n : Int) : List Int := [wideV 5 (n / 2048), wideV 6 (n / 32), wideV 5 n, 255]
theorem ishr64 {x : Int} {k : Nat} (hk : k ≤ 63) : ishr .i64 x (k : Int) = x / 2 ^ k := by
  unfold ishr
  have : min ((k : Int).toNat) (IntKind.bits .i64) = k := by
    show min ((k : Int).toNat) 64 = k
    simp
    omega
  rw [this, Int.fdiv_eq_ediv_of_nonneg _ (Int.le_of_lt (powPos k))]
theorem Colour_is {F : Nat} (hF : 10 ≤ F) (n : Int) : bcone_Colour F n = some (colV n, ()) := by
  have w5 := fun x => Wide_is (F := F) hF (b := 5) (by decide) x
  have w6 := fun x => Wide_is (F := F) hF (b := 6) (by decide) x
  have s11 := ishr64 (x := n) (k := 11) (by decide)
  have s5 := ishr64 (x := n) (k := 5) (by decide)
  simp only [Int.cast_ofNat_Int] at w5 w6 s11 s5
  unfold bcone_Colour colV
  simp only [s11, s5, w5, w6, Option.bind_some]
  rfl
theorem wideV_mod {b : Nat} {x y : Int} (h : x % 2 ^ b = y % 2 ^ b) : wideV b x = wideV b y := by unfold wideV; rw [h]
theorem rColour_is {F : Nat} (hF : 10 ≤ F) {n : Int} (hn : -9000000000000000000 ≤ n ∧ n ≤ 9223372036854775807 ∨ IntKind.i64.has n) : ref06_Colour F n = some (colV n, ()) := by
  have key : ∀ m : Int, 0 ≤ m → m < 65536 → m = n % 65536 → ((ref03_Wide F (IntKind.wrap .i64 (Int.tdiv m 2048)) 5).bind fun r1 => (ref03_Wide F (IntKind.wrap .i64 (Int.tdiv m 32)) 6).bind fun r2 => (ref03_Wide F m 5).bind fun r3 => some ([r1.1, r2.1, r3.1, (255 : Int)], ())) = some (colV n, ()) := by
    intro m h0 h1 hm
    have w5 := fun x hx => rWide_is (F := F) hF (b := 5) (by decide) (x := x) hx
    have w6 := fun x hx => rWide_is (F := F) hF (b := 6) (by decide) (x := x) hx
    simp only [Int.cast_ofNat_Int] at w5 w6
    rw [tdiv_nonneg h0, tdiv_nonneg h0, w64 (x := m / 2048) (by omega) (by omega), w64 (x := m / 32) (by omega) (by omega), w5 (m / 2048) (by omega), w6 (m / 32) (by omega), w5 m (by omega)]
    simp only [Option.bind_some]
    unfold colV
    rw [wideV_mod (b := 5) (x := m / 2048) (y := n / 2048) (by omega), wideV_mod (b := 6) (x := m / 32) (y := n / 32) (by omega), wideV_mod (b := 5) (x := m) (y := n) (by omega)]
  have ht : n.tmod 65536 = if n.tmod 65536 < 0 then n % 65536 - 65536 else n % 65536 := by
    have h3 := Int.tmod_add_mul_tdiv n 65536
    have h4 : -65536 < n.tmod 65536 := by
      have := Int.tmod_lt_of_pos (-n) (show (0 : Int) < 65536 by decide)
      rw [Int.neg_tmod] at this
      omega
    have h5 := Int.tmod_lt_of_pos n (show (0 : Int) < 65536 by decide)
    split <;> omega
  unfold ref06_Colour
  by_cases hneg : n.tmod 65536 < 0
  · rw [if_pos hneg] at ht
    have e : IntKind.wrap .i64 (n.tmod 65536 + 65536) = n % 65536 := by
      rw [w64 (by omega) (by omega)]
      omega
    simp only [hneg, decide_true, cond_true, e]
    exact key (n % 65536) (by omega) (by omega) rfl
  · rw [if_neg hneg] at ht
    simp only [hneg, decide_false, cond_false]
    rw [ht]
    exact key (n % 65536) (by omega) (by omega) rfl
theorem colV_get {n : Int} {c : Nat} (hc : c < 4) : 0 ≤ (colV n).getD c 0 ∧ (colV n).getD c 0 ≤ 255 := by
  have h1 := wideV_bound (b := 5) (by decide) (n / 2048)
  have h2 := wideV_bound (b := 6) (by decide) (n / 32)
  have h3 := wideV_bound (b := 5) (by decide) n
  unfold colV
  match c with
  | 0 => simpa using h1
  | 1 => simpa using h2
  | 2 => simpa using h3
  | 3 => simp
  | c + 4 => omega
def betw (a b : List Int) (k o : Int) : List Int := [mixV (a.getD 0 0) (b.getD 0 0) k o 0, mixV (a.getD 1 0) (b.getD 1 0) k o 0, mixV (a.getD 2 0) (b.getD 2 0) k o 0, 255]
def Tex (t : List Int) : Prop := t.length = 4 ∧ ∀ c, c < 4 → 0 ≤ t.getD c 0 ∧ t.getD c 0 ≤ 255
theorem colV_tex (n : Int) : Tex (colV n) := ⟨rfl, fun c hc => colV_get hc⟩
theorem between_is {F : Nat} (hF : 10 ≤ F) {a b : List Int} (ha : Tex a) (hb : Tex b) {k o : Int} (hk : 0 ≤ k) (hko : k ≤ o) (ho : 1 ≤ o ∧ o ≤ 8) : bcone_between F a b k o = some (betw a b k o, ()) ∧ ref06_mix F a b k o = some (betw a b k o, ()) := by
  obtain ⟨n, rfl⟩ : ∃ n, F = n + 4 := ⟨F - 4, by omega⟩
  have m : ∀ c, c < 4 → _ := fun c hc => Mix_is (n + 4) (a := a.getD c 0) (b := b.getD c 0) (k := k) (o := o) (add := 0) (by have := ha.2 c hc; omega) (by have := hb.2 c hc; omega) (by omega) (by omega) (by omega) (by decide)
  have m0 := m 0 (by decide)
  have m1 := m 1 (by decide)
  have m2 := m 2 (by decide)
  constructor
  · unfold bcone_between
    have e : bcone_between_l0 (n + 4) (n + 4) k o a b [0, 0, 0, 0] [0, 0, 0, 255] 0 = some ([0, 0, 0, 0], (betw a b k o, ())) := by
      have s : ∀ (j : Nat) (w : List Int) (c : Nat), c < 3 → w.length = 4 → bcone_between_l0 (n + 4) (j + 1) k o a b [0, 0, 0, 0] w c = bcone_between_l0 (n + 4) j k o a b [0, 0, 0, 0] (w.set c (mixV (a.getD c 0) (b.getD c 0) k o 0)) ((c + 1 : Nat) : Int) := by
        intro j w c hc hw
        show bcone_between_l0S (n + 4) (bcone_between_l0 (n + 4) j) k o a b [0, 0, 0, 0] w c = _
        unfold bcone_between_l0S
        have c1 : (c : Int) < 3 := by omega
        have c2 : (c : Int) < 4 := by omega
        simp only [c1, c2, decide_true, cond_true, Int.natCast_nonneg, Bool.and_self, Int.toNat_natCast, (m c (by omega)).1, Option.bind_some, nextI (show c < 1000000000000 by omega)]
      have s0 := s (n + 3) [0, 0, 0, 255] 0 (by decide) rfl
      have s1 := s (n + 2) ([0, 0, 0, 255].set 0 (mixV (a.getD 0 0) (b.getD 0 0) k o 0)) 1 (by decide) rfl
      have s2 := s (n + 1) (([0, 0, 0, 255].set 0 (mixV (a.getD 0 0) (b.getD 0 0) k o 0)).set 1 (mixV (a.getD 1 0) (b.getD 1 0) k o 0)) 2 (by decide) rfl
      simp only [Int.natCast_zero] at s0
      rw [s0, s1, s2]
      rfl
    rw [e]
    rfl
  · unfold ref06_mix
    have e : ref06_mix_l0 (n + 4) (n + 4) k o a b [0, 0, 0, 0] [0, 0, 0, 255] 0 = some ([0, 0, 0, 0], (betw a b k o, ())) := by
      have s : ∀ (j : Nat) (w : List Int) (c : Nat), c < 3 → w.length = 4 → ref06_mix_l0 (n + 4) (j + 1) k o a b [0, 0, 0, 0] w c = ref06_mix_l0 (n + 4) j k o a b [0, 0, 0, 0] (w.set c (mixV (a.getD c 0) (b.getD c 0) k o 0)) ((c + 1 : Nat) : Int) := by
        intro j w c hc hw
        show ref06_mix_l0S (n + 4) (ref06_mix_l0 (n + 4) j) k o a b [0, 0, 0, 0] w c = _
        unfold ref06_mix_l0S
        have c1 : (c : Int) < 3 := by omega
        have c2 : (c : Int) < 4 := by omega
        simp only [c1, c2, decide_true, cond_true, Int.natCast_nonneg, Bool.and_self, Int.toNat_natCast, (m c (by omega)).2.1, Option.bind_some, nextI (show c < 1000000000000 by omega)]
      have s0 := s (n + 3) [0, 0, 0, 255] 0 (by decide) rfl
      have s1 := s (n + 2) ([0, 0, 0, 255].set 0 (mixV (a.getD 0 0) (b.getD 0 0) k o 0)) 1 (by decide) rfl
      have s2 := s (n + 1) (([0, 0, 0, 255].set 0 (mixV (a.getD 0 0) (b.getD 0 0) k o 0)).set 1 (mixV (a.getD 1 0) (b.getD 1 0) k o 0)) 2 (by decide) rfl
      simp only [Int.natCast_zero] at s0
      rw [s0, s1, s2]
      rfl
    rw [e]
    rfl
def palV (a b : Int) (four : Bool) : List Int :=
  if four = true ∨ b < a then colV a ++ (colV b ++ (betw (colV a) (colV b) 1 3 ++ betw (colV a) (colV b) 2 3)) else colV a ++ (colV b ++ (betw (colV a) (colV b) 1 2 ++ [0, 0, 0, 0]))
theorem Palette_is {F : Nat} (hF : 10 ≤ F) {a b : Int} (ha : 0 ≤ a ∧ a ≤ 65535) (hb : 0 ≤ b ∧ b ≤ 65535) (four : Bool) : bcone_Palette F a b four = some (palV a b four, ()) ∧ ref06_Palette F a b four = some (palV a b four, ()) := by
  have m1 := between_is hF (colV_tex a) (colV_tex b) (k := 1) (o := 3) (by decide) (by decide) (by decide)
  have m2 := between_is hF (colV_tex a) (colV_tex b) (k := 2) (o := 3) (by decide) (by decide) (by decide)
  have m3 := between_is hF (colV_tex a) (colV_tex b) (k := 1) (o := 2) (by decide) (by decide) (by decide)
  have r1 := rColour_is hF (n := a) (.inl (by omega))
  have r2 := rColour_is hF (n := b) (.inl (by omega))
  unfold bcone_Palette ref06_Palette palV
  simp only [Colour_is hF, r1, r2, Option.bind_some, and_self, if_true]
  cases four
  · by_cases h : b < a
    · simp [h, m1, m2]
    · simp [h, m3]
  · simp [m1, m2]
def oneW (b : List Int) : List Int := (List.range 16).map fun i => lv b (32 + 2 * i) 2
theorem oneW_len (b : List Int) : (oneW b).length = 16 := by simp [oneW]
theorem oneW_get (b : List Int) {i : Nat} (h : i < 16) : (oneW b).getD i 0 = lv b (32 + 2 * i) 2 := getD_range_map _ h
theorem oneW_ok (b : List Int) : ∀ i, i < 16 → okW 2 (oneW b) i := by
  intro i hi
  unfold okW
  rw [oneW_get b hi]
  exact lv_bound _ _ _
theorem Parts6_is {F : Nat} (hF : 66 ≤ F) {b : List Int} (hb : Bytes b) (hl : b.length = 8) : bcone_Parts F b = some (lv b 0 16, (lv b 16 16, (oneW b, (0, ())))) := by
  have h := Lows_lv hF hb (by omega) (a := 32) (n := 2) (m := 16) (by decide) (by decide) (by omega)
  have h0 := Lows_lv hF hb (by omega) (a := 0) (n := 16) (m := 2) (by decide) (by decide) (by omega)
  have e : ((List.range 16).map fun i => lv b (32 + i * 2) 2) = oneW b := by
    unfold oneW
    refine List.map_congr_left fun i _ => ?_
    rw [Nat.mul_comm]
  have e0 : ((List.range 2).map fun i => lv b (0 + i * 16) 16) = [lv b 0 16, lv b 16 16] := rfl
  rw [e] at h
  rw [e0] at h0
  simp only [Int.cast_ofNat_Int, Int.natCast_zero] at h h0
  unfold bcone_Parts
  simp only [hl, h, h0, Option.bind_some, oneW_len]
  have e2 : (List.take 16 (oneW b)) = oneW b := List.take_of_length_le (by rw [oneW_len]; omega)
  simp [bcone_PartsT205, e2]
theorem lv16 (b : List Int) (a : Nat) : 0 ≤ lv b a 16 ∧ lv b a 16 ≤ 65535 := by
  have := lv_bound b a 16
  omega
def tileV (p w : List Int) : List Int := (List.range 16).flatMap fun i => (p.drop ((w.getD i 0).toNat * 4)).take 4
theorem palV_len (a b : Int) (four : Bool) : (palV a b four).length = 16 := by
  unfold palV
  split <;> rfl
theorem partLen {p : List Int} (hp : p.length = 16) {n : Int} (hn : 0 ≤ n ∧ n < 4) : ((p.drop (n.toNat * 4)).take 4).length = 4 := by
  simp
  omega
theorem Decode6_is {F : Nat} (hF : 66 ≤ F) {b : List Int} (hb : Bytes b) (hl : b.length = 8) (four : Bool) : bcone_Decode F b four = some (tileV (palV (lv b 0 16) (lv b 16 16) four) (oneW b), (0, ())) := by
  have hpl := palV_len (lv b 0 16) (lv b 16 16) four
  have pal := (Palette_is (F := F) (by omega) (lv16 b 0) (lv16 b 16) four).1
  generalize palV (lv b 0 16) (lv b 16 16) four = p at *
  have loop : ∀ T : List Int, bcone_Decode_l0 F F T bcone_DecodeT203 p (oneW b) 0 = some (T, (tileV p (oneW b), ())) := by
    intro T
    refine fill_parts 16 4 (fun i => (p.drop (((oneW b).getD i 0).toNat * 4)).take 4) (fun i hi => partLen hpl (by have := oneW_ok b i hi; unfold okW at this; omega)) (fun k w i => bcone_Decode_l0 F k T w p (oneW b) i) (fun w => some (T, (w, ()))) ?_ ?_ _ rfl F (by omega)
    · intro k i w hi hw
      show bcone_Decode_l0S F (bcone_Decode_l0 F k) T w p (oneW b) i = _
      unfold bcone_Decode_l0S
      have h1 : (i : Int) < 16 := by omega
      have h2 := oneW_ok b i hi
      unfold okW at h2
      have h3 : (oneW b).getD i 0 < 4 := by omega
      simp only [h1, decide_true, cond_true, Int.natCast_nonneg, Bool.and_self, Int.toNat_natCast, h2.1, h3, nextI (show i < 1000000000000 by omega)]
    · intro k w hw
      show bcone_Decode_l0S F (bcone_Decode_l0 F k) T w p (oneW b) 16 = _
      unfold bcone_Decode_l0S
      simp
  unfold bcone_Decode
  rw [Parts6_is hF hb hl]
  simp only [Option.bind_some, and_self, if_true, bne_self_eq_false, cond_false, pal, loop]
end Go.AE.Gn
set_option linter.unusedVariables false
set_option linter.unusedSimpArgs false
namespace Go.AE.Gn
open Go
theorem flat_part {m : Nat} (f : Nat → List Int) : ∀ (N : Nat), (∀ i, i < N → (f i).length = m) → ((List.range N).flatMap f).length = N * m ∧ ∀ i, i < N → (((List.range N).flatMap f).drop (i * m)).take m = f i
  | 0, _ => ⟨by simp, fun i h => absurd h (by omega)⟩
  | N + 1, hf => by
    obtain ⟨h1, h2⟩ := flat_part f N fun i hi => hf i (by omega)
    have h3 := hf N (by omega)
    rw [List.range_succ, List.flatMap_append]
    constructor
    · rw [List.length_append, h1, Nat.add_mul]; simp [h3]
    · intro i hi
      rcases Nat.lt_or_ge i N with h | h
      · have him : (i + 1) * m ≤ N * m := Nat.mul_le_mul_right m (by omega)
        rw [Nat.add_mul, Nat.one_mul] at him
        rw [List.drop_append_of_le_length (by omega), List.take_append_of_le_length (by rw [List.length_drop]; omega)]
        exact h2 i h
      · have : i = N := by omega
        subst this
        rw [List.drop_append, h1, Nat.sub_self, List.drop_of_length_le (by omega)]
        simp [← h3]
def palE (p : List Int) (n : Nat) : List Int := (p.drop (n * 4)).take 4
theorem tile_part {p w : List Int} (hp : p.length = 16) (hw : ∀ i, i < 16 → okW 2 w i) {i : Nat} (hi : i < 16) : ((tileV p w).drop (i * 4)).take 4 = palE p (w.getD i 0).toNat :=
  (flat_part (fun i => (p.drop ((w.getD i 0).toNat * 4)).take 4) 16 (fun i hi => partLen hp (by have := hw i hi; unfold okW at this; omega))).2 i hi
theorem mix_between {a b k o : Int} (hk : 0 ≤ k ∧ k ≤ o) (ho : 1 ≤ o) : min a b ≤ mixV a b k o 0 ∧ mixV a b k o 0 ≤ max a b := by
  unfold mixV
  rw [Int.add_zero]
  have e1 : ∀ m : Int, m * (o - k) + m * k = m * o := fun m => by rw [← Int.mul_add]; congr 1; omega
  constructor
  · rw [Int.le_ediv_iff_mul_le (by omega), ← e1]
    exact Int.add_le_add (Int.mul_le_mul_of_nonneg_right (by omega) (by omega)) (Int.mul_le_mul_of_nonneg_right (by omega) (by omega))
  · have h : a * (o - k) + b * k ≤ max a b * o := by
      rw [← e1]
      exact Int.add_le_add (Int.mul_le_mul_of_nonneg_right (by omega) (by omega)) (Int.mul_le_mul_of_nonneg_right (by omega) (by omega))
    have := Int.ediv_le_ediv (show (0 : Int) < o by omega) h
    rwa [Int.mul_ediv_cancel _ (by omega)] at this
end Go.AE.Gn
set_option linter.unusedVariables false
set_option linter.unusedSimpArgs false
namespace Go.AE.Gn
open Go Go.AE
structure BM where
  P : Nat
  W : Nat
  T : Nat
  H : Nat
  C : Nat
  A : Nat
  e : Nat
  o : Nat
  f : Nat
  s : Nat
  base : Nat
def bmOf (k : Nat) : BM :=
  let g := fun i => (bctable_ModesT298.getD (k * 10 + i) 0).toNat
  ⟨g 0, g 1, g 2, g 3, g 4, g 5, g 6, g 7, g 8, g 9, k + 1⟩
structure BM.Ok (m : BM) : Prop where
  P1 : 1 ≤ m.P
  P3 : m.P ≤ 3
  W6 : m.W ≤ 6
  T2 : m.T ≤ 2
  H1 : m.H ≤ 1
  C1 : 1 ≤ m.C
  C7 : m.C ≤ 7
  A8 : m.A ≤ 8
  e1 : m.e ≤ 1
  o1 : m.o ≤ 1
  eo : m.e + m.o ≤ 1
  Ce : m.C + m.e + m.o ≤ 8
  Ae : m.A + m.e + m.o ≤ 8
  f2 : 2 ≤ m.f
  f4 : m.f ≤ 4
  s3 : m.s ≤ 3
  s0 : m.s = 0 ∨ 2 ≤ m.s
  Hs : m.s = 0 → m.H = 0
  b8 : m.base ≤ 8
  all : m.base + m.W + m.T + m.H + 6 * m.P * m.C + 2 * m.P * m.A + 2 * m.P * m.e + m.P * m.o + (16 * m.f - m.P) + (if m.s = 0 then 0 else 16 * m.s - 1) ≤ 128
def BM.okB (m : BM) : Bool := decide (1 ≤ m.P) && (decide (m.P ≤ 3) && (decide (m.W ≤ 6) && (decide (m.T ≤ 2) && (decide (m.H ≤ 1) && (decide (1 ≤ m.C) && (decide (m.C ≤ 7) && (decide (m.A ≤ 8) && (decide (m.e ≤ 1) && (decide (m.o ≤ 1) && (decide (m.e + m.o ≤ 1) && (decide (m.C + m.e + m.o ≤ 8) && (decide (m.A + m.e + m.o ≤ 8) && (decide (2 ≤ m.f) && (decide (m.f ≤ 4) && (decide (m.s ≤ 3) && (decide (m.s = 0 ∨ 2 ≤ m.s) && (decide (m.s = 0 → m.H = 0) && (decide (m.base ≤ 8) && decide (m.base + m.W + m.T + m.H + 6 * m.P * m.C + 2 * m.P * m.A + 2 * m.P * m.e + m.P * m.o + (16 * m.f - m.P) + (if m.s = 0 then 0 else 16 * m.s - 1) ≤ 128)))))))))))))))))))
theorem BM.okB_ok {m : BM} (h : m.okB = true) : m.Ok := by
  simp only [BM.okB, Bool.and_eq_true, decide_eq_true_eq] at h
  obtain ⟨h1, h2, h3, h4, h5, h6, h7, h8, h9, h10, h11, h12, h13, h14, h15, h16, h17, h18, h19, h20⟩ := h
  exact ⟨h1, h2, h3, h4, h5, h6, h7, h8, h9, h10, h11, h12, h13, h14, h15, h16, h17, h18, h19, h20⟩
theorem bm_closed : ((List.range 8).all fun k => (bmOf k).okB) = true := by decide +kernel
theorem bm_ok {k : Nat} (h : k < 8) : (bmOf k).Ok := BM.okB_ok (List.all_eq_true.1 bm_closed k (by simpa using h))
def bmRow (m : BM) : List Int := [m.P, m.W, m.T, m.H, m.C, m.A, m.e, m.o, m.f, m.s]
theorem row_closed : ((List.range 8).all fun k => List.take 10 (List.drop (k * 10) bctable_ModesT298) == bmRow (bmOf k)) = true := by decide +kernel
theorem row_is {k : Nat} (h : k < 8) : List.take 10 (List.drop (k * 10) bctable_ModesT298) = bmRow (bmOf k) := by
  simpa using List.all_eq_true.1 row_closed k (by simpa using h)
def numOf (x : Option (Int × Unit)) : Int := match x with
  | some (n, _) => n
  | none => 0
def partV (P : Nat) (w i : Nat) : Nat := (numOf (ref08_Part 600 P w i)).toNat
def anchV (P : Nat) (w p : Nat) : Nat := (numOf (ref08_Anchor 600 P w p)).toNat
theorem part9_closed : ((List.range 3).all fun p => (List.range 64).all fun w => (List.range 16).all fun i =>
    (bctable_Part 600 ((p + 1 : Nat) : Int) w i == some ((partV (p + 1) w i : Int), ())) && ((ref08_Part 600 ((p + 1 : Nat) : Int) w i == some ((partV (p + 1) w i : Int), ())) && decide (partV (p + 1) w i < p + 1))) = true := by kernel_rfl
theorem part9 {P w i : Nat} (h1 : 1 ≤ P) (h3 : P ≤ 3) (hw : w < 64) (hi : i < 16) :
    bctable_Part 600 P w i = some ((partV P w i : Int), ()) ∧ ref08_Part 600 P w i = some ((partV P w i : Int), ()) ∧ partV P w i < P := by
  obtain ⟨p, rfl⟩ : ∃ p, P = p + 1 := ⟨P - 1, by omega⟩
  have := List.all_eq_true.1 (List.all_eq_true.1 (List.all_eq_true.1 part9_closed p (by simp; omega)) w (by simpa using hw)) i (by simpa using hi)
  simpa using this
theorem anch9_closed : ((List.range 4).all fun P => (List.range P).all fun p => decide (p = 0) || (List.range 64).all fun w =>
    (bctable_Anchor 600 (P : Int) w p == some ((anchV P w p : Int), ())) && (ref08_Anchor 600 (P : Int) w p == some ((anchV P w p : Int), ()))) = true := by kernel_rfl
theorem anch9 {P w p : Nat} (h3 : P ≤ 3) (hw : w < 64) (hp : 1 ≤ p) (hp2 : p < P) :
    bctable_Anchor 600 P w p = some ((anchV P w p : Int), ()) ∧ ref08_Anchor 600 P w p = some ((anchV P w p : Int), ()) := by
  have := List.all_eq_true.1 (List.all_eq_true.1 anch9_closed P (by simp; omega)) p (by simpa using hp2)
  rcases Bool.or_eq_true_iff.1 this with h | h
  · simp at h
    omega
  · simpa using List.all_eq_true.1 h w (by simpa using hw)
def ancB (P w i : Nat) : Bool := (i == 0) || ((List.range P).any fun p => decide (1 ≤ p) && (anchV P w p == i))
def lessV (P w i : Nat) : Nat := if ancB P w i then 1 else 0
def posF (P w f : Nat) (p2 : Nat) : Nat → Nat
  | 0 => p2
  | i + 1 => posF P w f p2 i + (f - lessV P w i)
theorem lessV_le (P w i : Nat) : lessV P w i ≤ 1 := by unfold lessV; split <;> omega
theorem posF_mono (P w f p2 : Nat) : ∀ {i j : Nat}, i ≤ j → posF P w f p2 i ≤ posF P w f p2 j := by
  intro i j h
  induction h with
  | refl => exact Nat.le_refl _
  | step h ih => exact Nat.le_trans ih (by simp only [posF]; omega)
theorem posF_add (P w f p2 : Nat) : ∀ i, posF P w f p2 i = p2 + posF P w f 0 i
  | 0 => by simp [posF]
  | i + 1 => by simp only [posF]; rw [posF_add P w f p2 i]; omega
theorem posF_closed : ((List.range 3).all fun P => (List.range 64).all fun w => (List.range 3).all fun f => posF (P + 1) w (f + 2) 0 16 == 16 * (f + 2) - (P + 1)) = true := by kernel_rfl
theorem posF_16 {P w f : Nat} (h1 : 1 ≤ P) (h3 : P ≤ 3) (hw : w < 64) (h2 : 2 ≤ f) (h4 : f ≤ 4) (p2 : Nat) : posF P w f p2 16 = p2 + (16 * f - P) := by
  rw [posF_add]
  obtain ⟨p, rfl⟩ : ∃ p, P = p + 1 := ⟨P - 1, by omega⟩
  obtain ⟨g, rfl⟩ : ∃ g, f = g + 2 := ⟨f - 2, by omega⟩
  have := List.all_eq_true.1 (List.all_eq_true.1 (List.all_eq_true.1 posF_closed p (by simp; omega)) w (by simpa using hw)) g (by simp; omega)
  simp only [beq_iff_eq] at this
  rw [this]
theorem rd9 {b : List Int} (hb : Bytes b) (hl : b.length = 16) {a n : Nat} (hn : n ≤ 16) (h : a + n ≤ 128) : bcseven_read_c1 600 n b a = some (lv b a n, (((a + n : Nat) : Int), ())) := by
  unfold bcseven_read_c1
  have h1 := lv_bound b a n
  have h2 : (2 : Int) ^ n ≤ 2 ^ 16 := ipow_le hn
  rw [Low_lv (by omega) hb (by omega) (by omega) (by omega)]
  simp only [Option.bind_some]
  rw [w64 (by omega) (by omega), w64 (by omega) (by omega), Int.natCast_add]
def colG (b : List Int) (a n c i : Nat) (g : Nat → Int) (j : Nat) : Int := if j % 4 = c ∧ j / 4 < i then lv b (a + j / 4 * n) n else g j
theorem colG_step {E : Nat} (b : List Int) (a n c i : Nat) (g : Nat → Int) (hc : c < 4) : (tab (E * 4) (colG b a n c i g)).set (i * 4 + c) (lv b (a + i * n) n) = tab (E * 4) (colG b a n c (i + 1) g) := by
  rw [tab_set]
  refine tab_congr fun j hj => ?_
  unfold colG
  by_cases h : j = i * 4 + c
  · have h1 : j % 4 = c := by omega
    have h2 : j / 4 = i := by omega
    simp only [h, if_true]
    rw [h] at h1 h2
    simp only [h1, h2, true_and]
    rw [if_pos (by omega)]
  · simp only [h, if_false]
    by_cases h1 : j % 4 = c ∧ j / 4 < i
    · rw [if_pos h1, if_pos ⟨h1.1, by omega⟩]
    · rw [if_neg h1, if_neg (by omega)]
theorem read_l2_all {b : List Int} (hb : Bytes b) (hl : b.length = 16) (x0 : List Int) (x1 : List Int) (x3 : Int) (x4 : Int) (x5 : Int) (x6 : Int) (x9 : Int) (x10 : Int) (x11 : Int) (x12 : Int) (x13 : Int) (x14 : Int) (x15 : Int) (x16 : List Int) (x17 : List Int) {C A E n c a : Nat} (g : Nat → Int) (hn : n ≤ 16) (hc : c < 4) (hE : E ≤ 100) (ha : a + E * n ≤ 128) (hd : n = if c = 3 then A else C) :
    ∀ (d i k : Nat), i + d = E → d < k → bcseven_read_l2 600 k x0 x1 (tab (E * 4) (colG b a n c i g)) x3 x4 x5 x6 ((C : Int)) ((A : Int)) x9 x10 x11 x12 x13 x14 x15 x16 x17 b (((a + i * n : Nat) : Int)) ((c : Int)) ((c : Int)) ((E : Int)) ((i : Int)) = some (x0, (x1, (tab (E * 4) (colG b a n c E g), (x3, (x4, (x5, (x6, ((C : Int), ((A : Int), (x9, (x10, (x11, (x12, (x13, (x14, (x15, (x16, (x17, (b, (((a + E * n : Nat) : Int), ((c : Int), ()))))))))))))))))))))) := by
  intro d
  induction d with
  | zero =>
    intro i k h1 h2
    obtain ⟨k, rfl⟩ : ∃ k', k = k' + 1 := ⟨k - 1, by omega⟩
    obtain rfl : i = E := by omega
    unfold bcseven_read_l2 bcseven_read_l2S
    simp only [Int.lt_irrefl, decide_false, cond_false]
  | succ d ih =>
    intro i k h1 h2
    obtain ⟨k, rfl⟩ : ∃ k', k = k' + 1 := ⟨k - 1, by omega⟩
    have hi : i < E := by omega
    have hm := mulS (n := n) hi
    have e1 : (i + 1) * n = i * n + n := Nat.succ_mul i n
    unfold bcseven_read_l2 bcseven_read_l2S
    have i1 : (i : Int) < (E : Int) := by omega
    have i2 : (E * 4) / 4 = E := by omega
    have i3 : (0 : Int) ≤ (c : Int) := by omega
    have i4 : (c : Int) < 4 := by omega
    have ed : bcseven_dealt 600 (x3, (x4, (x5, (x6, ((C : Int), ((A : Int), (x9, (x10, (x11, (x12, ())))))))))) (c : Int) = some ((n : Int), ()) := by
      unfold bcseven_dealt
      by_cases h3 : c = 3
      · subst h3
        simp only [if_true] at hd
        simp [hd]
      · have : ((c : Int) == 3) = false := by
          rw [beq_eq_false_iff_ne]
          omega
        simp only [h3, if_false] at hd
        simp [this, hd]
    simp only [tab_len, i2, i1, i3, i4, decide_true, cond_true, Int.natCast_nonneg, Bool.and_self, Int.toNat_natCast, ed, Option.bind_some]
    rw [rd9 hb hl hn (by omega)]
    simp only [Option.bind_some]
    rw [colG_step b a n c i g hc, nextI (by omega), Nat.add_assoc, ← e1]
    exact ih (i + 1) k (by omega) (by omega)
def e0 (b : List Int) (m : BM) (p0 : Nat) (j : Nat) : Int := if j % 4 = 3 then lv b (p0 + 6 * m.P * m.C + j / 4 * m.A) m.A else lv b (p0 + j % 4 * (2 * m.P * m.C) + j / 4 * m.C) m.C
theorem colG_four {b : List Int} (m : BM) (p0 : Nat) (j : Nat) (hj : j < 2 * m.P * 4) :
    colG b (p0 + 2 * m.P * m.C + 2 * m.P * m.C + 2 * m.P * m.C) m.A 3 (2 * m.P) (colG b (p0 + 2 * m.P * m.C + 2 * m.P * m.C) m.C 2 (2 * m.P) (colG b (p0 + 2 * m.P * m.C) m.C 1 (2 * m.P) (colG b p0 m.C 0 (2 * m.P) fun _ => 0))) j = e0 b m p0 j := by
  unfold colG e0
  have h : j / 4 < 2 * m.P := by omega
  have e6 : 6 * m.P * m.C = 2 * m.P * m.C + 2 * m.P * m.C + 2 * m.P * m.C := by
    rw [← Nat.add_mul, ← Nat.add_mul]
    congr 1
    omega
  have hc : j % 4 = 0 ∨ j % 4 = 1 ∨ j % 4 = 2 ∨ j % 4 = 3 := by omega
  rcases hc with h4 | h4 | h4 | h4 <;> simp only [h4, h, and_self, if_true, reduceCtorEq, if_false, false_and, Nat.reduceEqDiff, Nat.zero_mul, Nat.one_mul, Nat.add_zero]
  · congr 2
    omega
  · congr 2
    omega
theorem colG_zero (b : List Int) (a n c : Nat) (g : Nat → Int) : colG b a n c 0 g = g := by
  funext j
  simp [colG]
theorem read_l0_step {b : List Int} (hb : Bytes b) (hl : b.length = 16) (x0 : List Int) (x1 : List Int) (x3 : Int) (x4 : Int) (x5 : Int) (x6 : Int) (x9 : Int) (x10 : Int) (x11 : Int) (x12 : Int) (x13 : Int) (x14 : Int) (x15 : Int) (x16 : List Int) (x17 : List Int) {C A E n c a : Nat} (g : Nat → Int) (hn : n ≤ 16) (hc : c < 4) (hE : E ≤ 100) (ha : a + E * n ≤ 128) (hd : n = if c = 3 then A else C) (k : Nat) :
    bcseven_read_l0 600 (k + 1) x0 x1 (tab (E * 4) g) x3 x4 x5 x6 ((C : Int)) ((A : Int)) x9 x10 x11 x12 x13 x14 x15 x16 x17 b ((a : Int)) ((c : Int)) = bcseven_read_l0 600 k x0 x1 (tab (E * 4) (colG b a n c E g)) x3 x4 x5 x6 ((C : Int)) ((A : Int)) x9 x10 x11 x12 x13 x14 x15 x16 x17 b (((a + E * n : Nat) : Int)) (((c + 1 : Nat) : Int)) := by
  have i4 : (c : Int) < 4 := by omega
  have i2 : (E * 4) / 4 = E := by omega
  have h := read_l2_all hb hl x0 x1 x3 x4 x5 x6 x9 x10 x11 x12 x13 x14 x15 x16 x17 (C := C) (A := A) (c := c) (a := a) g hn hc hE ha hd E 0 600 (by omega) (by omega)
  simp only [colG_zero, Nat.zero_mul, Nat.add_zero, Int.natCast_zero] at h
  conv => lhs; unfold bcseven_read_l0 bcseven_read_l0S
  simp only [tab_len, i2, i4, decide_true, cond_true, h, Option.bind_some]
  rw [nextI (by omega)]
theorem read_l0_all {b : List Int} (hb : Bytes b) (hl : b.length = 16) (x0 : List Int) (x1 : List Int) (x3 : Int) (x4 : Int) (x5 : Int) (x6 : Int) (x9 : Int) (x10 : Int) (x11 : Int) (x12 : Int) (x13 : Int) (x14 : Int) (x15 : Int) (x16 : List Int) (x17 : List Int) {m : BM} (ok : m.Ok) {p0 : Nat} (hp : p0 + 6 * m.P * m.C + 2 * m.P * m.A ≤ 128) (k : Nat) :
    bcseven_read_l0 600 (k + 5) x0 x1 (tab (2 * m.P * 4) fun _ => 0) x3 x4 x5 x6 ((m.C : Int)) ((m.A : Int)) x9 x10 x11 x12 x13 x14 x15 x16 x17 b ((p0 : Int)) ((0 : Int)) = some (x0, (x1, (tab (2 * m.P * 4) (e0 b m p0), (x3, (x4, (x5, (x6, ((m.C : Int), ((m.A : Int), (x9, (x10, (x11, (x12, (x13, (x14, (x15, (x16, (x17, (b, (((p0 + 6 * m.P * m.C + 2 * m.P * m.A : Nat) : Int), ())))))))))))))))))))) := by
  have e6 : 6 * m.P * m.C = 2 * m.P * m.C + 2 * m.P * m.C + 2 * m.P * m.C := by
    rw [← Nat.add_mul, ← Nat.add_mul]
    congr 1
    omega
  have hC := ok.C7
  have hA := ok.A8
  have hP := ok.P3
  have s0 := read_l0_step hb hl x0 x1 x3 x4 x5 x6 x9 x10 x11 x12 x13 x14 x15 x16 x17 (C := m.C) (A := m.A) (E := 2 * m.P) (n := m.C) (c := 0) (a := p0) (fun _ => 0) (by omega) (by omega) (by omega) (by omega) (by simp) (k + 4)
  have s1 := read_l0_step hb hl x0 x1 x3 x4 x5 x6 x9 x10 x11 x12 x13 x14 x15 x16 x17 (C := m.C) (A := m.A) (E := 2 * m.P) (n := m.C) (c := 1) (a := p0 + 2 * m.P * m.C) (colG b p0 m.C 0 (2 * m.P) fun _ => 0) (by omega) (by omega) (by omega) (by omega) (by simp) (k + 3)
  have s2 := read_l0_step hb hl x0 x1 x3 x4 x5 x6 x9 x10 x11 x12 x13 x14 x15 x16 x17 (C := m.C) (A := m.A) (E := 2 * m.P) (n := m.C) (c := 2) (a := p0 + 2 * m.P * m.C + 2 * m.P * m.C) (colG b (p0 + 2 * m.P * m.C) m.C 1 (2 * m.P) (colG b p0 m.C 0 (2 * m.P) fun _ => 0)) (by omega) (by omega) (by omega) (by omega) (by simp) (k + 2)
  have s3 := read_l0_step hb hl x0 x1 x3 x4 x5 x6 x9 x10 x11 x12 x13 x14 x15 x16 x17 (C := m.C) (A := m.A) (E := 2 * m.P) (n := m.A) (c := 3) (a := p0 + 2 * m.P * m.C + 2 * m.P * m.C + 2 * m.P * m.C) (colG b (p0 + 2 * m.P * m.C + 2 * m.P * m.C) m.C 2 (2 * m.P) (colG b (p0 + 2 * m.P * m.C) m.C 1 (2 * m.P) (colG b p0 m.C 0 (2 * m.P) fun _ => 0))) (by omega) (by omega) (by omega) (by omega) (by simp) (k + 1)
  refine s0.trans (s1.trans (s2.trans (s3.trans ?_)))
  unfold bcseven_read_l0 bcseven_read_l0S
  have i4 : ¬ (((3 + 1 : Nat) : Int) < 4) := by omega
  simp only [i4, decide_false, cond_false]
  rw [tab_congr fun j hj => colG_four m p0 j hj, show p0 + 6 * m.P * m.C + 2 * m.P * m.A = p0 + 2 * m.P * m.C + 2 * m.P * m.C + 2 * m.P * m.C + 2 * m.P * m.A by omega]
theorem widen_l2_all (x1 : Int) (x2 : Int) (x3 : Int) (x4 : Int) (x7 : Int) (x8 : Int) (x9 : Int) (x10 : Int) (x11 : Int) (x12 : Int) (x13 : Int) (x14 : List Int) (x15 : List Int) (x16 : List Int) (x17 : Int) (x21 : Int) (x22 : Int) {C A E i : Nat} {ex : Nat} (bit : Int) (g q W : Nat → Int) (hi : i < E) (hE : E ≤ 100) (hCA : C ≤ 100 ∧ A ≤ 100 ∧ ex ≤ 100)
    (hW : ∀ c, c < 4 → level_Wide 600 (ior .i64 (ishl .i64 (q c) (ex : Int)) bit) (((if c = 3 then A else C) + ex : Nat) : Int) = some (W c, ())) :
    ∀ (d c k : Nat), c + d = 4 → d < k → bcseven_fields_widen_read_c1_l2 600 k (tab (E * 4) fun j => if j / 4 = i ∧ j % 4 < c then W (j % 4) else g j) x1 x2 x3 x4 ((C : Int)) ((A : Int)) x7 x8 x9 x10 x11 x12 x13 x14 x15 x16 x17 ((ex : Int)) bit ((i : Int)) x21 x22 (tab 4 q) ((c : Int)) = some (tab (E * 4) fun j => if j / 4 = i then W (j % 4) else g j, (x1, (x2, (x3, (x4, ((C : Int), ((A : Int), (x7, (x8, (x9, (x10, (x11, (x12, (x13, (x14, (x15, (x16, (x17, ((ex : Int), (bit, ((i : Int), (x21, (x22, ()))))))))))))))))))))))) := by
  intro d
  induction d with
  | zero =>
    intro c k h1 h2
    obtain ⟨k, rfl⟩ : ∃ k', k = k' + 1 := ⟨k - 1, by omega⟩
    obtain rfl : c = 4 := by omega
    unfold bcseven_fields_widen_read_c1_l2 bcseven_fields_widen_read_c1_l2S
    have i4 : ¬ (((4 : Nat) : Int) < 4) := by omega
    simp only [i4, decide_false, cond_false]
    rw [tab_congr fun j hj => show (if j / 4 = i ∧ j % 4 < 4 then W (j % 4) else g j) = if j / 4 = i then W (j % 4) else g j by
      have : j % 4 < 4 := Nat.mod_lt _ (by decide)
      simp only [this, and_true]]
  | succ d ih =>
    intro c k h1 h2
    obtain ⟨k, rfl⟩ : ∃ k', k = k' + 1 := ⟨k - 1, by omega⟩
    have hc : c < 4 := by omega
    unfold bcseven_fields_widen_read_c1_l2 bcseven_fields_widen_read_c1_l2S
    have i1 : (c : Int) < 4 := by omega
    have i2 : (E * 4) / 4 = E := by omega
    have i3 : (i : Int) < (E : Int) := by omega
    have ed : bcseven_dealt 600 (x1, (x2, (x3, (x4, ((C : Int), ((A : Int), (x7, (x8, (x9, (x10, ())))))))))) (c : Int) = some (((if c = 3 then A else C : Nat) : Int), ()) := by
      unfold bcseven_dealt
      by_cases h3 : c = 3
      · subst h3
        simp
      · have : ((c : Int) == 3) = false := by
          rw [beq_eq_false_iff_ne]
          omega
        simp [this, h3]
    have ew : IntKind.wrap .i64 (((if c = 3 then A else C : Nat) : Int) + (ex : Int)) = (((if c = 3 then A else C) + ex : Nat) : Int) := by
      have : (if c = 3 then A else C) ≤ 100 := by split <;> omega
      rw [w64 (by omega) (by omega), Int.natCast_add]
    simp only [tab_len, i2, i1, i3, decide_true, cond_true, Int.natCast_nonneg, Bool.and_self, Int.toNat_natCast, ed, Option.bind_some, tab_get hc, ew, hW c hc]
    rw [nextI (by omega), tab_set]
    rw [tab_congr fun j hj => show (if j = i * 4 + c then W c else if j / 4 = i ∧ j % 4 < c then W (j % 4) else g j) = if j / 4 = i ∧ j % 4 < c + 1 then W (j % 4) else g j by
      by_cases h : j = i * 4 + c
      · have h1 : j / 4 = i := by omega
        have h2 : j % 4 = c := by omega
        rw [if_pos h, if_pos (by omega), h2]
      · rw [if_neg h]
        by_cases h5 : j / 4 = i ∧ j % 4 < c
        · rw [if_pos h5, if_pos (by omega)]
        · rw [if_neg h5, if_neg (by omega)]]
    exact ih (c + 1) k (by omega) (by omega)
def bitV (b : List Int) (m : BM) (p1 i : Nat) : Int := if m.e = 1 then lv b (p1 + i) 1 else if m.o = 1 then lv b (p1 + i / 2) 1 else 0
def posB (m : BM) (p1 i : Nat) : Nat := p1 + (if m.e = 1 then i else if m.o = 1 then (i + 1) / 2 else 0)
def bitS (b : List Int) (m : BM) (p1 i : Nat) : Int := if i = 0 then 0 else bitV b m p1 (i - 1)
def eF (b : List Int) (m : BM) (p0 p1 j : Nat) : Int :=
  if j % 4 = 3 then (if m.A = 0 then 255 else wideV (m.A + (m.e + m.o)) (2 ^ (m.e + m.o) * e0 b m p0 j + bitV b m p1 (j / 4)))
  else wideV (m.C + (m.e + m.o)) (2 ^ (m.e + m.o) * e0 b m p0 j + bitV b m p1 (j / 4))
def wG (b : List Int) (m : BM) (p0 p1 i j : Nat) : Int := if j / 4 < i then eF b m p0 p1 j else e0 b m p0 j
theorem bitV_01 (b : List Int) (m : BM) (p1 i : Nat) : 0 ≤ bitV b m p1 i ∧ bitV b m p1 i ≤ 1 := by
  unfold bitV
  have h1 := lv_bound b (p1 + i) 1
  have h2 := lv_bound b (p1 + i / 2) 1
  split
  · omega
  · split <;> omega
theorem e0_bound (b : List Int) {m : BM} (ok : m.Ok) (p0 j : Nat) : 0 ≤ e0 b m p0 j ∧ e0 b m p0 j < 256 := by
  unfold e0
  have hA : (2 : Int) ^ m.A ≤ 2 ^ 8 := ipow_le ok.A8
  have hC : (2 : Int) ^ m.C ≤ 2 ^ 8 := ipow_le (by have := ok.C7; omega)
  split
  · have := lv_bound b (p0 + 6 * m.P * m.C + j / 4 * m.A) m.A
    omega
  · have := lv_bound b (p0 + j % 4 * (2 * m.P * m.C) + j / 4 * m.C) m.C
    omega
theorem orbit_closed : ((List.range 256).all fun n => (List.range 2).all fun v => (ior .i64 (ishl .i64 (n : Int) 1) v == 2 * (n : Int) + v) && (ior .i64 (ishl .i64 (n : Int) 0) 0 == (n : Int))) = true := by kernel_rfl
theorem orbit {n v : Int} {x : Nat} (hn : 0 ≤ n ∧ n < 256) (hv : 0 ≤ v ∧ v ≤ 1) (hx : x ≤ 1) (h0 : x = 0 → v = 0) : ior .i64 (ishl .i64 n (x : Int)) v = 2 ^ x * n + v := by
  obtain ⟨n, rfl⟩ := Int.eq_ofNat_of_zero_le hn.1
  obtain ⟨v, rfl⟩ := Int.eq_ofNat_of_zero_le hv.1
  have := List.all_eq_true.1 (List.all_eq_true.1 orbit_closed n (by simp; omega)) v (by simp; omega)
  simp only [Bool.and_eq_true, beq_iff_eq] at this
  rcases (by omega : x = 0 ∨ x = 1) with rfl | rfl
  · rw [h0 rfl]
    rw [show ((0 : Nat) : Int) = 0 from rfl, this.2]
    omega
  · rw [show ((1 : Nat) : Int) = 1 from rfl, this.1]
    omega
theorem wide00 : ∃ z, level_Wide 600 0 0 = some (z, ()) := by
  have : (level_Wide 600 0 0).isSome = true := by kernel_rfl
  obtain ⟨⟨z, ⟨⟩⟩, h⟩ := Option.isSome_iff_exists.1 this
  exact ⟨z, h⟩
theorem wide_end (b : List Int) {m : BM} (ok : m.Ok) (p0 p1 i : Nat) : ∃ W : Nat → Int,
    (∀ c, c < 4 → level_Wide 600 (ior .i64 (ishl .i64 (e0 b m p0 (i * 4 + c)) ((m.e + m.o : Nat) : Int)) (bitV b m p1 i)) (((if c = 3 then m.A else m.C) + (m.e + m.o) : Nat) : Int) = some (W c, ())) ∧
    ∀ c, c < 4 → ¬ (c = 3 ∧ m.A = 0) → W c = eF b m p0 p1 (i * 4 + c) := by
  have hv := bitV_01 b m p1 i
  have h0 : m.e + m.o = 0 → bitV b m p1 i = 0 := fun h => by
    unfold bitV
    rw [if_neg (by omega), if_neg (by omega)]
  have hor : ∀ c, ior .i64 (ishl .i64 (e0 b m p0 (i * 4 + c)) ((m.e + m.o : Nat) : Int)) (bitV b m p1 i) = 2 ^ (m.e + m.o) * e0 b m p0 (i * 4 + c) + bitV b m p1 i :=
    fun c => orbit (e0_bound b ok _ _) hv ok.eo h0
  have ok1 := ok.Ce
  have ok2 := ok.Ae
  have ok3 := ok.C1
  by_cases hz : m.A + (m.e + m.o) = 0
  · obtain ⟨z, hz1⟩ := wide00
    have hA : m.A = 0 := by omega
    refine ⟨fun c => if c = 3 then z else eF b m p0 p1 (i * 4 + c), fun c hc => ?_, fun c hc h => ?_⟩
    · rw [hor]
      by_cases h3 : c = 3
      · subst h3
        have e1 : e0 b m p0 (i * 4 + 3) = 0 := by
          have := lv_bound b (p0 + 6 * m.P * m.C + (i * 4 + 3) / 4 * m.A) m.A
          unfold e0
          rw [if_pos (by omega)]
          rw [hA] at this ⊢
          simp only [Int.pow_zero] at this
          omega
        rw [e1, h0 (by omega)]
        simp only [if_true]
        rw [hz]
        simpa using hz1
      · rw [if_neg h3, Wide_is (by omega) (by omega)]
        unfold eF
        simp only [(mul4 i c hc).1, (mul4 i c hc).2, h3, if_false]
    · have h3 : ¬ c = 3 := fun e => h ⟨e, hA⟩
      simp only [h3, if_false]
  · refine ⟨fun c => if c = 3 then wideV (m.A + (m.e + m.o)) (2 ^ (m.e + m.o) * e0 b m p0 (i * 4 + c) + bitV b m p1 i) else eF b m p0 p1 (i * 4 + c), fun c hc => ?_, fun c hc h => ?_⟩
    · rw [hor]
      by_cases h3 : c = 3
      · subst h3
        simp only [if_true]
        rw [Wide_is (by omega) (by omega)]
      · simp only [h3, if_false]
        rw [Wide_is (by omega) (by omega)]
        unfold eF
        simp only [(mul4 i c hc).1, (mul4 i c hc).2, h3, if_false]
    · by_cases h3 : c = 3
      · subst h3
        unfold eF
        have hA : ¬ m.A = 0 := fun e => h ⟨rfl, e⟩
        simp only [(mul4 i 3 hc).1, (mul4 i 3 hc).2, if_true, hA, if_false]
      · simp only [h3, if_false]
theorem wG_row {b : List Int} {m : BM} {p0 p1 i : Nat} {W : Nat → Int} (hW : ∀ c, c < 4 → ¬ (c = 3 ∧ m.A = 0) → W c = eF b m p0 p1 (i * 4 + c)) {E : Nat} (hA : ¬ m.A = 0) :
    (tab (E * 4) fun j => if j / 4 = i then W (j % 4) else wG b m p0 p1 i j) = tab (E * 4) (wG b m p0 p1 (i + 1)) := by
  refine tab_congr fun j hj => ?_
  unfold wG
  have h4 : j % 4 < 4 := Nat.mod_lt _ (by decide)
  by_cases h : j / 4 = i
  · rw [if_pos h, if_pos (by omega), hW _ h4 (by omega)]
    congr 1
    omega
  · rw [if_neg h]
    by_cases h5 : j / 4 < i
    · rw [if_pos h5, if_pos (by omega)]
    · rw [if_neg h5, if_neg (by omega)]
theorem wG_row0 {b : List Int} {m : BM} {p0 p1 i : Nat} {W : Nat → Int} (hW : ∀ c, c < 4 → ¬ (c = 3 ∧ m.A = 0) → W c = eF b m p0 p1 (i * 4 + c)) {E : Nat} (hA : m.A = 0) :
    (tab (E * 4) fun j => if j = 3 + i * 4 then 255 else if j / 4 = i then W (j % 4) else wG b m p0 p1 i j) = tab (E * 4) (wG b m p0 p1 (i + 1)) := by
  refine tab_congr fun j hj => ?_
  unfold wG
  have h4 : j % 4 < 4 := Nat.mod_lt _ (by decide)
  by_cases h3 : j = 3 + i * 4
  · rw [if_pos h3, if_pos (by omega)]
    unfold eF
    rw [if_pos (by omega), if_pos hA]
  · rw [if_neg h3]
    by_cases h : j / 4 = i
    · rw [if_pos h, if_pos (by omega), hW _ h4 (by omega)]
      congr 1
      omega
    · rw [if_neg h]
      by_cases h5 : j / 4 < i
      · rw [if_pos h5, if_pos (by omega)]
      · rw [if_neg h5, if_neg (by omega)]
theorem widen_l0_all {b : List Int} (hb : Bytes b) (hl : b.length = 16) (x1 : Int) (x2 : Int) (x3 : Int) (x4 : Int) (x9 : Int) (x10 : Int) (x11 : Int) (x12 : Int) (x13 : Int) (x14 : List Int) (x15 : List Int) {m : BM} (ok : m.Ok) (p0 p1 : Nat) (hp : p1 + 2 * m.P * m.e + m.P * m.o ≤ 128) :
    ∀ (d i k : Nat), i + d = 2 * m.P → d < k → bcseven_fields_widen_read_c1_l0 600 k (tab (2 * m.P * 4) (wG b m p0 p1 i)) x1 x2 x3 x4 ((m.C : Int)) ((m.A : Int)) ((m.e : Int)) ((m.o : Int)) x9 x10 x11 x12 x13 x14 x15 b (((posB m p1 i : Nat) : Int)) (((m.e + m.o : Nat) : Int)) (bitS b m p1 i) (((2 * m.P : Nat) : Int)) ((i : Int)) = some (tab (2 * m.P * 4) (wG b m p0 p1 (2 * m.P)), (x1, (x2, (x3, (x4, ((m.C : Int), ((m.A : Int), ((m.e : Int), ((m.o : Int), (x9, (x10, (x11, (x12, (x13, (x14, (x15, (b, (((posB m p1 (2 * m.P) : Nat) : Int), ())))))))))))))))))) := by
  intro d
  induction d with
  | zero =>
    intro i k h1 h2
    obtain ⟨k, rfl⟩ : ∃ k', k = k' + 1 := ⟨k - 1, by omega⟩
    obtain rfl : i = 2 * m.P := by omega
    unfold bcseven_fields_widen_read_c1_l0 bcseven_fields_widen_read_c1_l0S
    simp only [Int.lt_irrefl, decide_false, cond_false]
  | succ d ih =>
    intro i k h1 h2
    obtain ⟨k, rfl⟩ : ∃ k', k = k' + 1 := ⟨k - 1, by omega⟩
    have hP3 := ok.P3
    have he1 := ok.e1
    have ho1 := ok.o1
    have heo := ok.eo
    have hC7 := ok.C7
    have hA8 := ok.A8
    have hi : i < 2 * m.P := by omega
    have i1 : (i : Int) < ((2 * m.P : Nat) : Int) := by omega
    have i2 : (2 * m.P * 4) / 4 = 2 * m.P := by omega
    have i3 : (i : Int) < ((2 * m.P : Nat) : Int) := by omega
    have i3' : (decide ((0 : Int) ≤ (i : Int)) && decide ((i : Int) < ((2 * m.P : Nat) : Int))) = true := by simp; omega
    obtain ⟨W, hW1, hW2⟩ := wide_end b ok p0 p1 i
    have hrow : List.take 4 (List.drop (i * 4) (tab (2 * m.P * 4) (wG b m p0 p1 i))) = tab 4 fun c => e0 b m p0 (i * 4 + c) := by
      rw [tab_part (by omega)]
      refine tab_congr fun c hc => ?_
      unfold wG
      rw [if_neg (by omega)]
    have key := fun a : Int => widen_l2_all x1 x2 x3 x4 ((m.e : Int)) ((m.o : Int)) x9 x10 x11 x12 x13 x14 x15 b a (((2 * m.P : Nat) : Int)) ((i : Int)) (C := m.C) (A := m.A) (E := 2 * m.P) (i := i) (ex := m.e + m.o) (bitV b m p1 i) (wG b m p0 p1 i) (fun c => e0 b m p0 (i * 4 + c)) W hi (by omega) (by omega) hW1 4 0 600 (by omega) (by omega)
    simp only [Nat.not_lt_zero, and_false, if_false, Int.natCast_zero] at key
    have fin : ∀ (a bt : Int), a = ((posB m p1 (i + 1) : Nat) : Int) → bt = bitS b m p1 (i + 1) → bcseven_fields_widen_read_c1_l0 600 k (tab (2 * m.P * 4) (wG b m p0 p1 (i + 1))) x1 x2 x3 x4 ((m.C : Int)) ((m.A : Int)) ((m.e : Int)) ((m.o : Int)) x9 x10 x11 x12 x13 x14 x15 b a (((m.e + m.o : Nat) : Int)) bt (((2 * m.P : Nat) : Int)) (((i + 1 : Nat) : Int)) = some (tab (2 * m.P * 4) (wG b m p0 p1 (2 * m.P)), (x1, (x2, (x3, (x4, ((m.C : Int), ((m.A : Int), ((m.e : Int), ((m.o : Int), (x9, (x10, (x11, (x12, (x13, (x14, (x15, (b, (((posB m p1 (2 * m.P) : Nat) : Int), ())))))))))))))))))) := by
      intro a bt e1 e2
      rw [e1, e2]
      exact ih (i + 1) k (by omega) (by omega)
    have hs : bitS b m p1 (i + 1) = bitV b m p1 i := by simp [bitS]
    unfold bcseven_fields_widen_read_c1_l0 bcseven_fields_widen_read_c1_l0S
    by_cases he : m.e = 1
    · have hPe : 2 * m.P * m.e = 2 * m.P := by rw [he, Nat.mul_one]
      have hpb : posB m p1 i + 1 ≤ 128 := by
        unfold posB
        rw [if_pos he]
        omega
      have re : bcseven_read_c1 600 (1 : Int) b ((posB m p1 i : Nat) : Int) = some (lv b (posB m p1 i) 1, (((posB m p1 i + 1 : Nat) : Int), ())) := rd9 (n := 1) hb hl (by omega) hpb
      have e2 : lv b (posB m p1 i) 1 = bitV b m p1 i := by
        unfold posB bitV
        rw [if_pos he, if_pos he]
      have e3 : posB m p1 (i + 1) = posB m p1 i + 1 := by
        unfold posB
        rw [if_pos he, if_pos he]
        omega
      have he' := beqT (show ((m.e : Nat) : Int) = 1 by omega)
      simp only [tab_len, i2, i1, i3, decide_true, cond_true, Int.natCast_nonneg, Bool.and_self, Int.toNat_natCast, he', re, e2, cond_false, Option.bind_some, hrow, key]
      by_cases hA : m.A = 0
      · simp only [beqT (show ((m.A : Nat) : Int) = 0 by omega), i3', cond_true, tab_set]
        rw [nextI (by omega), wG_row0 hW2 hA]
        exact fin _ _ (by rw [e3]) (hs.symm)
      · simp only [beqF (show ((m.A : Nat) : Int) ≠ 0 by omega), cond_false]
        rw [nextI (by omega), wG_row hW2 hA]
        exact fin _ _ (by rw [e3]) (hs.symm)
    · have he' := beqF (show ((m.e : Nat) : Int) ≠ 1 by omega)
      by_cases ho : m.o = 1
      · have ho' := beqT (show ((m.o : Nat) : Int) = 1 by omega)
        have hm : Int.tmod (i : Int) 2 = ((i % 2 : Nat) : Int) := by rw [tmod_nonneg (by omega)]; omega
        have hPo : m.P * m.o = m.P := by rw [ho, Nat.mul_one]
        by_cases hev : i % 2 = 0
        · have hpb : posB m p1 i + 1 ≤ 128 := by
            unfold posB
            rw [if_neg he, if_pos ho]
            omega
          have re : bcseven_read_c1 600 (1 : Int) b ((posB m p1 i : Nat) : Int) = some (lv b (posB m p1 i) 1, (((posB m p1 i + 1 : Nat) : Int), ())) := rd9 (n := 1) hb hl (by omega) hpb
          have e2 : lv b (posB m p1 i) 1 = bitV b m p1 i := by
            unfold posB bitV
            rw [if_neg he, if_pos ho, if_neg he, if_pos ho]
            congr 2
            omega
          have e3 : posB m p1 (i + 1) = posB m p1 i + 1 := by
            unfold posB
            rw [if_neg he, if_pos ho, if_neg he, if_pos ho]
            omega
          have hm' := beqT (show Int.tmod (i : Int) 2 = 0 by omega)
          simp only [tab_len, i2, i1, i3, decide_true, cond_true, Int.natCast_nonneg, Bool.and_self, Int.toNat_natCast, he', ho', hm', re, e2, cond_false, Option.bind_some, hrow, key]
          by_cases hA : m.A = 0
          · simp only [beqT (show ((m.A : Nat) : Int) = 0 by omega), i3', cond_true, tab_set]
            rw [nextI (by omega), wG_row0 hW2 hA]
            exact fin _ _ (by rw [e3]) (hs.symm)
          · simp only [beqF (show ((m.A : Nat) : Int) ≠ 0 by omega), cond_false]
            rw [nextI (by omega), wG_row hW2 hA]
            exact fin _ _ (by rw [e3]) (hs.symm)
        · have e2 : bitS b m p1 i = bitV b m p1 i := by
            unfold bitS bitV
            rw [if_neg (by omega), if_neg he, if_pos ho, if_neg he, if_pos ho]
            congr 2
            omega
          have e3 : posB m p1 (i + 1) = posB m p1 i := by
            unfold posB
            rw [if_neg he, if_pos ho, if_neg he, if_pos ho]
            omega
          have hm' := beqF (show Int.tmod (i : Int) 2 ≠ 0 by omega)
          simp only [tab_len, i2, i1, i3, decide_true, cond_true, Int.natCast_nonneg, Bool.and_self, Int.toNat_natCast, he', ho', hm', e2, cond_false, Option.bind_some, hrow, key]
          by_cases hA : m.A = 0
          · simp only [beqT (show ((m.A : Nat) : Int) = 0 by omega), i3', cond_true, tab_set]
            rw [nextI (by omega), wG_row0 hW2 hA]
            exact fin _ _ (by rw [e3]) (hs.symm)
          · simp only [beqF (show ((m.A : Nat) : Int) ≠ 0 by omega), cond_false]
            rw [nextI (by omega), wG_row hW2 hA]
            exact fin _ _ (by rw [e3]) (hs.symm)
      · have ho' := beqF (show ((m.o : Nat) : Int) ≠ 1 by omega)
        have e2 : bitS b m p1 i = bitV b m p1 i := by
          unfold bitS bitV
          rw [if_neg he, if_neg ho, if_neg he, if_neg ho]
          split <;> rfl
        have e3 : posB m p1 (i + 1) = posB m p1 i := by
          unfold posB
          rw [if_neg he, if_neg ho, if_neg he, if_neg ho]
        simp only [tab_len, i2, i1, i3, decide_true, cond_true, Int.natCast_nonneg, Bool.and_self, Int.toNat_natCast, he', ho', e2, cond_false, Option.bind_some, hrow, key]
        by_cases hA : m.A = 0
        · simp only [beqT (show ((m.A : Nat) : Int) = 0 by omega), i3', cond_true, tab_set]
          rw [nextI (by omega), wG_row0 hW2 hA]
          exact fin _ _ (by rw [e3]) (hs.symm)
        · simp only [beqF (show ((m.A : Nat) : Int) ≠ 0 by omega), cond_false]
          rw [nextI (by omega), wG_row hW2 hA]
          exact fin _ _ (by rw [e3]) (hs.symm)
def ancUp (P w i p : Nat) : Bool := (i == 0) || ((List.range p).any fun q => decide (1 ≤ q) && (anchV P w q == i))
theorem ancUp_succ {P w i p : Nat} (hp : 1 ≤ p) : ancUp P w i (p + 1) = (ancUp P w i p || (anchV P w p == i)) := by
  unfold ancUp
  rw [List.range_succ, List.any_append]
  simp [hp, Bool.or_assoc]
theorem ancUp_one (P w i : Nat) : ancUp P w i 1 = (i == 0) := by
  simp [ancUp]
theorem beqN (a i : Nat) : (((a : Nat) : Int) == (i : Int)) = (a == i) := by
  by_cases h : a = i
  · subst h; simp
  · have : ((a : Nat) : Int) ≠ (i : Int) := by omega
    rw [beqF this]
    simp [h]
theorem lacks_l0_all (x0 : List Int) (x2 : Int) (x3 : Int) (x4 : Int) (x5 : Int) (x6 : Int) (x7 : Int) (x8 : Int) (x9 : Int) (x10 : Int) (x12 : Int) (x13 : Int) (x14 : List Int) (x15 : List Int) {P w i : Nat} (h3 : P ≤ 3) (hw : w < 64) :
    ∀ (d p k : Nat), p + d = P → 1 ≤ p → d < k → bcseven_fields_lacks_l0 600 k x0 ((P : Int)) x2 x3 x4 x5 x6 x7 x8 x9 x10 ((w : Int)) x12 x13 x14 x15 ((i : Int)) (ancUp P w i p) ((p : Int)) = some (ancUp P w i P, ()) := by
  intro d
  induction d with
  | zero =>
    intro p k h1 hp h2
    obtain ⟨k, rfl⟩ : ∃ k', k = k' + 1 := ⟨k - 1, by omega⟩
    obtain rfl : p = P := by omega
    unfold bcseven_fields_lacks_l0 bcseven_fields_lacks_l0S
    simp only [Int.lt_irrefl, decide_false, cond_false]
  | succ d ih =>
    intro p k h1 hp h2
    obtain ⟨k, rfl⟩ : ∃ k', k = k' + 1 := ⟨k - 1, by omega⟩
    have i1 : (p : Int) < (P : Int) := by omega
    have fin := ih (p + 1) k (by omega) (by omega) (by omega)
    rw [ancUp_succ hp] at fin
    unfold bcseven_fields_lacks_l0 bcseven_fields_lacks_l0S
    simp only [i1, decide_true, cond_true]
    rw [nextI (by omega)]
    cases h : ancUp P w i p
    · rw [h, Bool.false_or] at fin
      simp only [cond_false]
      rw [(anch9 h3 hw hp (by omega)).1]
      simp only [Option.bind_some, beqN]
      exact fin
    · rw [h, Bool.true_or] at fin
      simp only [cond_true]
      exact fin
theorem lacks_is (x0 : List Int) (x2 : Int) (x3 : Int) (x4 : Int) (x5 : Int) (x6 : Int) (x7 : Int) (x8 : Int) (x9 : Int) (x10 : Int) (x12 : Int) (x13 : Int) (x14 : List Int) (x15 : List Int) {P w i : Nat} (h1 : 1 ≤ P) (h3 : P ≤ 3) (hw : w < 64) : bcseven_fields_lacks 600 x0 (P : Int) x2 x3 x4 x5 x6 x7 x8 x9 x10 (w : Int) x12 x13 x14 x15 (i : Int) = some ((lessV P w i : Int), ()) := by
  unfold bcseven_fields_lacks
  have h := lacks_l0_all x0 x2 x3 x4 x5 x6 x7 x8 x9 x10 x12 x13 x14 x15 (i := i) h3 hw (P - 1) 1 600 (by omega) (by omega) (by omega)
  rw [ancUp_one, ← beqN i 0] at h
  have e1 : ((1 : Nat) : Int) = 1 := rfl
  have e0 : ((0 : Nat) : Int) = 0 := rfl
  rw [e1, e0] at h
  rw [h]
  simp only [Option.bind_some]
  unfold lessV ancB
  rw [show ((i == 0) || ((List.range P).any fun p => decide (1 ≤ p) && (anchV P w p == i))) = ancUp P w i P from rfl]
  cases ancUp P w i P <;> rfl
def firstV (b : List Int) (P w f p2 j : Nat) : Int := lv b (posF P w f p2 j) (f - lessV P w j)
theorem read_l4_all {b : List Int} (hb : Bytes b) (hl : b.length = 16) (x0 : List Int) (x1 : List Int) (x2 : List Int) (x4 : Int) (x5 : Int) (x6 : Int) (x7 : Int) (x8 : Int) (x9 : Int) (x10 : Int) (x12 : Int) (x14 : Int) (x15 : Int) (x17 : List Int) {P w f p2 : Nat} (hP1 : 1 ≤ P) (h3 : P ≤ 3) (hw : w < 64) (hf : 2 ≤ f ∧ f ≤ 4) (hp : posF P w f p2 16 ≤ 128) :
    ∀ (d i k : Nat), i + d = 16 → d < k → bcseven_read_l4 600 k x0 x1 x2 ((P : Int)) x4 x5 x6 x7 x8 x9 x10 ((f : Int)) x12 ((w : Int)) x14 x15 (tab 16 (upT i (firstV b P w f p2))) x17 b (((posF P w f p2 i : Nat) : Int)) ((i : Int)) = some (x0, (x1, (x2, ((P : Int), (x4, (x5, (x6, (x7, (x8, (x9, (x10, ((f : Int), (x12, ((w : Int), (x14, (x15, (tab 16 (firstV b P w f p2), (x17, (b, (((posF P w f p2 16 : Nat) : Int), ())))))))))))))))))))) := by
  intro d
  induction d with
  | zero =>
    intro i k h1 h2
    obtain ⟨k, rfl⟩ : ∃ k', k = k' + 1 := ⟨k - 1, by omega⟩
    obtain rfl : i = 16 := by omega
    unfold bcseven_read_l4 bcseven_read_l4S
    have : ¬ (((16 : Nat) : Int) < 16) := by omega
    simp only [this, decide_false, cond_false, upT_all]
  | succ d ih =>
    intro i k h1 h2
    obtain ⟨k, rfl⟩ : ∃ k', k = k' + 1 := ⟨k - 1, by omega⟩
    have i1 : (i : Int) < 16 := by omega
    have hm := posF_mono P w f p2 (show i + 1 ≤ 16 by omega)
    have hle := lessV_le P w i
    have en : IntKind.wrap .i64 ((f : Int) - (lessV P w i : Int)) = ((f - lessV P w i : Nat) : Int) := by
      rw [w64 (by omega) (by omega)]
      omega
    have e1 : posF P w f p2 (i + 1) = posF P w f p2 i + (f - lessV P w i) := rfl
    unfold bcseven_read_l4 bcseven_read_l4S
    simp only [i1, decide_true, cond_true, Int.natCast_nonneg, Bool.and_self, Int.toNat_natCast, lacks_is _ _ _ _ _ _ _ _ _ _ _ _ _ _ hP1 h3 hw, Option.bind_some, en]
    rw [rd9 hb hl (by omega) (by omega)]
    simp only [Option.bind_some]
    rw [nextI (by omega), ← e1, show lv b (posF P w f p2 i) (f - lessV P w i) = firstV b P w f p2 i from rfl, upT_set]
    exact ih (i + 1) k (by omega) (by omega)
def posS (s p3 i : Nat) : Nat := p3 + (if i = 0 then 0 else i * s - 1)
def secV (b : List Int) (s p3 i : Nat) : Int := if s = 0 then 0 else lv b (posS s p3 i) (s - if i = 0 then 1 else 0)
theorem tdiv_one (i : Nat) : Int.tdiv 1 ((i + 1 : Nat) : Int) = ((if i = 0 then 1 else 0 : Nat) : Int) := by
  by_cases h : i = 0
  · subst h; rfl
  · rw [tdiv_nonneg (by omega), if_neg h, Int.ediv_eq_zero_of_lt (by omega) (by omega)]
    rfl
theorem posS_succ {s p3 i : Nat} (hs : 2 ≤ s) : posS s p3 (i + 1) = posS s p3 i + (s - if i = 0 then 1 else 0) := by
  unfold posS
  rw [if_neg (by omega), Nat.succ_mul]
  by_cases h : i = 0
  · subst h
    simp
  · rw [if_neg h, if_neg h]
    have : 1 * 1 ≤ i * s := Nat.mul_le_mul (by omega) (by omega)
    omega
theorem read_l6_all {b : List Int} (hb : Bytes b) (hl : b.length = 16) (x0 : List Int) (x1 : List Int) (x2 : List Int) (x3 : Int) (x4 : Int) (x5 : Int) (x6 : Int) (x7 : Int) (x8 : Int) (x9 : Int) (x10 : Int) (x11 : Int) (x13 : Int) (x14 : Int) (x15 : Int) (x16 : List Int) {s p3 : Nat} (hs : 2 ≤ s ∧ s ≤ 3) (hp : p3 + (16 * s - 1) ≤ 128) :
    ∀ (d i k : Nat), i + d = 16 → d < k → bcseven_read_l6 600 k x0 x1 x2 x3 x4 x5 x6 x7 x8 x9 x10 x11 ((s : Int)) x13 x14 x15 x16 (tab 16 (upT i (secV b s p3))) b (((posS s p3 i : Nat) : Int)) ((i : Int)) = some (x0, (x1, (x2, (x3, (x4, (x5, (x6, (x7, (x8, (x9, (x10, (x11, ((s : Int), (x13, (x14, (x15, (x16, (tab 16 (secV b s p3), ())))))))))))))))))) := by
  intro d
  induction d with
  | zero =>
    intro i k h1 h2
    obtain ⟨k, rfl⟩ : ∃ k', k = k' + 1 := ⟨k - 1, by omega⟩
    obtain rfl : i = 16 := by omega
    unfold bcseven_read_l6 bcseven_read_l6S
    have : ¬ (((16 : Nat) : Int) < 16) := by omega
    simp only [this, decide_false, cond_false, upT_all]
  | succ d ih =>
    intro i k h1 h2
    obtain ⟨k, rfl⟩ : ∃ k', k = k' + 1 := ⟨k - 1, by omega⟩
    have i1 : (i : Int) < 16 := by omega
    have hle : (if i = 0 then 1 else 0 : Nat) ≤ 1 := by split <;> omega
    have e1 := posS_succ (p3 := p3) (i := i) hs.1
    have hm : posS s p3 (i + 1) ≤ 128 := by
      unfold posS
      rw [if_neg (by omega)]
      have := Nat.mul_le_mul_right s (show i + 1 ≤ 16 by omega)
      omega
    have hz : (!(((i + 1 : Nat) : Int) == 0)) = true := by
      rw [beqF (by omega)]
      rfl
    have ew : IntKind.wrap .i64 (((if i = 0 then 1 else 0 : Nat) : Int)) = ((if i = 0 then 1 else 0 : Nat) : Int) := w64 (by omega) (by omega)
    have en : IntKind.wrap .i64 ((s : Int) - ((if i = 0 then 1 else 0 : Nat) : Int)) = ((s - (if i = 0 then 1 else 0) : Nat) : Int) := by
      rw [w64 (by omega) (by omega)]
      omega
    unfold bcseven_read_l6 bcseven_read_l6S
    simp only [i1, decide_true, cond_true, Int.natCast_nonneg, Bool.and_self, Int.toNat_natCast]
    rw [nextI (by omega)]
    simp only [hz, cond_true, tdiv_one, ew, en]
    rw [rd9 hb hl (by omega) (by omega)]
    simp only [Option.bind_some]
    have es : secV b s p3 i = lv b (posS s p3 i) (s - (if i = 0 then 1 else 0)) := by
      unfold secV
      exact if_neg (by omega)
    rw [← e1, ← es, upT_set]
    exact ih (i + 1) k (by omega) (by omega)
end Go.AE.Gn
set_option linter.unusedVariables false
set_option linter.unusedSimpArgs false
namespace Go.AE.Gn
open Go Go.AE
def bp0 (m : BM) : Nat := m.base + m.W + m.T + m.H
def bp1 (m : BM) : Nat := bp0 m + 6 * m.P * m.C + 2 * m.P * m.A
def bp2 (m : BM) : Nat := bp1 m + 2 * m.P * m.e + m.P * m.o
def wN (b : List Int) (m : BM) : Nat := (lv b m.base m.W).toNat
def tN (b : List Int) (m : BM) : Int := lv b (m.base + m.W) m.T
def cN (b : List Int) (m : BM) : Int := lv b (m.base + m.W + m.T) m.H
def bp3 (b : List Int) (m : BM) : Nat := posF m.P (wN b m) m.f (bp2 m) 16
def endF (b : List Int) (m : BM) (j : Nat) : Int := eF b m (bp0 m) (bp1 m) j
def firF (b : List Int) (m : BM) (j : Nat) : Int := firstV b m.P (wN b m) m.f (bp2 m) j
def secF (b : List Int) (m : BM) (j : Nat) : Int := secV b m.s (bp3 b m) j
theorem wN_is (b : List Int) {m : BM} (ok : m.Ok) : lv b m.base m.W = (wN b m : Int) ∧ wN b m < 64 := by
  have h := lv_bound b m.base m.W
  have h2 : (2 : Int) ^ m.W ≤ 2 ^ 6 := ipow_le ok.W6
  unfold wN
  omega
theorem bp3_le (b : List Int) {m : BM} (ok : m.Ok) : bp3 b m = bp2 m + (16 * m.f - m.P) ∧ bp3 b m + (if m.s = 0 then 0 else 16 * m.s - 1) ≤ 128 := by
  have h := posF_16 ok.P1 ok.P3 (wN_is b ok).2 ok.f2 ok.f4 (bp2 m)
  have ha := ok.all
  refine ⟨h, ?_⟩
  unfold bp3
  rw [h]
  unfold bp2 bp1 bp0
  omega
theorem sq0 : bcseven_SixT4 = tab 16 fun _ => 0 := by decide +kernel
theorem posB_end {m : BM} (ok : m.Ok) (p1 : Nat) : posB m p1 (2 * m.P) = p1 + 2 * m.P * m.e + m.P * m.o := by
  unfold posB
  have h1 := ok.e1
  have h2 := ok.o1
  have h3 := ok.eo
  by_cases he : m.e = 1
  · have ho : m.o = 0 := by omega
    rw [if_pos he, he, ho]
    omega
  · rw [if_neg he]
    have he0 : m.e = 0 := by omega
    rw [he0]
    by_cases ho : m.o = 1
    · rw [if_pos ho, ho]
      omega
    · have ho0 : m.o = 0 := by omega
      rw [if_neg ho, ho0]
      omega
theorem widen_is {b : List Int} (hb : Bytes b) (hl : b.length = 16) (x1 x2 x3 x4 x9 x10 x11 x12 x13 : Int) (x14 x15 : List Int) {m : BM} (ok : m.Ok) (p0 p1 : Nat) (hp : p1 + 2 * m.P * m.e + m.P * m.o ≤ 128) :
    bcseven_fields_widen_read_c1 600 (tab (2 * m.P * 4) (e0 b m p0)) x1 x2 x3 x4 (m.C : Int) (m.A : Int) (m.e : Int) (m.o : Int) x9 x10 x11 x12 x13 x14 x15 b ((p1 : Nat) : Int) = some (tab (2 * m.P * 4) (eF b m p0 p1), (((p1 + 2 * m.P * m.e + m.P * m.o : Nat) : Int), ())) := by
  unfold bcseven_fields_widen_read_c1
  have h1 := ok.e1
  have h2 := ok.o1
  have h3 := ok.P3
  have e1 : IntKind.wrap .i64 ((m.e : Int) + (m.o : Int)) = ((m.e + m.o : Nat) : Int) := by rw [w64 (by omega) (by omega), Int.natCast_add]
  have i2 : (2 * m.P * 4) / 4 = 2 * m.P := by omega
  have h := widen_l0_all hb hl x1 x2 x3 x4 x9 x10 x11 x12 x13 x14 x15 ok p0 p1 hp (2 * m.P) 0 600 (by omega) (by omega)
  have s1 : tab (2 * m.P * 4) (wG b m p0 p1 0) = tab (2 * m.P * 4) (e0 b m p0) := tab_congr fun j hj => if_neg (by omega)
  have s2 : posB m p1 0 = p1 := by
    unfold posB
    split
    · rfl
    · split <;> rfl
  have s3 : bitS b m p1 0 = 0 := rfl
  have s4 : tab (2 * m.P * 4) (wG b m p0 p1 (2 * m.P)) = tab (2 * m.P * 4) (eF b m p0 p1) := tab_congr fun j hj => if_pos (by omega)
  rw [s1, s2, s3, s4, posB_end ok] at h
  simp only [tab_len, i2, e1]
  rw [show (0 : Int) = ((0 : Nat) : Int) from rfl] at h ⊢
  rw [h]
  rfl
theorem read9_is {b : List Int} (hb : Bytes b) (hl : b.length = 16) {k : Nat} (hk : k < 8) {m : BM} (hm : bmOf k = m) :
    bcseven_read 600 b (k : Int) = some ((m.P : Int), ((m.W : Int), ((m.T : Int), ((m.H : Int), ((m.C : Int), ((m.A : Int), ((m.e : Int), ((m.o : Int), ((m.f : Int), ((m.s : Int), ((wN b m : Int), (tN b m, (cN b m, (tab (2 * m.P * 4) (endF b m), (tab 16 (firF b m), (tab 16 (secF b m), ())))))))))))))))) := by
  have ok : m.Ok := by rw [← hm]; exact bm_ok hk
  have hbase : m.base = k + 1 := by rw [← hm]; rfl
  obtain ⟨hP1, hP3, hW6, hT2, hH1, hC1, hC7, hA8, he1, ho1, heo, hCe, hAe, hf2, hf4, hs3, hs0, hHs, hb8, hall⟩ := ok
  have ok : m.Ok := ⟨hP1, hP3, hW6, hT2, hH1, hC1, hC7, hA8, he1, ho1, heo, hCe, hAe, hf2, hf4, hs3, hs0, hHs, hb8, hall⟩
  obtain ⟨hw, hw64⟩ := wN_is b ok
  obtain ⟨h3e, h3⟩ := bp3_le b ok
  unfold bcseven_read bctable_Modes
  have n8 : bctable_ModesT298.length / 10 = 8 := rfl
  have i1 : (k : Int) < ((8 : Nat) : Int) := by omega
  have g0 : (bmRow m).getD 0 0 = (m.P : Int) := rfl
  have g1 : (bmRow m).getD 1 0 = (m.W : Int) := rfl
  have g2 : (bmRow m).getD 2 0 = (m.T : Int) := rfl
  have g3 : (bmRow m).getD 3 0 = (m.H : Int) := rfl
  have g4 : (bmRow m).getD 4 0 = (m.C : Int) := rfl
  have g5 : (bmRow m).getD 5 0 = (m.A : Int) := rfl
  have g6 : (bmRow m).getD 6 0 = (m.e : Int) := rfl
  have g7 : (bmRow m).getD 7 0 = (m.o : Int) := rfl
  have g8 : (bmRow m).getD 8 0 = (m.f : Int) := rfl
  have g9 : (bmRow m).getD 9 0 = (m.s : Int) := rfl
  have e2 : IntKind.wrap .i64 (2 * (m.P : Int)) = ((2 * m.P : Nat) : Int) := by rw [w64 (by omega) (by omega)]; omega
  have r1 := rd9 hb hl (a := m.base) (n := m.W) (by omega) (by omega)
  have r2 := rd9 hb hl (a := m.base + m.W) (n := m.T) (by omega) (by omega)
  have r3 := rd9 hb hl (a := m.base + m.W + m.T) (n := m.H) (by omega) (by omega)
  have i2 : ((2 * m.P : Nat) : Int) ≤ 1099511627776 := by omega
  have l0 := fun x0 x1 x16 x17 x3 x4 x5 x6 x9 x10 x11 x12 x13 x14 x15 => read_l0_all hb hl x0 x1 x3 x4 x5 x6 x9 x10 x11 x12 x13 x14 x15 x16 x17 ok (p0 := bp0 m) (by unfold bp0; omega) 595
  have l1 := fun x1 x2 x3 x4 x9 x10 x11 x12 x13 x14 x15 => widen_is hb hl x1 x2 x3 x4 x9 x10 x11 x12 x13 x14 x15 ok (bp0 m) (bp1 m) (by unfold bp1 bp0; omega)
  have l4 := read_l4_all hb hl bcseven_SixT4 bcseven_SixT4 (tab (2 * m.P * 4) (eF b m (bp0 m) (bp1 m))) ((m.W : Int)) ((m.T : Int)) ((m.H : Int)) ((m.C : Int)) ((m.A : Int)) ((m.e : Int)) ((m.o : Int)) ((m.s : Int)) (lv b (m.base + m.W) m.T) (lv b (m.base + m.W + m.T) m.H) bcseven_SixT4 (P := m.P) (w := wN b m) (f := m.f) (p2 := bp2 m) hP1 hP3 hw64 ⟨hf2, hf4⟩ (by have := h3; unfold bp3 at this; omega) 16 0 600 (by omega) (by omega)
  rw [upT_zero, ← sq0, show posF m.P (wN b m) m.f (bp2 m) 0 = bp2 m from rfl, show ((0 : Nat) : Int) = 0 from rfl] at l4
  simp only [n8, i1, decide_true, cond_true, Int.natCast_nonneg, Bool.and_self, Int.toNat_natCast, Option.bind_some, row_is hk, hm, g0, g1, g2, g3, g4, g5, g6, g7, g8, g9]
  rw [nextI (by omega), ← hbase]
  simp only [r1, r2, r3, hw, Option.bind_some, e2, i2, decide_true, Int.natCast_nonneg, Bool.and_self, cond_true, Int.toNat_natCast, tab_rep]
  have a0 : m.base + m.W + m.T + m.H = bp0 m := rfl
  have a1 : bp0 m + 6 * m.P * m.C + 2 * m.P * m.A = bp1 m := rfl
  have a2 : bp1 m + 2 * m.P * m.e + m.P * m.o = bp2 m := rfl
  rw [a1] at l0
  rw [a2] at l1
  simp only [a0]
  have l0' := l0 bcseven_SixT4 bcseven_SixT4 bcseven_SixT4 bcseven_SixT4 (m.P : Int) (m.W : Int) (m.T : Int) (m.H : Int) (m.e : Int) (m.o : Int) (m.f : Int) (m.s : Int) (wN b m : Int) (lv b (m.base + m.W) m.T) (lv b (m.base + m.W + m.T) m.H)
  rw [show (595 + 5 : Nat) = 600 from rfl] at l0'
  simp only [l0', Option.bind_some, l1, l4]
  by_cases hs : m.s = 0
  · have : ¬ (0 : Int) < (m.s : Int) := by omega
    simp only [this, decide_false, cond_false]
    rw [show bcseven_SixT4 = tab 16 (secF b m) from sq0.trans (tab_congr fun j hj => by
      unfold secF secV
      rw [if_pos hs])]
    rfl
  · have : (0 : Int) < (m.s : Int) := by omega
    have l6 := read_l6_all hb hl bcseven_SixT4 bcseven_SixT4 (tab (2 * m.P * 4) (eF b m (bp0 m) (bp1 m))) ((m.P : Int)) ((m.W : Int)) ((m.T : Int)) ((m.H : Int)) ((m.C : Int)) ((m.A : Int)) ((m.e : Int)) ((m.o : Int)) ((m.f : Int)) ((wN b m : Int)) (lv b (m.base + m.W) m.T) (lv b (m.base + m.W + m.T) m.H) (tab 16 (firstV b m.P (wN b m) m.f (bp2 m))) (s := m.s) (p3 := bp3 b m) (by omega) (by rw [if_neg hs] at h3; exact h3) 16 0 600 (by omega) (by omega)
    rw [upT_zero, ← sq0, show posS m.s (bp3 b m) 0 = posF m.P (wN b m) m.f (bp2 m) 16 from rfl, show ((0 : Nat) : Int) = 0 from rfl] at l6
    simp only [this, decide_true, cond_true, l6, Option.bind_some]
    rfl
def wL (n : Nat) : List Int := if n = 2 then [0, 21, 43, 64] else if n = 3 then bctable_WeightsT6 else bctable_WeightsT7
def mx (a z p : Int) (n : Nat) : Int := mixV a z ((wL n).getD p.toNat 0) 64 32
theorem wL_closed : ((List.range 5).all fun n => decide (n < 2) || ((wL n).length == 2 ^ n && ((List.range (2 ^ n)).all fun p => decide (0 ≤ (wL n).getD p 0) && decide ((wL n).getD p 0 ≤ 64)) &&
    (bctable_Weights 600 (n : Int) == some (wL n, ()) && ref08_Weights 600 (n : Int) == some (wL n, ())))) = true := by decide +kernel
theorem wL_is {n : Nat} (h : 2 ≤ n ∧ n ≤ 4) : (wL n).length = 2 ^ n ∧ (∀ p, p < 2 ^ n → 0 ≤ (wL n).getD p 0 ∧ (wL n).getD p 0 ≤ 64) ∧ bctable_Weights 600 (n : Int) = some (wL n, ()) ∧ ref08_Weights 600 (n : Int) = some (wL n, ()) := by
  have := List.all_eq_true.1 wL_closed n (by simp; omega)
  have h2 : ¬ n < 2 := by omega
  simp only [h2, decide_false, Bool.false_or, Bool.and_eq_true, beq_iff_eq] at this
  obtain ⟨⟨h1, h3⟩, h4, h5⟩ := this
  refine ⟨h1, fun p hp => ?_, h4, h5⟩
  have := List.all_eq_true.1 h3 p (by simpa using hp)
  simpa using this
theorem mx_bound {a z p : Int} {n : Nat} (ha : 0 ≤ a ∧ a ≤ 255) (hz : 0 ≤ z ∧ z ≤ 255) (hn : 2 ≤ n ∧ n ≤ 4) (hp : 0 ≤ p ∧ p < 2 ^ n) : 0 ≤ mx a z p n ∧ mx a z p n ≤ 255 := by
  have hp2 : p.toNat < 2 ^ n := by
    have : ((p.toNat : Nat) : Int) < ((2 ^ n : Nat) : Int) := by
      rw [Int.toNat_of_nonneg hp.1, Int.natCast_pow]
      exact hp.2
    omega
  have hw := (wL_is hn).2.1 _ hp2
  unfold mx mixV
  generalize (wL n).getD p.toNat 0 = w at *
  have m1 : a * (64 - w) ≤ 255 * (64 - w) := Int.mul_le_mul_of_nonneg_right ha.2 (by omega)
  have m2 : z * w ≤ 255 * w := Int.mul_le_mul_of_nonneg_right hz.2 (by omega)
  have m3 : 0 ≤ a * (64 - w) := Int.mul_nonneg ha.1 (by omega)
  have m4 : 0 ≤ z * w := Int.mul_nonneg hz.1 hw.1
  omega
theorem mix9 {a z p : Int} {n : Nat} (ha : 0 ≤ a ∧ a ≤ 255) (hz : 0 ≤ z ∧ z ≤ 255) (hn : 2 ≤ n ∧ n ≤ 4) (hp : 0 ≤ p ∧ p < 2 ^ n) :
    bcseven_mix 600 a z p (n : Int) = some (mx a z p n, ()) ∧ ref09_mix 600 a z p (n : Int) = some (mx a z p n, ()) := by
  obtain ⟨h1, h2, h3, h4⟩ := wL_is hn
  have hp2 : p.toNat < 2 ^ n := by
    have : ((p.toNat : Nat) : Int) < ((2 ^ n : Nat) : Int) := by
      rw [Int.toNat_of_nonneg hp.1, Int.natCast_pow]
      exact hp.2
    omega
  have hw := h2 _ hp2
  have i1 : p < ((2 ^ n : Nat) : Int) := by rw [Int.natCast_pow]; exact hp.2
  obtain ⟨m1, m2, _⟩ := Mix_is 600 (a := a) (b := z) (k := (wL n).getD p.toNat 0) (o := 64) (add := 32) (by omega) (by omega) (by omega) (by omega) (by omega) (by omega)
  unfold bcseven_mix ref09_mix
  rw [h3, h4]
  simp only [Option.bind_some, h1, hp.1, i1, decide_true, Bool.and_self, cond_true, m1, m2]
  exact ⟨rfl, rfl⟩
theorem endF_bound (b : List Int) {m : BM} (ok : m.Ok) (j : Nat) : 0 ≤ endF b m j ∧ endF b m j ≤ 255 := by
  have h1 := ok.Ce
  have h2 := ok.Ae
  have h3 := ok.C1
  unfold endF eF
  split
  · split
    · omega
    · exact wideV_bound (by omega) _
  · exact wideV_bound (by omega) _
theorem firF_bound (b : List Int) {m : BM} (ok : m.Ok) (j : Nat) : 0 ≤ firF b m j ∧ firF b m j < 2 ^ m.f := by
  have h := lv_bound b (posF m.P (wN b m) m.f (bp2 m) j) (m.f - lessV m.P (wN b m) j)
  have h2 : (2 : Int) ^ (m.f - lessV m.P (wN b m) j) ≤ 2 ^ m.f := ipow_le (by omega)
  unfold firF firstV
  omega
theorem secF_bound (b : List Int) {m : BM} (ok : m.Ok) (hs : m.s ≠ 0) (j : Nat) : 0 ≤ secF b m j ∧ secF b m j < 2 ^ m.s := by
  have h := lv_bound b (posS m.s (bp3 b m) j) (m.s - if j = 0 then 1 else 0)
  have h2 : (2 : Int) ^ (m.s - if j = 0 then 1 else 0) ≤ 2 ^ m.s := ipow_le (by split <;> omega)
  unfold secF secV
  rw [if_neg hs]
  omega
def colP (b : List Int) (m : BM) (i : Nat) : Int × Nat := if m.s ≠ 0 ∧ cN b m = 1 then (secF b m i, m.s) else (firF b m i, m.f)
def alpP (b : List Int) (m : BM) (i : Nat) : Int × Nat := if m.s ≠ 0 ∧ cN b m ≠ 1 then (secF b m i, m.s) else (firF b m i, m.f)
def aF (b : List Int) (m : BM) (i c : Nat) : Int := endF b m (2 * partV m.P (wN b m) i * 4 + c)
def z9F (b : List Int) (m : BM) (i c : Nat) : Int := endF b m ((2 * partV m.P (wN b m) i + 1) * 4 + c)
def preV (b : List Int) (m : BM) (i c : Nat) : Int :=
  if c = 3 then mx (aF b m i 3) (z9F b m i 3) (alpP b m i).1 (alpP b m i).2 else mx (aF b m i c) (z9F b m i c) (colP b m i).1 (colP b m i).2
def turnV (t : Int) (g : Nat → Int) (c : Nat) : Int := if 0 < t then (if c = t.toNat - 1 then g 3 else if c = 3 then g (t.toNat - 1) else g c) else g c
def texV (b : List Int) (m : BM) (i c : Nat) : Int := turnV (tN b m) (preV b m i) c
theorem colP_ok (b : List Int) {m : BM} (ok : m.Ok) (i : Nat) : (2 ≤ (colP b m i).2 ∧ (colP b m i).2 ≤ 4) ∧ (0 ≤ (colP b m i).1 ∧ (colP b m i).1 < 2 ^ (colP b m i).2) := by
  have h1 := ok.f2
  have h2 := ok.f4
  have h3 := ok.s3
  have h4 := ok.s0
  unfold colP
  by_cases h : m.s ≠ 0 ∧ cN b m = 1
  · rw [if_pos h]
    exact ⟨by simp only; omega, secF_bound b ok h.1 i⟩
  · rw [if_neg h]
    exact ⟨by simp only; omega, firF_bound b ok i⟩
theorem alpP_ok (b : List Int) {m : BM} (ok : m.Ok) (i : Nat) : (2 ≤ (alpP b m i).2 ∧ (alpP b m i).2 ≤ 4) ∧ (0 ≤ (alpP b m i).1 ∧ (alpP b m i).1 < 2 ^ (alpP b m i).2) := by
  have h1 := ok.f2
  have h2 := ok.f4
  have h3 := ok.s3
  have h4 := ok.s0
  unfold alpP
  by_cases h : m.s ≠ 0 ∧ cN b m ≠ 1
  · rw [if_pos h]
    exact ⟨by simp only; omega, secF_bound b ok h.1 i⟩
  · rw [if_neg h]
    exact ⟨by simp only; omega, firF_bound b ok i⟩
theorem preV_bound (b : List Int) {m : BM} (ok : m.Ok) (i c : Nat) : 0 ≤ preV b m i c ∧ preV b m i c ≤ 255 := by
  obtain ⟨h1, h2⟩ := colP_ok b ok i
  obtain ⟨h3, h4⟩ := alpP_ok b ok i
  unfold preV
  split
  · exact mx_bound (endF_bound b ok _) (endF_bound b ok _) h3 h4
  · exact mx_bound (endF_bound b ok _) (endF_bound b ok _) h1 h2
theorem tN_bound (b : List Int) {m : BM} (ok : m.Ok) : 0 ≤ tN b m ∧ tN b m < 4 := by
  have h := lv_bound b (m.base + m.W) m.T
  have h2 : (2 : Int) ^ m.T ≤ 2 ^ 2 := ipow_le ok.T2
  unfold tN
  omega
theorem texV_bound (b : List Int) {m : BM} (ok : m.Ok) (i c : Nat) : 0 ≤ texV b m i c ∧ texV b m i c ≤ 255 := by
  unfold texV turnV
  split
  · split
    · exact preV_bound b ok _ _
    · split <;> exact preV_bound b ok _ _
  · exact preV_bound b ok _ _
theorem texel_l0_all (x0 : List Int) (x1 : Int) (x2 : Int) (x3 : Int) (x4 : Int) (x5 : Int) (x6 : Int) (x7 : Int) (x8 : Int) (x9 : Int) (x10 : Int) (x11 : Int) (x12 : Int) (x13 : Int) (x14 : List Int) (x15 : List Int) (x16 : List Int) (x21 : Int) (x22 : Int) {a z g : Nat → Int} {p : Int} {n : Nat} (hg : ∀ c, c < 3 → bcseven_mix 600 (a c) (z c) p (n : Int) = some (g c, ())) :
    ∀ (d c k : Nat), c + d = 3 → d < k → bcseven_fields_texel_l0 600 k x0 x1 x2 x3 x4 x5 x6 x7 x8 x9 x10 x11 x12 x13 x14 x15 x16 (tab 4 a) (tab 4 z) p ((n : Int)) x21 x22 (tab 4 (upT c g)) ((c : Int)) = some (x0, (x1, (x2, (x3, (x4, (x5, (x6, (x7, (x8, (x9, (x10, (x11, (x12, (x13, (x14, (x15, (x16, (tab 4 a, (tab 4 z, (x21, (x22, (tab 4 (upT 3 g), ())))))))))))))))))))))) := by
  intro d
  induction d with
  | zero =>
    intro c k h1 h2
    obtain ⟨k, rfl⟩ : ∃ k', k = k' + 1 := ⟨k - 1, by omega⟩
    obtain rfl : c = 3 := by omega
    unfold bcseven_fields_texel_l0 bcseven_fields_texel_l0S
    have : ¬ (((3 : Nat) : Int) < 3) := by omega
    simp only [this, decide_false, cond_false]
  | succ d ih =>
    intro c k h1 h2
    obtain ⟨k, rfl⟩ : ∃ k', k = k' + 1 := ⟨k - 1, by omega⟩
    have i1 : (c : Int) < 3 := by omega
    have i2 : (c : Int) < 4 := by omega
    unfold bcseven_fields_texel_l0 bcseven_fields_texel_l0S
    simp only [i1, i2, decide_true, cond_true, Int.natCast_nonneg, Bool.and_self, Int.toNat_natCast, tab_get (show c < 4 by omega), hg c (by omega), Option.bind_some, upT_set]
    rw [nextI (by omega)]
    exact ih (c + 1) k (by omega) (by omega)
theorem set3 (g : Nat → Int) : (tab 4 (upT 3 g)).set 3 (g 3) = tab 4 g := by
  rw [upT_set, upT_all]
theorem turn_list {t : Int} (ht : 0 ≤ t ∧ t < 4) (g : Nat → Int) (h : 0 < t) :
    List.set (List.set (tab 4 g) 3 ((tab 4 g).getD (t - 1).toNat 0)) (t - 1).toNat ((tab 4 g).getD 3 0) = tab 4 (turnV t g) := by
  have e : (t - 1).toNat = t.toNat - 1 := by omega
  rw [e, tab_get (by omega), tab_get (by omega), tab_set, tab_set]
  refine tab_congr fun j hj => ?_
  unfold turnV
  rw [if_pos h]
theorem texel_is (b : List Int) {m : BM} (ok : m.Ok) {i : Nat} (hi : i < 16) :
    bcseven_fields_texel 600 (tab (2 * m.P * 4) (endF b m)) (m.P : Int) (m.W : Int) (m.T : Int) (m.H : Int) (m.C : Int) (m.A : Int) (m.e : Int) (m.o : Int) (m.f : Int) (m.s : Int) (wN b m : Int) (tN b m) (cN b m) (tab 16 (firF b m)) (tab 16 (secF b m)) (i : Int) = some (tab 4 (texV b m i), ()) := by
  obtain ⟨q1, _, q3⟩ := part9 ok.P1 ok.P3 (wN_is b ok).2 hi
  have hP3 := ok.P3
  have ht := tN_bound b ok
  have hcol := colP_ok b ok i
  have halp := alpP_ok b ok i
  have i2 : (2 * m.P * 4) / 4 = 2 * m.P := by omega
  have e1 : IntKind.wrap .i64 (2 * ((partV m.P (wN b m) i : Nat) : Int)) = ((2 * partV m.P (wN b m) i : Nat) : Int) := by rw [w64 (by omega) (by omega)]; omega
  have i3 : ((2 * partV m.P (wN b m) i : Nat) : Int) < ((2 * m.P : Nat) : Int) := by omega
  have i4 : ((2 * partV m.P (wN b m) i + 1 : Nat) : Int) < ((2 * m.P : Nat) : Int) := by omega
  have i5 : (i : Int) < 16 := by omega
  have r1 : List.take 4 (List.drop (2 * partV m.P (wN b m) i * 4) (tab (2 * m.P * 4) (endF b m))) = tab 4 (aF b m i) := tab_part (by omega)
  have r2 : List.take 4 (List.drop ((2 * partV m.P (wN b m) i + 1) * 4) (tab (2 * m.P * 4) (endF b m))) = tab 4 (z9F b m i) := tab_part (by omega)
  have fin : (bif decide ((0 : Int) < tN b m) then
      (let v : Int := (IntKind.wrap .i64 (tN b m - (1 : Int)))
      let b1 : Bool := ((decide ((0 : Int) ≤ v)) && (decide (v < (4 : Int))))
      cond b1
        (cond b1
          (some ((List.set (List.set (tab 4 (preV b m i)) 3 (List.getD (tab 4 (preV b m i)) (Int.toNat v) (0 : Int))) (Int.toNat v) (List.getD (tab 4 (preV b m i)) 3 (0 : Int))), ()))
          (none))
        (none))
      else some (tab 4 (preV b m i), ())) = some (tab 4 (texV b m i), ()) := by
    by_cases h : 0 < tN b m
    · have ew : IntKind.wrap .i64 (tN b m - 1) = tN b m - 1 := w64 (by omega) (by omega)
      have j1 : (0 : Int) ≤ tN b m - 1 := by omega
      have j2 : tN b m - 1 < 4 := by omega
      simp only [h, decide_true, cond_true, ew, j1, j2, Bool.and_self, turn_list ht _ h]
      rfl
    · simp only [h, decide_false, cond_false]
      rw [tab_congr fun j hj => show preV b m i j = texV b m i j by
        unfold texV turnV
        rw [if_neg h]]
  unfold bcseven_fields_texel
  simp only [q1, Option.bind_some, tab_len, i2, e1]
  rw [nextI (by omega)]
  simp only [i3, i4, i5, r1, r2, decide_true, cond_true, Int.natCast_nonneg, Bool.and_self, Int.toNat_natCast, tab_get hi]
  by_cases hs : m.s = 0
  · have g1 : ¬ (0 : Int) < (m.s : Int) := by omega
    have hc1 : colP b m i = (firF b m i, m.f) := if_neg (by omega)
    have ha1 : alpP b m i = (firF b m i, m.f) := if_neg (by omega)
    rw [hc1] at hcol
    rw [ha1] at halp
    have g2 := beqF (show cN b m ≠ 1 by
      have := lv_bound b (m.base + m.W + m.T) m.H
      rw [ok.Hs hs] at this
      unfold cN
      rw [ok.Hs hs]
      omega)
    have l0 := texel_l0_all (tab (2 * m.P * 4) (endF b m)) ((m.P : Int)) ((m.W : Int)) ((m.T : Int)) ((m.H : Int)) ((m.C : Int)) ((m.A : Int)) ((m.e : Int)) ((m.o : Int)) ((m.f : Int)) ((m.s : Int)) ((wN b m : Int)) (tN b m) (cN b m) (tab 16 (firF b m)) (tab 16 (secF b m)) ([0, 0, 0, 0]) (firF b m i) ((m.f : Int)) (a := aF b m i) (z := z9F b m i) (g := preV b m i) (p := firF b m i) (n := m.f) (fun c hc => by
      have := (mix9 (endF_bound b ok (2 * partV m.P (wN b m) i * 4 + c)) (endF_bound b ok ((2 * partV m.P (wN b m) i + 1) * 4 + c)) hcol.1 hcol.2).1
      unfold preV
      rw [if_neg (by omega), hc1]
      exact this) 3 0 600 (by omega) (by omega)
    have m3 := (mix9 (endF_bound b ok (2 * partV m.P (wN b m) i * 4 + 3)) (endF_bound b ok ((2 * partV m.P (wN b m) i + 1) * 4 + 3)) halp.1 halp.2).1
    have p3 : mx (aF b m i 3) (z9F b m i 3) (firF b m i) (m.f) = preV b m i 3 := by
      unfold preV
      rw [if_pos rfl, ha1]
    change bcseven_mix 600 (aF b m i 3) (z9F b m i 3) (firF b m i) (m.f : Int) = some (mx (aF b m i 3) (z9F b m i 3) (firF b m i) (m.f), ()) at m3
    rw [p3] at m3
    rw [upT_zero] at l0
    rw [show ((0 : Nat) : Int) = 0 from rfl, show (tab 4 fun _ => 0) = [0, 0, 0, 0] from rfl] at l0
    simp only [g1, g2, decide_true, decide_false, cond_true, cond_false, l0, Option.bind_some, tab_get (show 3 < 4 by omega), m3]
    rw [set3 (preV b m i)]
    exact fin
  · have g1 : (0 : Int) < (m.s : Int) := by omega
    by_cases hch : cN b m = 1
    · have g2 := beqT hch
      have hc1 : colP b m i = (secF b m i, m.s) := if_pos ⟨hs, hch⟩
      have ha1 : alpP b m i = (firF b m i, m.f) := if_neg (fun h => h.2 hch)
      rw [hc1] at hcol
      rw [ha1] at halp
      have l0 := texel_l0_all (tab (2 * m.P * 4) (endF b m)) ((m.P : Int)) ((m.W : Int)) ((m.T : Int)) ((m.H : Int)) ((m.C : Int)) ((m.A : Int)) ((m.e : Int)) ((m.o : Int)) ((m.f : Int)) ((m.s : Int)) ((wN b m : Int)) (tN b m) (cN b m) (tab 16 (firF b m)) (tab 16 (secF b m)) ([0, 0, 0, 0]) (firF b m i) ((m.f : Int)) (a := aF b m i) (z := z9F b m i) (g := preV b m i) (p := secF b m i) (n := m.s) (fun c hc => by
        have := (mix9 (endF_bound b ok (2 * partV m.P (wN b m) i * 4 + c)) (endF_bound b ok ((2 * partV m.P (wN b m) i + 1) * 4 + c)) hcol.1 hcol.2).1
        unfold preV
        rw [if_neg (by omega), hc1]
        exact this) 3 0 600 (by omega) (by omega)
      have m3 := (mix9 (endF_bound b ok (2 * partV m.P (wN b m) i * 4 + 3)) (endF_bound b ok ((2 * partV m.P (wN b m) i + 1) * 4 + 3)) halp.1 halp.2).1
      have p3 : mx (aF b m i 3) (z9F b m i 3) (firF b m i) (m.f) = preV b m i 3 := by
        unfold preV
        rw [if_pos rfl, ha1]
      change bcseven_mix 600 (aF b m i 3) (z9F b m i 3) (firF b m i) (m.f : Int) = some (mx (aF b m i 3) (z9F b m i 3) (firF b m i) (m.f), ()) at m3
      rw [p3] at m3
      rw [upT_zero] at l0
      rw [show ((0 : Nat) : Int) = 0 from rfl, show (tab 4 fun _ => 0) = [0, 0, 0, 0] from rfl] at l0
      simp only [g1, g2, decide_true, decide_false, cond_true, cond_false, l0, Option.bind_some, tab_get (show 3 < 4 by omega), m3]
      rw [set3 (preV b m i)]
      exact fin
    · have g2 := beqF hch
      have hc1 : colP b m i = (firF b m i, m.f) := if_neg (fun h => hch h.2)
      have ha1 : alpP b m i = (secF b m i, m.s) := if_pos ⟨hs, hch⟩
      rw [hc1] at hcol
      rw [ha1] at halp
      have l0 := texel_l0_all (tab (2 * m.P * 4) (endF b m)) ((m.P : Int)) ((m.W : Int)) ((m.T : Int)) ((m.H : Int)) ((m.C : Int)) ((m.A : Int)) ((m.e : Int)) ((m.o : Int)) ((m.f : Int)) ((m.s : Int)) ((wN b m : Int)) (tN b m) (cN b m) (tab 16 (firF b m)) (tab 16 (secF b m)) ([0, 0, 0, 0]) (secF b m i) ((m.s : Int)) (a := aF b m i) (z := z9F b m i) (g := preV b m i) (p := firF b m i) (n := m.f) (fun c hc => by
        have := (mix9 (endF_bound b ok (2 * partV m.P (wN b m) i * 4 + c)) (endF_bound b ok ((2 * partV m.P (wN b m) i + 1) * 4 + c)) hcol.1 hcol.2).1
        unfold preV
        rw [if_neg (by omega), hc1]
        exact this) 3 0 600 (by omega) (by omega)
      have m3 := (mix9 (endF_bound b ok (2 * partV m.P (wN b m) i * 4 + 3)) (endF_bound b ok ((2 * partV m.P (wN b m) i + 1) * 4 + 3)) halp.1 halp.2).1
      have p3 : mx (aF b m i 3) (z9F b m i 3) (secF b m i) (m.s) = preV b m i 3 := by
        unfold preV
        rw [if_pos rfl, ha1]
      change bcseven_mix 600 (aF b m i 3) (z9F b m i 3) (secF b m i) (m.s : Int) = some (mx (aF b m i 3) (z9F b m i 3) (secF b m i) (m.s), ()) at m3
      rw [p3] at m3
      rw [upT_zero] at l0
      rw [show ((0 : Nat) : Int) = 0 from rfl, show (tab 4 fun _ => 0) = [0, 0, 0, 0] from rfl] at l0
      simp only [g1, g2, decide_true, decide_false, cond_true, cond_false, l0, Option.bind_some, tab_get (show 3 < 4 by omega), m3]
      rw [set3 (preV b m i)]
      exact fin
def decF (b : List Int) (m : BM) (j : Nat) : Int := texV b m (j / 4) (j % 4)
theorem Decode_l0_all (b : List Int) {m : BM} (ok : m.Ok) (x0 : List Int) :
    ∀ (d i k : Nat), i + d = 16 → d < k → bcseven_Decode_l0 600 k x0 (tab 64 (upT (i * 4) (decF b m))) (tab (2 * m.P * 4) (endF b m)) ((m.P : Int)) ((m.W : Int)) ((m.T : Int)) ((m.H : Int)) ((m.C : Int)) ((m.A : Int)) ((m.e : Int)) ((m.o : Int)) ((m.f : Int)) ((m.s : Int)) ((wN b m : Int)) (tN b m) (cN b m) (tab 16 (firF b m)) (tab 16 (secF b m)) ((i : Int)) = some (x0, (tab 64 (decF b m), ())) := by
  intro d
  induction d with
  | zero =>
    intro i k h1 h2
    obtain ⟨k, rfl⟩ : ∃ k', k = k' + 1 := ⟨k - 1, by omega⟩
    obtain rfl : i = 16 := by omega
    unfold bcseven_Decode_l0 bcseven_Decode_l0S
    have : ¬ (((16 : Nat) : Int) < 16) := by omega
    simp only [this, decide_false, cond_false]
    rw [show 16 * 4 = 64 from rfl, upT_all]
  | succ d ih =>
    intro i k h1 h2
    obtain ⟨k, rfl⟩ : ∃ k', k = k' + 1 := ⟨k - 1, by omega⟩
    have hi : i < 16 := by omega
    have i1 : (i : Int) < 16 := by omega
    unfold bcseven_Decode_l0 bcseven_Decode_l0S
    simp only [i1, decide_true, cond_true, Int.natCast_nonneg, Bool.and_self, Int.toNat_natCast, texel_is b ok hi, Option.bind_some]
    rw [nextI (by omega), tab_row (by omega), tab_congr fun j hj => show (if j / 4 = i then texV b m i (j % 4) else upT (i * 4) (decF b m) j) = upT ((i + 1) * 4) (decF b m) j by
      unfold upT decF
      by_cases h : j / 4 = i
      · rw [if_pos h, if_pos (by omega), h]
      · rw [if_neg h]
        by_cases h2 : j < i * 4
        · rw [if_pos h2, if_pos (by omega)]
        · rw [if_neg h2, if_neg (by omega)]]
    exact ih (i + 1) k (by omega) (by omega)
def modeV (x : Int) : Nat := (math_bits_TrailingZeros8T292.getD x.toNat 0).toNat
theorem mode_closed : ((List.range 256).all fun x => (math_bits_TrailingZeros8T292.getD x 0 == ((modeV x : Nat) : Int)) && (decide (modeV x ≤ 8) && ((List.range 8).all fun i => (decide (i < modeV x) && ((x / 2 ^ i % 2) == 0)) || (decide (modeV x < i) || decide (i = modeV x ∧ x / 2 ^ i % 2 = 1))))) = true := by decide +kernel
theorem mode_fact {x : Int} (h : 0 ≤ x ∧ x ≤ 255) : math_bits_TrailingZeros8 600 x = some ((modeV x : Int), ()) ∧ modeV x ≤ 8 ∧ (∀ i, i < modeV x → bitL x i = 0) ∧ (modeV x < 8 → bitL x (modeV x) = 1) := by
  obtain ⟨x, rfl⟩ := Int.eq_ofNat_of_zero_le h.1
  have := List.all_eq_true.1 mode_closed x (by simp; omega)
  simp only [Bool.and_eq_true, beq_iff_eq, decide_eq_true_eq] at this
  obtain ⟨h1, h2, h3⟩ := this
  have hb : ∀ i, bitL (x : Int) i = ((x / 2 ^ i % 2 : Nat) : Int) := fun i => by
    unfold bitL
    rw [Int.natCast_emod, Int.natCast_ediv, Int.natCast_pow]
    rfl
  refine ⟨?_, h2, fun i hi => ?_, fun h8 => ?_⟩
  · unfold math_bits_TrailingZeros8
    have i1 : (x : Int) < 256 := by omega
    simp only [Int.natCast_nonneg, i1, decide_true, Bool.and_self, cond_true, Int.toNat_natCast, h1]
  · have := List.all_eq_true.1 h3 i (by simp; omega)
    simp only [Bool.or_eq_true, Bool.and_eq_true, decide_eq_true_eq, beq_iff_eq] at this
    rw [hb]
    omega
  · have := List.all_eq_true.1 h3 (modeV x) (by simpa using h8)
    simp only [Bool.or_eq_true, Bool.and_eq_true, decide_eq_true_eq, beq_iff_eq] at this
    rw [hb]
    omega
theorem Mode_is {b : List Int} (hb : Bytes b) (hl : b.length = 16) : bcseven_Mode 600 b = some ((modeV (b.getD 0 0) : Int), ()) := by
  have h := mode_fact (hb.getD 0)
  unfold bcseven_Mode
  rw [hl, h.1]
  rfl
theorem zero64 : bcseven_DecodeT283 = tab 64 fun _ => 0 := by decide +kernel
def decAll (b : List Int) : List Int := if modeV (b.getD 0 0) = 8 then bcseven_DecodeT283 else tab 64 (decF b (bmOf (modeV (b.getD 0 0))))
theorem Decode9_is {b : List Int} (hb : Bytes b) (hl : b.length = 16) : bcseven_Decode 600 b = some (decAll b, (0, ())) := by
  have h := mode_fact (hb.getD 0)
  have hn : (((b.length : Nat) : Int) != 16) = false := by rw [hl]; rfl
  unfold bcseven_Decode decAll
  rw [hn, Mode_is hb hl]
  simp only [cond_false, Option.bind_some]
  by_cases h8 : modeV (b.getD 0 0) = 8
  · rw [h8, if_pos rfl]
    rfl
  · rw [if_neg h8, beqF (by omega)]
    have hk : modeV (b.getD 0 0) < 8 := by omega
    simp only [cond_false, read9_is hb hl hk rfl, Option.bind_some]
    have d := Decode_l0_all b (bm_ok hk) bcseven_DecodeT283 16 0 600 (by omega) (by omega)
    rw [Nat.zero_mul, upT_zero, ← zero64, show ((0 : Nat) : Int) = 0 from rfl] at d
    rw [d]
    rfl
end Go.AE.Gn
set_option linter.unusedVariables false
set_option linter.unusedSimpArgs false
namespace Go.AE.Gn
open Go Go.AE
def g1 (b : List Int) (m : BM) (p0 p1 j : Nat) : Int := 2 ^ (m.e + m.o) * e0 b m p0 j + bitV b m p1 (j / 4)
end Go.AE.Gn
set_option linter.unusedVariables false
set_option linter.unusedSimpArgs false
namespace Go.AE.Gn
open Go Go.AE
theorem tz_closed : ((List.range 256).all fun x => decide ((math_bits_TrailingZeros8T292.getD x 0).toNat ≤ 8)) = true := by decide +kernel
theorem decAll_get (b : List Int) {j : Nat} (hj : j < 64) : 0 ≤ (decAll b).getD j 0 ∧ (decAll b).getD j 0 ≤ 255 := by
  unfold decAll
  split
  · rw [zero64, tab_get hj]
    omega
  · rename_i h
    rw [tab_get hj]
    by_cases hk : modeV (b.getD 0 0) < 8
    · exact texV_bound b (bm_ok hk) _ _
    · exfalso
      have : ∀ x : Int, modeV x ≤ 8 := fun x => by
        unfold modeV
        by_cases h2 : x.toNat < 256
        · have := List.all_eq_true.1 tz_closed x.toNat (by simpa using h2)
          simpa using this
        · have h3 : math_bits_TrailingZeros8T292.length = 256 := by decide +kernel
          rw [List.getD_eq_getElem?_getD, List.getElem?_eq_none (by omega)]
          decide
      have := this (b.getD 0 0)
      omega
end Go.AE.Gn
set_option linter.unusedSimpArgs false
set_option linter.unusedVariables false
namespace Go.AE.Gn
open Go Go.AE
abbrev Blk10 := Bool × (Bool × (List Int × (List Int × (List Int × (List Int × Unit)))))
def col10 (i : Nat) : Nat := 4 * (i % 4) + i / 4
theorem column_closed : ((List.range 16).all fun i => etcone_column 0 i == some ((col10 i : Int), ())) = true := by kernel_rfl
theorem column_is (F : Nat) {i : Nat} (h : i < 16) : etcone_column F i = some ((col10 i : Int), ()) := by
  have := List.all_eq_true.1 column_closed i (by simpa using h)
  have e : etcone_column F i = etcone_column 0 i := rfl
  rw [e]
  simpa using this
theorem rcol_is {i : Nat} (h : i < 16) : IntKind.wrap .i64 (IntKind.wrap .i64 (4 * Int.tmod (i : Int) 4) + IntKind.wrap .i64 (Int.tdiv (i : Int) 4)) = (col10 i : Int) := by
  have := column_is 0 h
  unfold etcone_column at this
  simpa using this
theorem col10_lt {i : Nat} (h : i < 16) : col10 i ≤ 15 := by unfold col10; omega
theorem get10 {F : Nat} (hF : 66 ≤ F) {b : List Int} (hb : Bytes b) (hl : b.length = 8) {a n : Nat} (hn : n ≤ 16) (h : a + n ≤ 64) : etcone_Parts_c1 F a n b = some (hv b a n, ()) := by
  unfold etcone_Parts_c1
  have h1 := hv_bound b a n
  have h2 : (2 : Int) ^ n ≤ 2 ^ 16 := ipow_le hn
  rw [High_hv hF hb (by omega) (by omega) (by omega)]
  simp only [Option.bind_some]
  rw [w64 (by omega) (by omega)]
theorem rget10 {F : Nat} (hF : 66 ≤ F) {b : List Int} (hb : Bytes b) (hl : b.length = 8) {a n : Nat} (hn : n ≤ 16) (h : a + n ≤ 64) : ref02_Top F b a n = some (hv b a n, ()) := by
  unfold ref02_Top
  have h1 := hv_bound b a n
  have h2 : (2 : Int) ^ n ≤ 2 ^ 16 := ipow_le hn
  rw [Get_is hF hb (by omega)]
  simp only [Option.bind_some, if_true]
  rw [highV_hv (by omega) (by omega), w64 (by omega) (by omega)]
def sg3 (x : Int) : Int := if 4 ≤ x then x - 8 else x
def eA (d : Bool) (b : List Int) (c : Nat) : Int := if d then hv b (8 * c) 5 else hv b (8 * c) 4
def eB (d : Bool) (b : List Int) (c : Nat) : Int := if d then sg3 (hv b (8 * c + 5) 3) else hv b (8 * c + 4) 4
def eAs (d : Bool) (b : List Int) : List Int := [eA d b 0, eA d b 1, eA d b 2]
def eBs (d : Bool) (b : List Int) : List Int := [eB d b 0, eB d b 1, eB d b 2]
def eWs (b : List Int) : List Int := (List.range 16).map fun i => 2 * hv b (47 - col10 i) 1 + hv b (63 - col10 i) 1
def eDiff (b : List Int) : Bool := hv b 30 1 == 1
def eFlip (b : List Int) : Bool := hv b 31 1 == 1
def eP (b : List Int) : Blk10 := (eDiff b, (eFlip b, (eAs (eDiff b) b, (eBs (eDiff b) b, ([hv b 24 3, hv b 27 3], (eWs b, ()))))))
theorem three_fill {N : Nat} (hN : N = 3) {x : List Int} (hx : x.length = 3) (a b c : Int) : ((x.set 0 a).set 1 b).set 2 c = [a, b, c] := by
  match x, hx with
  | [p, q, r], _ => rfl
theorem Parts10_l0_step {F : Nat} (hF : 66 ≤ F) {b : List Int} (hb : Bytes b) (hl : b.length = 8) (k : Nat) (x0 x1 x2 x3 : List Int) (d f : Bool) (A B : List Int) (hA : A.length = 3) (hB : B.length = 3) (x8 x9 : List Int) {i : Nat} (hi : i < 3) :
    etcone_Parts_l0 F (k + 1) x0 x1 x2 x3 d f A B x8 x9 b i = etcone_Parts_l0 F k x0 x1 x2 x3 d f (A.set i (eA d b i)) (B.set i (eB d b i)) x8 x9 b ((i + 1 : Nat) : Int) := by
  have h0 : etcone_Parts_l0 F (k + 1) x0 x1 x2 x3 d f A B x8 x9 b i = etcone_Parts_l0S F (etcone_Parts_l0 F k) x0 x1 x2 x3 d f A B x8 x9 b i := rfl
  rw [h0]
  unfold etcone_Parts_l0S
  have h1 : (i : Int) < 3 := by omega
  have e8 : IntKind.wrap .i64 ((8 : Int) * (i : Int)) = ((8 * i : Nat) : Int) := by rw [w64 (by omega) (by omega)]; omega
  have e4 : IntKind.wrap .i64 (((8 * i : Nat) : Int) + 4) = ((8 * i + 4 : Nat) : Int) := by rw [w64 (by omega) (by omega)]; omega
  have e5 : IntKind.wrap .i64 (((8 * i : Nat) : Int) + 5) = ((8 * i + 5 : Nat) : Int) := by rw [w64 (by omega) (by omega)]; omega
  have g1 := get10 hF hb hl (a := 8 * i) (n := 4) (by decide) (by omega)
  have g2 := get10 hF hb hl (a := 8 * i + 4) (n := 4) (by decide) (by omega)
  have g3 := get10 hF hb hl (a := 8 * i) (n := 5) (by decide) (by omega)
  have g4 := get10 hF hb hl (a := 8 * i + 5) (n := 3) (by decide) (by omega)
  have q4 := hv_bound b (8 * i + 5) 3
  simp only [Int.cast_ofNat_Int] at g1 g2 g3 g4
  have hget : ∀ v, (B.set i v).getD i 0 = v := fun v => by rw [getD_set _ _ _ _ (by omega), if_pos rfl]
  have hset : ∀ v w, (B.set i v).set i w = B.set i w := fun v w => List.set_set ..
  simp only [h1, decide_true, cond_true, e8, e4, e5, Int.natCast_nonneg, Bool.and_self, g1, g2, g3, g4, Option.bind_some, Int.toNat_natCast, hget, hset, nextI (show i < 1000000000000 by omega)]
  cases d
  · rfl
  · simp only [Bool.not_true, cond_false]
    unfold eA eB sg3
    by_cases h : 4 ≤ hv b (8 * i + 5) 3
    · simp only [h, decide_true, cond_true, if_true]
      rw [w64 (by omega) (by omega)]
      rfl
    · simp only [h, decide_false, cond_false, if_true, if_false]
theorem Parts10_l0_is {F : Nat} (hF : 66 ≤ F) {b : List Int} (hb : Bytes b) (hl : b.length = 8) (x0 x1 x2 x3 : List Int) (d f : Bool) {A B : List Int} (hA : A.length = 3) (hB : B.length = 3) (x8 x9 : List Int) :
    etcone_Parts_l0 F F x0 x1 x2 x3 d f A B x8 x9 b 0 = some (x0, (x1, (x2, (x3, (d, (f, (eAs d b, (eBs d b, (x8, (x9, (b, ()))))))))))) := by
  obtain ⟨n, rfl⟩ : ∃ n, F = n + 4 := ⟨F - 4, by omega⟩
  have s0 := Parts10_l0_step hF hb hl (n + 3) x0 x1 x2 x3 d f A B hA hB x8 x9 (i := 0) (by decide)
  have s1 := Parts10_l0_step hF hb hl (n + 2) x0 x1 x2 x3 d f (A.set 0 (eA d b 0)) (B.set 0 (eB d b 0)) (by simp [hA]) (by simp [hB]) x8 x9 (i := 1) (by decide)
  have s2 := Parts10_l0_step hF hb hl (n + 1) x0 x1 x2 x3 d f ((A.set 0 (eA d b 0)).set 1 (eA d b 1)) ((B.set 0 (eB d b 0)).set 1 (eB d b 1)) (by simp [hA]) (by simp [hB]) x8 x9 (i := 2) (by decide)
  simp only [Nat.zero_add, Nat.reduceAdd, Int.natCast_zero] at s0 s1 s2
  rw [s0, s1, s2, three_fill rfl hA, three_fill rfl hB]
  rfl
theorem Parts10_l2_is {F : Nat} (hF : 66 ≤ F) {b : List Int} (hb : Bytes b) (hl : b.length = 8) (x0 x1 x2 x3 : List Int) (d f : Bool) (A B T : List Int) {W : List Int} (hW : W.length = 16) :
    etcone_Parts_l2 F F x0 x1 x2 x3 d f A B T W b 0 = some (x0, (x1, (x2, (x3, (d, (f, (A, (B, (T, (eWs b, ())))))))))) := by
  refine fill_loop 16 (fun i => 2 * hv b (47 - col10 i) 1 + hv b (63 - col10 i) 1) (fun k w i => etcone_Parts_l2 F k x0 x1 x2 x3 d f A B T w b i) (fun w => some (x0, (x1, (x2, (x3, (d, (f, (A, (B, (T, (w, ()))))))))))) ?_ ?_ _ hW F (by omega)
  · intro k i w hi hw
    show etcone_Parts_l2S F (etcone_Parts_l2 F k) x0 x1 x2 x3 d f A B T w b i = _
    unfold etcone_Parts_l2S
    have hc := col10_lt hi
    have g1 := get10 hF hb hl (a := 47 - col10 i) (n := 1) (by decide) (by omega)
    have g2 := get10 hF hb hl (a := 63 - col10 i) (n := 1) (by decide) (by omega)
    have e1 : IntKind.wrap .i64 ((47 : Int) - (col10 i : Int)) = ((47 - col10 i : Nat) : Int) := by rw [w64 (by omega) (by omega)]; omega
    have e2 : IntKind.wrap .i64 ((63 : Int) - (col10 i : Int)) = ((63 - col10 i : Nat) : Int) := by rw [w64 (by omega) (by omega)]; omega
    have b1 := hv_bound b (47 - col10 i) 1
    have b2 := hv_bound b (63 - col10 i) 1
    simp only [Int.cast_ofNat_Int] at g1 g2
    have h1 : (i : Int) < 16 := by omega
    simp only [h1, decide_true, cond_true, column_is F hi, Option.bind_some, e1, e2, g1, g2, Int.natCast_nonneg, Bool.and_self, Int.toNat_natCast, nextI (show i < 1000000000000 by omega)]
    rw [w64 (x := 2 * _) (by omega) (by omega), w64 (by omega) (by omega)]
  · intro k w hw
    show etcone_Parts_l2S F (etcone_Parts_l2 F k) x0 x1 x2 x3 d f A B T w b 16 = _
    unfold etcone_Parts_l2S
    simp
theorem Parts10_is {F : Nat} (hF : 66 ≤ F) {b : List Int} (hb : Bytes b) (hl : b.length = 8) : etcone_Parts F b = some (eP b, (0, ())) := by
  unfold etcone_Parts
  have e : ((b.length : Int) != 8) = false := by rw [hl]; rfl
  have g1 := get10 hF hb hl (a := 30) (n := 1) (by decide) (by decide)
  have g2 := get10 hF hb hl (a := 31) (n := 1) (by decide) (by decide)
  have g3 := get10 hF hb hl (a := 24) (n := 3) (by decide) (by decide)
  have g4 := get10 hF hb hl (a := 27) (n := 3) (by decide) (by decide)
  simp only [Int.cast_ofNat_Int] at g1 g2 g3 g4
  simp only [e, cond_false, g1, g2, Option.bind_some]
  rw [Parts10_l0_is hF hb hl _ _ _ _ _ _ rfl rfl]
  simp only [Option.bind_some, g3, g4]
  rw [Parts10_l2_is hF hb hl _ _ _ _ _ _ _ _ _ rfl]
  rfl
theorem Which10_is {F : Nat} (hF : 66 ≤ F) {b : List Int} (hb : Bytes b) (hl : b.length = 8) : ref10_Which F b = some (eWs b, ()) := by
  have loop : ∀ T W : List Int, W.length = 16 → ref10_Which_l0 F F b T W 0 = some (T, (eWs b, ())) := by
    intro T W hW
    refine fill_loop 16 (fun i => 2 * hv b (47 - col10 i) 1 + hv b (63 - col10 i) 1) (fun k w i => ref10_Which_l0 F k b T w i) (fun w => some (T, (w, ()))) ?_ ?_ _ hW F (by omega)
    · intro k i w hi hw
      show ref10_Which_l0S F (ref10_Which_l0 F k) b T w i = _
      unfold ref10_Which_l0S
      have hc := col10_lt hi
      have g1 := rget10 hF hb hl (a := 47 - col10 i) (n := 1) (by decide) (by omega)
      have g2 := rget10 hF hb hl (a := 63 - col10 i) (n := 1) (by decide) (by omega)
      have e1 : IntKind.wrap .i64 ((47 : Int) - (col10 i : Int)) = ((47 - col10 i : Nat) : Int) := by rw [w64 (by omega) (by omega)]; omega
      have e2 : IntKind.wrap .i64 ((63 : Int) - (col10 i : Int)) = ((63 - col10 i : Nat) : Int) := by rw [w64 (by omega) (by omega)]; omega
      have b1 := hv_bound b (47 - col10 i) 1
      have b2 := hv_bound b (63 - col10 i) 1
      simp only [Int.cast_ofNat_Int] at g1 g2
      have h1 : (i : Int) < 16 := by omega
      simp only [h1, decide_true, cond_true, rcol_is hi, Option.bind_some, e1, e2, g1, g2, Int.natCast_nonneg, Bool.and_self, Int.toNat_natCast, nextI (show i < 1000000000000 by omega)]
      rw [w64 (x := 2 * _) (by omega) (by omega), w64 (by omega) (by omega)]
    · intro k w hw
      show ref10_Which_l0S F (ref10_Which_l0 F k) b T w 16 = _
      unfold ref10_Which_l0S
      simp
  unfold ref10_Which
  rw [loop _ _ rfl]
  rfl
theorem rParts10_l0_step {F : Nat} (hF : 66 ≤ F) {b : List Int} (hb : Bytes b) (hl : b.length = 8) (k : Nat) (x1 x2 x3 x4 : List Int) (d f : Bool) (A B : List Int) (hA : A.length = 3) (hB : B.length = 3) (x8 x9 : List Int) {i : Nat} (hi : i < 3) :
    ref10_Parts_l0 F (k + 1) b x1 x2 x3 x4 d f A B x8 x9 i = ref10_Parts_l0 F k b x1 x2 x3 x4 d f (A.set i (eA d b i)) (B.set i (eB d b i)) x8 x9 ((i + 1 : Nat) : Int) := by
  have h0 : ref10_Parts_l0 F (k + 1) b x1 x2 x3 x4 d f A B x8 x9 i = ref10_Parts_l0S F (ref10_Parts_l0 F k) b x1 x2 x3 x4 d f A B x8 x9 i := rfl
  rw [h0]
  unfold ref10_Parts_l0S
  have h1 : (i : Int) < 3 := by omega
  have e8 : IntKind.wrap .i64 ((8 : Int) * (i : Int)) = ((8 * i : Nat) : Int) := by rw [w64 (by omega) (by omega)]; omega
  have e4 : IntKind.wrap .i64 (((8 * i : Nat) : Int) + 4) = ((8 * i + 4 : Nat) : Int) := by rw [w64 (by omega) (by omega)]; omega
  have e5 : IntKind.wrap .i64 (((8 * i : Nat) : Int) + 5) = ((8 * i + 5 : Nat) : Int) := by rw [w64 (by omega) (by omega)]; omega
  have g1 := rget10 hF hb hl (a := 8 * i) (n := 4) (by decide) (by omega)
  have g2 := rget10 hF hb hl (a := 8 * i + 4) (n := 4) (by decide) (by omega)
  have g3 := rget10 hF hb hl (a := 8 * i) (n := 5) (by decide) (by omega)
  have g4 := rget10 hF hb hl (a := 8 * i + 5) (n := 3) (by decide) (by omega)
  have q4 := hv_bound b (8 * i + 5) 3
  simp only [Int.cast_ofNat_Int] at g1 g2 g3 g4
  have hget : ∀ v, (B.set i v).getD i 0 = v := fun v => by rw [getD_set _ _ _ _ (by omega), if_pos rfl]
  have hset : ∀ v w, (B.set i v).set i w = B.set i w := fun v w => List.set_set ..
  simp only [h1, decide_true, cond_true, e8, e4, e5, Int.natCast_nonneg, Bool.and_self, g1, g2, g3, g4, Option.bind_some, Int.toNat_natCast, hget, hset, nextI (show i < 1000000000000 by omega)]
  cases d
  · rfl
  · simp only [cond_true]
    unfold eA eB sg3
    by_cases h : 4 ≤ hv b (8 * i + 5) 3
    · have h' : 3 < hv b (8 * i + 5) 3 := by omega
      simp only [h, h', decide_true, cond_true, if_true]
      rw [w64 (by omega) (by omega)]
    · have h' : ¬ 3 < hv b (8 * i + 5) 3 := by omega
      simp only [h, h', decide_false, cond_false, if_true, if_false]
theorem rParts10_is {F : Nat} (hF : 66 ≤ F) {b : List Int} (hb : Bytes b) (hl : b.length = 8) : ref10_Parts F b = some (eP b, (0, ())) := by
  unfold ref10_Parts
  have e : ((b.length : Int) != 8) = false := by rw [hl]; rfl
  have g1 := rget10 hF hb hl (a := 30) (n := 1) (by decide) (by decide)
  have g2 := rget10 hF hb hl (a := 31) (n := 1) (by decide) (by decide)
  have g3 := rget10 hF hb hl (a := 24) (n := 3) (by decide) (by decide)
  have g4 := rget10 hF hb hl (a := 27) (n := 3) (by decide) (by decide)
  have loop : ∀ (x1 x2 x3 x4 : List Int) (d f : Bool) (A B : List Int) (hA : A.length = 3) (hB : B.length = 3) (x8 x9 : List Int), ref10_Parts_l0 F F b x1 x2 x3 x4 d f A B x8 x9 0 = some (b, (x1, (x2, (x3, (x4, (d, (f, (eAs d b, (eBs d b, (x8, (x9, ()))))))))))) := by
    intro x1 x2 x3 x4 d f A B hA hB x8 x9
    clear g1 g2 g3 g4
    obtain ⟨n, rfl⟩ : ∃ n, F = n + 4 := ⟨F - 4, by omega⟩
    have s0 := rParts10_l0_step hF hb hl (n + 3) x1 x2 x3 x4 d f A B hA hB x8 x9 (i := 0) (by decide)
    have s1 := rParts10_l0_step hF hb hl (n + 2) x1 x2 x3 x4 d f (A.set 0 (eA d b 0)) (B.set 0 (eB d b 0)) (by simp [hA]) (by simp [hB]) x8 x9 (i := 1) (by decide)
    have s2 := rParts10_l0_step hF hb hl (n + 1) x1 x2 x3 x4 d f ((A.set 0 (eA d b 0)).set 1 (eA d b 1)) ((B.set 0 (eB d b 0)).set 1 (eB d b 1)) (by simp [hA]) (by simp [hB]) x8 x9 (i := 2) (by decide)
    simp only [Nat.zero_add, Nat.reduceAdd, Int.natCast_zero] at s0 s1 s2
    rw [s0, s1, s2, three_fill rfl hA, three_fill rfl hB]
    rfl
  simp only [Int.cast_ofNat_Int] at g1 g2 g3 g4
  simp only [e, cond_false, g1, g2, Option.bind_some]
  rw [loop _ _ _ _ _ _ _ _ rfl rfl]
  simp only [Option.bind_some, g3, g4, Which10_is hF hb hl]
  rfl
theorem iand15 (x : Int) : iand .i64 x 15 = x % 16 := iand_mask (x := x) (b := 4) (by decide)
theorem iand7 (x : Int) : iand .i64 x 7 = x % 8 := iand_mask (x := x) (b := 3) (by decide)
theorem iand3 (x : Int) : iand .i64 x 3 = x % 4 := iand_mask (x := x) (b := 2) (by decide)
theorem mod10_is (F : Nat) {x m : Int} (hm : 0 < m ∧ m ≤ 1000000000) : ref10_mod F x m = some (x % m, ()) := by
  unfold ref10_mod
  have h0 : (!(m == (0 : Int))) = true := by simp; omega
  have hf := tmod_fix (x := x) hm.1
  have h1 := Int.emod_nonneg x (show m ≠ 0 by omega)
  have h2 := Int.emod_lt_of_pos x hm.1
  rw [h0]
  simp only [cond_true]
  by_cases hn : x.tmod m < 0
  · rw [if_pos hn] at hf
    simp only [hn, decide_true, cond_true]
    rw [hf, w64 (by omega) (by omega)]
  · rw [if_neg hn] at hf
    simp only [hn, decide_false, cond_false]
    rw [hf]
def tab10 : Nat → List Int
  | 0 => [2, 8, -2, -8]
  | 1 => [5, 17, -5, -17]
  | 2 => [9, 29, -9, -29]
  | 3 => [13, 42, -13, -42]
  | 4 => [18, 60, -18, -60]
  | 5 => [24, 80, -24, -80]
  | 6 => [33, 106, -33, -106]
  | _ => [47, 183, -47, -183]
theorem getD_all {p : Int → Prop} (h0 : p 0) {l : List Int} (h : ∀ x ∈ l, p x) (i : Nat) : p (l.getD i 0) := by
  rw [List.getD_eq_getElem?_getD]
  by_cases hi : i < l.length
  · rw [List.getElem?_eq_getElem hi]
    exact h _ (List.getElem_mem hi)
  · rw [List.getElem?_eq_none (by omega)]
    exact h0
theorem tab10_bound (n i : Nat) : -183 ≤ (tab10 n).getD i 0 ∧ (tab10 n).getD i 0 ≤ 183 := by
  apply getD_all (p := fun x => -183 ≤ x ∧ x ≤ 183) (by decide)
  unfold tab10
  split <;> decide
theorem eight {v : Int} (h : 0 ≤ v ∧ v < 8) : v = 0 ∨ v = 1 ∨ v = 2 ∨ v = 3 ∨ v = 4 ∨ v = 5 ∨ v = 6 ∨ v = 7 := by omega
theorem Table10_is (F : Nat) (n : Int) : etcone_Table F n = some (tab10 (n % 8).toNat, ()) := by
  unfold etcone_Table
  rw [iand7]
  have h : 0 ≤ n % 8 ∧ n % 8 < 8 := by omega
  generalize n % 8 = v at *
  rcases eight h with rfl | rfl | rfl | rfl | rfl | rfl | rfl | rfl <;> rfl
theorem rTable10_is (F : Nat) (n : Int) : ref10_Table F n = some (tab10 (n % 8).toNat, ()) := by
  unfold ref10_Table
  rw [mod10_is F (by decide)]
  have h : 0 ≤ n % 8 ∧ n % 8 < 8 := by omega
  simp only [Option.bind_some]
  generalize n % 8 = v at *
  rcases eight h with rfl | rfl | rfl | rfl | rfl | rfl | rfl | rfl <;> rfl
def half10 (f : Bool) (m : Int) : Nat := if f then (m % 16).toNat / 8 else (m % 16).toNat % 4 / 2
theorem half10_lt (f : Bool) (m : Int) : half10 f m < 2 := by
  unfold half10
  split <;> omega
theorem Half10_is (F : Nat) (f : Bool) (m : Int) : etcone_Half F f m = some ((half10 f m : Int), ()) ∧ ref10_Half F f m = some ((half10 f m : Int), ()) := by
  unfold etcone_Half ref10_Half half10
  rw [mod10_is F (by decide), iand15]
  have h : 0 ≤ m % 16 ∧ m % 16 < 16 := by omega
  simp only [Option.bind_some]
  generalize m % 16 = v at *
  obtain ⟨n, rfl⟩ := Int.eq_ofNat_of_zero_le h.1
  have e1 : Int.tdiv (n : Int) 8 = ((n / 8 : Nat) : Int) := rfl
  have e2 : Int.tdiv (Int.tmod (n : Int) 4) 2 = ((n % 4 / 2 : Nat) : Int) := rfl
  rw [e1, e2, w64 (x := ((n / 8 : Nat) : Int)) (by omega) (by omega), w64 (by omega) (by omega)]
  cases f
  · exact ⟨rfl, rfl⟩
  · exact ⟨rfl, rfl⟩
def n10 (d : Bool) (A B : List Int) (c : Nat) : Int := if d then A.getD c 0 + B.getD c 0 else B.getD c 0
def w10 (d : Bool) : Nat := if d then 5 else 4
def bases10 (d : Bool) (A B : List Int) : List Int :=
  [wideV (w10 d) (A.getD 0 0), wideV (w10 d) (A.getD 1 0), wideV (w10 d) (A.getD 2 0), 255, wideV (w10 d) (n10 d A B 0), wideV (w10 d) (n10 d A B 1), wideV (w10 d) (n10 d A B 2), 255]
def bad10 (A B : List Int) (c : Nat) : Prop := n10 true A B c < 0 ∨ 31 < n10 true A B c
instance (A B : List Int) (c : Nat) : Decidable (bad10 A B c) := by unfold bad10; exact inferInstance
def far10 (d : Bool) (A B : List Int) : Int := if d then (if bad10 A B 0 then 0 else if bad10 A B 1 then 1 else if bad10 A B 2 then 2 else 3) else 3
def Fair10 (A B : List Int) : Prop := A.length = 3 ∧ B.length = 3 ∧ (∀ c, 0 ≤ A.getD c 0 ∧ A.getD c 0 ≤ 31) ∧ (∀ c, -4 ≤ B.getD c 0 ∧ B.getD c 0 ≤ 15)
theorem Bases10_step {F : Nat} (hF : 10 ≤ F) (k : Nat) (d f : Bool) {A B : List Int} (hf : Fair10 A B) (T W x6 x7 : List Int) (far : Int) {i : Nat} (hi : i < 3) :
    etcone_Bases_l0 F (k + 1) d f A B T W x6 x7 far i = etcone_Bases_l0 F k d f A B T W x6 ((x7.set i (wideV (w10 d) (A.getD i 0))).set (4 + i) (wideV (w10 d) (n10 d A B i))) (if d = true ∧ far = 3 ∧ bad10 A B i then (i : Int) else far) ((i + 1 : Nat) : Int) := by
  have h0 : etcone_Bases_l0 F (k + 1) d f A B T W x6 x7 far i = etcone_Bases_l0S F (etcone_Bases_l0 F k) d f A B T W x6 x7 far i := rfl
  rw [h0]
  unfold etcone_Bases_l0S
  have h1 : (i : Int) < 3 := by omega
  have h2 : (i : Int) < 4 := by omega
  have a1 := hf.2.2.1 i
  have a2 := hf.2.2.2 i
  have e1 : IntKind.wrap .i64 (A.getD i 0 + B.getD i 0) = A.getD i 0 + B.getD i 0 := w64 (by omega) (by omega)
  have w5 := fun x => Wide_is (F := F) hF (b := 5) (by decide) x
  have w4 := fun x => Wide_is (F := F) hF (b := 4) (by decide) x
  have s5 := ishr64' (x := A.getD i 0 + B.getD i 0) (k := 5) (by decide)
  simp only [Int.cast_ofNat_Int] at w5 w4 s5
  simp only [h1, h2, decide_true, cond_true, Int.natCast_nonneg, Bool.and_self, Int.toNat_natCast, e1, w5, w4, s5, Option.bind_some, nextI (show i < 1000000000000 by omega)]
  cases d
  · simp only [cond_false, w10, n10, Bool.false_eq_true, if_false, false_and]
  · simp only [cond_true, w10, n10, if_true, true_and, bad10]
    by_cases hfar : far = 3
    · subst hfar
      simp only [beq_self_eq_true, cond_true, true_and]
      by_cases hn : A.getD i 0 + B.getD i 0 < 0
      · simp only [hn, decide_true, cond_true, true_or, if_true]
      · simp only [hn, decide_false, cond_false, false_or]
        by_cases hg : 31 < A.getD i 0 + B.getD i 0
        · have : ((A.getD i 0 + B.getD i 0) / 2 ^ 5 != 0) = true := bneT (by omega)
          simp only [this, cond_true, hg, if_true]
        · have : ((A.getD i 0 + B.getD i 0) / 2 ^ 5 != 0) = false := by
            have : (A.getD i 0 + B.getD i 0) / 2 ^ 5 = 0 := by omega
            rw [this]; rfl
          simp only [this, cond_false, hg, if_false]
    · simp only [beqF hfar, cond_false, hfar, false_and, if_false]
theorem far10_steps (d : Bool) (A B : List Int) : (if d = true ∧ (if d = true ∧ (if d = true ∧ (3 : Int) = 3 ∧ bad10 A B 0 then ((0 : Nat) : Int) else 3) = 3 ∧ bad10 A B 1 then ((1 : Nat) : Int) else (if d = true ∧ (3 : Int) = 3 ∧ bad10 A B 0 then ((0 : Nat) : Int) else 3)) = 3 ∧ bad10 A B 2 then ((2 : Nat) : Int) else
    (if d = true ∧ (if d = true ∧ (3 : Int) = 3 ∧ bad10 A B 0 then ((0 : Nat) : Int) else 3) = 3 ∧ bad10 A B 1 then ((1 : Nat) : Int) else (if d = true ∧ (3 : Int) = 3 ∧ bad10 A B 0 then ((0 : Nat) : Int) else 3))) = far10 d A B := by
  unfold far10
  cases d
  · simp
  · by_cases h0 : bad10 A B 0 <;> by_cases h1 : bad10 A B 1 <;> by_cases h2 : bad10 A B 2 <;> simp [h0, h1, h2]
theorem Bases10_is {F : Nat} (hF : 10 ≤ F) (d f : Bool) {A B : List Int} (hf : Fair10 A B) (T W : List Int) : etcone_Bases F (d, (f, (A, (B, (T, (W, ())))))) = some (bases10 d A B, (far10 d A B, ())) := by
  unfold etcone_Bases
  have s0 : ∀ n far x6 x7, etcone_Bases_l0 F (n + 1) d f A B T W x6 x7 far 0 = _ := fun n far x6 x7 => Bases10_step hF n d f hf T W x6 x7 far (i := 0) (by decide)
  have s1 : ∀ n far x6 x7, etcone_Bases_l0 F (n + 1) d f A B T W x6 x7 far 1 = _ := fun n far x6 x7 => Bases10_step hF n d f hf T W x6 x7 far (i := 1) (by decide)
  have s2 : ∀ n far x6 x7, etcone_Bases_l0 F (n + 1) d f A B T W x6 x7 far 2 = _ := fun n far x6 x7 => Bases10_step hF n d f hf T W x6 x7 far (i := 2) (by decide)
  have s3 : ∀ n far x6 x7, etcone_Bases_l0 F (n + 1) d f A B T W x6 x7 far 3 = some (x6, (x7, (far, ()))) := fun n far x6 x7 => rfl
  obtain ⟨n, hn⟩ : ∃ n, F = n + 4 := ⟨F - 4, by omega⟩
  have key : ∀ (m : Nat), m = n + 4 → ∀ x6 x7 : List Int, etcone_Bases_l0 F m d f A B T W x6 x7 3 0 = some (x6, (((((((x7.set 0 (wideV (w10 d) (A.getD 0 0))).set 4 (wideV (w10 d) (n10 d A B 0))).set 1 (wideV (w10 d) (A.getD 1 0))).set 5 (wideV (w10 d) (n10 d A B 1))).set 2 (wideV (w10 d) (A.getD 2 0))).set 6 (wideV (w10 d) (n10 d A B 2)), (far10 d A B, ())))) := by
    intro m hm x6 x7
    subst hm
    rw [← far10_steps d A B]
    refine (s0 _ _ _ _).trans ((s1 _ _ _ _).trans ((s2 _ _ _ _).trans (s3 _ _ _ _)))
  simp only [key F hn, Option.bind_some]
  rfl
theorem take4 {l : List Int} {n : Nat} (h : n + 4 ≤ l.length) : (l.drop n).take 4 = [l.getD n 0, l.getD (n + 1) 0, l.getD (n + 2) 0, l.getD (n + 3) 0] := by
  have e : ∀ j, j < l.length → l.drop j = l.getD j 0 :: l.drop (j + 1) := fun j hj => by
    rw [List.drop_eq_getElem_cons hj, List.getD_eq_getElem?_getD, List.getElem?_eq_getElem hj]
    rfl
  rw [e n (by omega), e (n + 1) (by omega), e (n + 2) (by omega), e (n + 3) (by omega)]
  rfl
theorem Clamp10_is (F : Nat) (x : Int) : level_Clamp F x 255 = some (clampV x, ()) := rfl
theorem rClamp10_is (F : Nat) (x : Int) : ref03_Clamp F x 255 = some (clampV x, ()) := by
  unfold ref03_Clamp clampV
  by_cases h1 : 255 < x
  · have : max 0 (min x 255) = 255 := by omega
    simp [h1, this]
  · by_cases h2 : x < 0
    · have : max 0 (min x 255) = 0 := by omega
      simp [h1, h2, this]
    · have : max 0 (min x 255) = x := by omega
      simp [h1, h2, this]
def add10 (T W : List Int) (f : Bool) (i : Nat) : Int := (tab10 ((T.getD (half10 f i) 0) % 8).toNat).getD ((W.getD i 0) % 4).toNat 0
def tex10 (bs T W : List Int) (f : Bool) (i : Nat) : List Int :=
  [clampV (bs.getD (half10 f i * 4) 0 + add10 T W f i), clampV (bs.getD (half10 f i * 4 + 1) 0 + add10 T W f i), clampV (bs.getD (half10 f i * 4 + 2) 0 + add10 T W f i), bs.getD (half10 f i * 4 + 3) 0]
def paint10 (d f : Bool) (A B T W : List Int) : List Int := (List.range 16).flatMap (tex10 (bases10 d A B) T W f)
theorem w10_b (d : Bool) : 1 ≤ w10 d ∧ w10 d ≤ 8 := by cases d <;> decide
theorem bases10_len (d : Bool) (A B : List Int) : (bases10 d A B).length = 8 := rfl
theorem bases10_bound (d : Bool) (A B : List Int) (j : Nat) : 0 ≤ (bases10 d A B).getD j 0 ∧ (bases10 d A B).getD j 0 ≤ 255 := by
  apply getD_all (p := fun x => 0 ≤ x ∧ x ≤ 255) (by decide)
  intro x hx
  have hw := fun y => wideV_bound (w10_b d) y
  simp only [bases10, List.mem_cons, List.not_mem_nil, or_false] at hx
  rcases hx with rfl | rfl | rfl | rfl | rfl | rfl | rfl | rfl <;> first | exact hw _ | decide
theorem Paint10_l2_step {F k : Nat} (d f : Bool) (A B T W x6 bs P l Q x12 : List Int) (x13 : Int) {i : Nat} (hi : i < 16) (hP : P.length = i * 4) (hl : l.length = 4) (hb : ∀ c, 0 ≤ l.getD c 0 ∧ l.getD c 0 ≤ 255) (w : Int) {h : Nat} (hh : h < 2) {c : Nat} (hc : c < 3) :
    etcone_Paint_l2 F (k + 1) d f A B T W x6 bs (P ++ l ++ Q) i w h x12 x13 c = etcone_Paint_l2 F k d f A B T W x6 bs (P ++ l.set c (clampV (l.getD c 0 + (tab10 ((T.getD h 0) % 8).toNat).getD (w % 4).toNat 0)) ++ Q) i w h x12 x13 ((c + 1 : Nat) : Int) := by
  have h0 : etcone_Paint_l2 F (k + 1) d f A B T W x6 bs (P ++ l ++ Q) i w h x12 x13 c = etcone_Paint_l2S F (etcone_Paint_l2 F k) d f A B T W x6 bs (P ++ l ++ Q) i w h x12 x13 c := rfl
  rw [h0]
  unfold etcone_Paint_l2S
  have h1 : (c : Int) < 3 := by omega
  have h2 : (c : Int) < 4 := by omega
  have h3 : (i : Int) < 16 := by omega
  have h4 : (h : Int) < 2 := by omega
  have hw : 0 ≤ w % 4 ∧ w % 4 < 4 := by omega
  have g1 := chunk_get P l Q hP (show c < l.length by omega)
  have g2 := chunk_set P l Q hP (show c < l.length by omega)
  have tb := tab10_bound ((T.getD h 0) % 8).toNat (w % 4).toNat
  have lb := hb c
  simp only [h1, h2, h3, h4, decide_true, cond_true, Int.natCast_nonneg, Bool.and_self, Int.toNat_natCast, Table10_is, Option.bind_some, iand3, hw.1, hw.2, Clamp10_is, g1, g2, nextI (show c < 1000000000000 by omega)]
  rw [w64 (by omega) (by omega)]
theorem set_bound {l : List Int} (hb : ∀ c, 0 ≤ l.getD c 0 ∧ l.getD c 0 ≤ 255) (i : Nat) {v : Int} (hv : 0 ≤ v ∧ v ≤ 255) : ∀ c, 0 ≤ (l.set i v).getD c 0 ∧ (l.set i v).getD c 0 ≤ 255 := by
  intro c
  by_cases h : i < l.length
  · rw [getD_set _ _ _ _ h]
    split
    · exact hv
    · exact hb c
  · rw [List.set_eq_of_length_le (by omega)]
    exact hb c
theorem Paint10_l2_is {F : Nat} (hF : 10 ≤ F) (d f : Bool) (A B T W x6 bs P l Q x12 : List Int) (x13 : Int) {i : Nat} (hi : i < 16) (hP : P.length = i * 4) (hl : l.length = 4) (hb : ∀ c, 0 ≤ l.getD c 0 ∧ l.getD c 0 ≤ 255) (w : Int) {h : Nat} (hh : h < 2) {n : Int} (hn : n = (tab10 ((T.getD h 0) % 8).toNat).getD (w % 4).toNat 0) :
    etcone_Paint_l2 F F d f A B T W x6 bs (P ++ l ++ Q) i w h x12 x13 0 = some (d, (f, (A, (B, (T, (W, (x6, (bs, (P ++ [clampV (l.getD 0 0 + n), clampV (l.getD 1 0 + n), clampV (l.getD 2 0 + n), l.getD 3 0] ++ Q, (x12, (x13, ()))))))))))) := by
  obtain ⟨a, b, c, e, rfl⟩ : ∃ a b c e, l = [a, b, c, e] := by
    match l, hl with
    | [a, b, c, e], _ => exact ⟨a, b, c, e, rfl⟩
  subst hn
  have key : ∀ m, m = F → ∀ k, m = k + 4 → etcone_Paint_l2 F m d f A B T W x6 bs (P ++ [a, b, c, e] ++ Q) i w h x12 x13 0 = _ := fun m _ k hk => by
    subst hk
    refine (Paint10_l2_step (k := k + 3) d f A B T W x6 bs P [a, b, c, e] Q x12 x13 hi hP rfl hb w hh (c := 0) (by decide)).trans ?_
    refine (Paint10_l2_step (k := k + 2) d f A B T W x6 bs P _ Q x12 x13 hi hP rfl (set_bound hb 0 (clampV_bound _)) w hh (c := 1) (by decide)).trans ?_
    exact (Paint10_l2_step (k := k + 1) d f A B T W x6 bs P _ Q x12 x13 hi hP rfl (set_bound (set_bound hb 0 (clampV_bound _)) 1 (clampV_bound _)) w hh (c := 2) (by decide)).trans rfl
  rw [key F rfl (F - 4) (by omega)]
  rfl
theorem Paint10_is {F : Nat} (hF : 17 ≤ F) (d f : Bool) {A B T W : List Int} (hf : Fair10 A B) (hW : ∀ i, 0 ≤ W.getD i 0 ∧ W.getD i 0 ≤ 3) : etcone_Paint F (d, (f, (A, (B, (T, (W, ())))))) = some (paint10 d f A B T W, ()) := by
  unfold etcone_Paint
  have loop : ∀ x6 x8 : List Int, x8.length = 64 → etcone_Paint_l0 F F d f A B T W x6 (bases10 d A B) x8 W 0 = some (x6, (paint10 d f A B T W, ())) := by
    intro x6 x8 h8
    refine fill_parts 16 4 (tex10 (bases10 d A B) T W f) (fun i hi => rfl) (fun k w i => etcone_Paint_l0 F k d f A B T W x6 (bases10 d A B) w W i) (fun w => some (x6, (w, ()))) ?_ ?_ _ h8 F (by omega)
    · intro k i w hi hw
      show etcone_Paint_l0S F (etcone_Paint_l0 F k) d f A B T W x6 (bases10 d A B) w W i = _
      unfold etcone_Paint_l0S
      have h1 : (i : Int) < 16 := by omega
      have hh := half10_lt f i
      have h2 : (half10 f i : Int) < 2 := by omega
      have t4 := take4 (l := bases10 d A B) (n := half10 f i * 4) (by rw [bases10_len]; omega)
      have hP : (w.take (i * 4)).length = i * 4 := by rw [List.length_take]; omega
      have l2 := Paint10_l2_is (by omega) d f A B T W x6 (bases10 d A B) (w.take (i * 4)) [(bases10 d A B).getD (half10 f i * 4) 0, (bases10 d A B).getD (half10 f i * 4 + 1) 0, (bases10 d A B).getD (half10 f i * 4 + 2) 0, (bases10 d A B).getD (half10 f i * 4 + 3) 0] (w.drop (i * 4 + 4)) W i hi hP rfl
        (fun c => getD_all (p := fun x => 0 ≤ x ∧ x ≤ 255) (by decide) (fun x hx => by
            simp only [List.mem_cons, List.not_mem_nil, or_false] at hx
            rcases hx with rfl | rfl | rfl | rfl <;> exact bases10_bound d A B _) c) (W.getD i 0) hh (n := add10 T W f i) rfl (F := F)
      simp only [h1, decide_true, cond_true, Int.natCast_nonneg, Bool.and_self, Int.toNat_natCast, (Half10_is F f i).1, Option.bind_some, h2, t4, l2, nextI (show i < 1000000000000 by omega)]
      rfl
    · intro k w hw
      show etcone_Paint_l0S F (etcone_Paint_l0 F k) d f A B T W x6 (bases10 d A B) w W 16 = _
      unfold etcone_Paint_l0S
      simp
  rw [Bases10_is (by omega) d f hf]
  simp only [Option.bind_some]
  rw [loop _ _ rfl]
  rfl
theorem In10_is (F : Nat) (n a b : Int) : ref10_In F n a b = some (decide (a ≤ n ∧ n ≤ b), ()) := by
  unfold ref10_In
  by_cases h : a ≤ n
  · simp [h]
  · simp [h]
theorem rBases10_step {F : Nat} (hF : 10 ≤ F) (k : Nat) (d f : Bool) {A B : List Int} (hf : Fair10 A B) (T W x6 x7 : List Int) (far : Int) {i : Nat} (hi : i < 3) :
    ref10_Bases_l0 F (k + 1) d f A B T W x6 x7 far i = ref10_Bases_l0 F k d f A B T W x6 ((x7.set i (wideV (w10 d) (A.getD i 0))).set (4 + i) (wideV (w10 d) (n10 d A B i))) (if d = true ∧ bad10 A B i then (i : Int) else far) ((i : Int) - 1) := by
  have h0 : ref10_Bases_l0 F (k + 1) d f A B T W x6 x7 far i = ref10_Bases_l0S F (ref10_Bases_l0 F k) d f A B T W x6 x7 far i := rfl
  rw [h0]
  unfold ref10_Bases_l0S
  have h1 : (i : Int) < 3 := by omega
  have h2 : (i : Int) < 4 := by omega
  have a1 := hf.2.2.1 i
  have a2 := hf.2.2.2 i
  have e1 : IntKind.wrap .i64 (A.getD i 0 + B.getD i 0) = A.getD i 0 + B.getD i 0 := w64 (by omega) (by omega)
  have e2 : IntKind.wrap .i64 ((i : Int) - 1) = (i : Int) - 1 := w64 (by omega) (by omega)
  have w5 := fun x hx => rWide_is (F := F) hF (b := 5) (by decide) (x := x) hx
  have w4 := fun x hx => rWide_is (F := F) hF (b := 4) (by decide) (x := x) hx
  have g1 := w5 (A.getD i 0) (by omega)
  have g2 := w5 ((A.getD i 0 + B.getD i 0) % 32) (by omega)
  have g3 := w4 (A.getD i 0) (by omega)
  have g4 := w4 (B.getD i 0) (by omega)
  have g5 : wideV 5 ((A.getD i 0 + B.getD i 0) % 32) = wideV 5 (A.getD i 0 + B.getD i 0) := by unfold wideV; congr 2; omega
  simp only [Int.cast_ofNat_Int] at g1 g2 g3 g4
  simp only [h1, h2, decide_true, cond_true, Int.natCast_nonneg, Bool.and_self, Int.toNat_natCast, e1, e2, In10_is, mod10_is F (show (0 : Int) < 32 ∧ (32 : Int) ≤ 1000000000 by decide), g1, g2, g3, g4, g5, Option.bind_some]
  cases d
  · simp only [cond_false, w10, n10, Bool.false_eq_true, if_false, false_and]
  · simp only [cond_true, w10, n10, if_true, true_and, bad10]
    by_cases hn : 0 ≤ A.getD i 0 + B.getD i 0 ∧ A.getD i 0 + B.getD i 0 ≤ 31
    · have hb : ¬ (A.getD i 0 + B.getD i 0 < 0 ∨ 31 < A.getD i 0 + B.getD i 0) := by omega
      simp only [hn, and_self, decide_true, Bool.not_true, cond_false, hb, if_false]
    · have hb : (A.getD i 0 + B.getD i 0 < 0 ∨ 31 < A.getD i 0 + B.getD i 0) := by omega
      simp only [hn, decide_false, Bool.not_false, cond_true, hb, if_true]
theorem rfar10_steps (d : Bool) (A B : List Int) : (if d = true ∧ bad10 A B 0 then ((0 : Nat) : Int) else (if d = true ∧ bad10 A B 1 then ((1 : Nat) : Int) else (if d = true ∧ bad10 A B 2 then ((2 : Nat) : Int) else 3))) = far10 d A B := by
  unfold far10
  cases d
  · simp
  · by_cases h0 : bad10 A B 0 <;> by_cases h1 : bad10 A B 1 <;> by_cases h2 : bad10 A B 2 <;> simp [h0, h1, h2]
theorem rBases10_is {F : Nat} (hF : 10 ≤ F) (d f : Bool) {A B : List Int} (hf : Fair10 A B) (T W : List Int) : ref10_Bases F (d, (f, (A, (B, (T, (W, ())))))) = some (bases10 d A B, (far10 d A B, ())) := by
  unfold ref10_Bases
  have s0 : ∀ n far x6 x7, ref10_Bases_l0 F (n + 1) d f A B T W x6 x7 far 0 = _ := fun n far x6 x7 => rBases10_step hF n d f hf T W x6 x7 far (i := 0) (by decide)
  have s1 : ∀ n far x6 x7, ref10_Bases_l0 F (n + 1) d f A B T W x6 x7 far 1 = _ := fun n far x6 x7 => rBases10_step hF n d f hf T W x6 x7 far (i := 1) (by decide)
  have s2 : ∀ n far x6 x7, ref10_Bases_l0 F (n + 1) d f A B T W x6 x7 far 2 = _ := fun n far x6 x7 => rBases10_step hF n d f hf T W x6 x7 far (i := 2) (by decide)
  have s3 : ∀ n far x6 x7, ref10_Bases_l0 F (n + 1) d f A B T W x6 x7 far (-1) = some (x6, (x7, (far, ()))) := fun n far x6 x7 => rfl
  obtain ⟨n, hn⟩ : ∃ n, F = n + 4 := ⟨F - 4, by omega⟩
  have key : ∀ (m : Nat), m = n + 4 → ∀ x6 x7 : List Int, ref10_Bases_l0 F m d f A B T W x6 x7 3 2 = some (x6, ((((((x7.set 2 (wideV (w10 d) (A.getD 2 0))).set 6 (wideV (w10 d) (n10 d A B 2))).set 1 (wideV (w10 d) (A.getD 1 0))).set 5 (wideV (w10 d) (n10 d A B 1))).set 0 (wideV (w10 d) (A.getD 0 0))).set 4 (wideV (w10 d) (n10 d A B 0)), (far10 d A B, ()))) := by
    intro m hm x6 x7
    subst hm
    rw [← rfar10_steps d A B]
    refine (s2 _ _ _ _).trans ((s1 _ _ _ _).trans ((s0 _ _ _ _).trans (s3 _ _ _ _)))
  simp only [key F hn, Option.bind_some]
  rfl
theorem Add10_step {F k : Nat} (n : Int) (hn : -183 ≤ n ∧ n ≤ 183) (l x2 : List Int) (hb : ∀ c, 0 ≤ l.getD c 0 ∧ l.getD c 0 ≤ 255) {c : Nat} (hc : c < 3) :
    ref10_Add_l0 F (k + 1) n l x2 c = ref10_Add_l0 F k n (l.set c (clampV (l.getD c 0 + n))) x2 ((c + 1 : Nat) : Int) := by
  have h0 : ref10_Add_l0 F (k + 1) n l x2 c = ref10_Add_l0S F (ref10_Add_l0 F k) n l x2 c := rfl
  rw [h0]
  unfold ref10_Add_l0S
  have h1 : (c : Int) < 3 := by omega
  have h2 : (c : Int) < 4 := by omega
  have lb := hb c
  simp only [h1, h2, decide_true, cond_true, Int.natCast_nonneg, Bool.and_self, Int.toNat_natCast, Option.bind_some, rClamp10_is, nextI (show c < 1000000000000 by omega)]
  rw [w64 (by omega) (by omega)]
theorem Add10_is {F : Nat} (hF : 10 ≤ F) {n : Int} (hn : -183 ≤ n ∧ n ≤ 183) {a b c e : Int} (hb : ∀ i, 0 ≤ ([a, b, c, e] : List Int).getD i 0 ∧ ([a, b, c, e] : List Int).getD i 0 ≤ 255) : ref10_Add F [a, b, c, e] n = some ([clampV (a + n), clampV (b + n), clampV (c + n), e], ()) := by
  unfold ref10_Add
  have key : ∀ m, m = F → ∀ k, m = k + 4 → ∀ x2 : List Int, ref10_Add_l0 F m n [a, b, c, e] x2 0 = some ([clampV (a + n), clampV (b + n), clampV (c + n), e], (x2, ())) := fun m _ k hk x2 => by
    subst hk
    refine (Add10_step (k := k + 3) n hn [a, b, c, e] x2 hb (c := 0) (by decide)).trans ?_
    refine (Add10_step (k := k + 2) n hn _ x2 (set_bound hb 0 (clampV_bound _)) (c := 1) (by decide)).trans ?_
    exact (Add10_step (k := k + 1) n hn _ x2 (set_bound (set_bound hb 0 (clampV_bound _)) 1 (clampV_bound _)) (c := 2) (by decide)).trans rfl
  rw [key F rfl (F - 4) (by omega)]
  rfl
theorem rPaint10_is {F : Nat} (hF : 17 ≤ F) (d f : Bool) {A B T W : List Int} (hf : Fair10 A B) (hW : ∀ i, 0 ≤ W.getD i 0 ∧ W.getD i 0 ≤ 3) : ref10_Paint F (d, (f, (A, (B, (T, (W, ())))))) = some (paint10 d f A B T W, ()) := by
  unfold ref10_Paint
  have loop : ∀ x6 x8 : List Int, x8.length = 64 → ref10_Paint_l0 F F d f A B T W x6 (bases10 d A B) x8 0 = some (x6, (paint10 d f A B T W, ())) := by
    intro x6 x8 h8
    refine fill_parts 16 4 (tex10 (bases10 d A B) T W f) (fun i hi => rfl) (fun k w i => ref10_Paint_l0 F k d f A B T W x6 (bases10 d A B) w i) (fun w => some (x6, (w, ()))) ?_ ?_ _ h8 F (by omega)
    · intro k i w hi hw
      show ref10_Paint_l0S F (ref10_Paint_l0 F k) d f A B T W x6 (bases10 d A B) w i = _
      unfold ref10_Paint_l0S
      have h1 : (i : Int) < 16 := by omega
      have hh := half10_lt f i
      have h2 : (half10 f i : Int) < 2 := by omega
      have t4 := take4 (l := bases10 d A B) (n := half10 f i * 4) (by rw [bases10_len]; omega)
      have hw3 := hW i
      have h3 : W.getD i 0 < 4 := by omega
      have em : W.getD i 0 % 4 = W.getD i 0 := Int.emod_eq_of_lt hw3.1 (by omega)
      have tb := tab10_bound ((T.getD (half10 f i) 0) % 8).toNat (W.getD i 0).toNat
      have hadd := Add10_is (F := F) (by omega) tb (a := (bases10 d A B).getD (half10 f i * 4) 0) (b := (bases10 d A B).getD (half10 f i * 4 + 1) 0) (c := (bases10 d A B).getD (half10 f i * 4 + 2) 0) (e := (bases10 d A B).getD (half10 f i * 4 + 3) 0)
        (fun c => getD_all (p := fun x => 0 ≤ x ∧ x ≤ 255) (by decide) (fun x hx => by
            simp only [List.mem_cons, List.not_mem_nil, or_false] at hx
            rcases hx with rfl | rfl | rfl | rfl <;> exact bases10_bound d A B _) c)
      simp only [h1, decide_true, cond_true, Int.natCast_nonneg, Bool.and_self, Int.toNat_natCast, (Half10_is F f i).2, Option.bind_some, h2, rTable10_is, hw3.1, h3, t4, hadd, nextI (show i < 1000000000000 by omega)]
      unfold tex10 add10
      rw [em]
    · intro k w hw
      show ref10_Paint_l0S F (ref10_Paint_l0 F k) d f A B T W x6 (bases10 d A B) w 16 = _
      unfold ref10_Paint_l0S
      simp
  rw [rBases10_is (by omega) d f hf]
  simp only [Option.bind_some]
  rw [loop _ _ rfl]
  rfl
theorem eWs_bound (b : List Int) : ∀ i, 0 ≤ (eWs b).getD i 0 ∧ (eWs b).getD i 0 ≤ 3 := fun i => getD_all (p := fun x => 0 ≤ x ∧ x ≤ 3) (by decide) (fun x hx => by
  obtain ⟨j, _, rfl⟩ := List.mem_map.1 hx
  have h1 := hv_bound b (47 - col10 j) 1
  have h2 := hv_bound b (63 - col10 j) 1
  omega) i
theorem eFair (d : Bool) (b : List Int) : Fair10 (eAs d b) (eBs d b) := by
  have ha : ∀ c, 0 ≤ eA d b c ∧ eA d b c ≤ 31 := fun c => by
    have h1 := hv_bound b (8 * c) 5
    have h2 := hv_bound b (8 * c) 4
    unfold eA
    split <;> omega
  have hb : ∀ c, -4 ≤ eB d b c ∧ eB d b c ≤ 15 := fun c => by
    have h1 := hv_bound b (8 * c + 5) 3
    have h2 := hv_bound b (8 * c + 4) 4
    unfold eB sg3
    split
    · split <;> omega
    · omega
  refine ⟨rfl, rfl, fun i => getD_all (p := fun x => 0 ≤ x ∧ x ≤ 31) (by decide) (fun x hx => ?_) i, fun i => getD_all (p := fun x => -4 ≤ x ∧ x ≤ 15) (by decide) (fun x hx => ?_) i⟩
  · simp only [eAs, List.mem_cons, List.not_mem_nil, or_false] at hx
    rcases hx with rfl | rfl | rfl <;> exact ha _
  · simp only [eBs, List.mem_cons, List.not_mem_nil, or_false] at hx
    rcases hx with rfl | rfl | rfl <;> exact hb _
def dec10 (b : List Int) : List Int := paint10 (eDiff b) (eFlip b) (eAs (eDiff b) b) (eBs (eDiff b) b) [hv b 24 3, hv b 27 3] (eWs b)
theorem Decode10_is {F : Nat} (hF : 66 ≤ F) {b : List Int} (hb : Bytes b) (hl : b.length = 8) : etcone_Decode F b = some (dec10 b, (0, ())) ∧ ref10_Decode F b = some (dec10 b, (0, ())) := by
  unfold etcone_Decode ref10_Decode
  rw [Parts10_is hF hb hl, rParts10_is hF hb hl]
  simp only [Option.bind_some, eP, bne_self_eq_false, cond_false]
  rw [Paint10_is (by omega) _ _ (eFair _ b) (eWs_bound b), rPaint10_is (by omega) _ _ (eFair _ b) (eWs_bound b)]
  exact ⟨rfl, rfl⟩
end Go.AE.Gn
set_option linter.unusedSimpArgs false
set_option linter.unusedVariables false
namespace Go.AE.Gn
open Go Go.AE
abbrev Fits (n : Nat) (v : Int) : Prop := 0 ≤ v ∧ v < 2 ^ n
def lay1 (st : List Int × Bool) (a n : Nat) (v : Int) : List Int × Bool := if st.2 = true ∧ Fits n v then (hset st.1 a n v, true) else (st.1, false)
structure Laid (A N : Nat → Nat) (V : Nat → Int) (m : Nat) (st : List Int × Bool) : Prop where
  len : st.1.length = 8
  bytes : Bytes st.1
  fine : st.2 = true ↔ ∀ i, i < m → Fits (N i) (V i)
  eq : st.2 = true → st.1 = hlaid A N V [0, 0, 0, 0, 0, 0, 0, 0] m
theorem Laid.nil (A N : Nat → Nat) (V : Nat → Int) : Laid A N V 0 ([0, 0, 0, 0, 0, 0, 0, 0], true) :=
  ⟨rfl, fun x hx => by simp at hx; omega, by simp, fun _ => rfl⟩
theorem lay1_keep {st : List Int × Bool} (hl : st.1.length = 8) (hb : Bytes st.1) (a n : Nat) (v : Int) : (lay1 st a n v).1.length = 8 ∧ Bytes (lay1 st a n v).1 := by
  unfold lay1
  split
  · exact ⟨by rw [hset_len, hl], hset_bytes hb _ _ _⟩
  · exact ⟨hl, hb⟩
theorem Laid.step {A N : Nat → Nat} {V : Nat → Int} {m : Nat} {st : List Int × Bool} (h : Laid A N V m st) : Laid A N V (m + 1) (lay1 st (A m) (N m) (V m)) := by
  have hk := lay1_keep h.len h.bytes (A m) (N m) (V m)
  refine ⟨hk.1, hk.2, ?_, ?_⟩
  · unfold lay1
    by_cases hc : st.2 = true ∧ Fits (N m) (V m)
    · rw [if_pos hc]
      simp only [true_iff]
      intro i hi
      rcases Nat.lt_or_ge i m with h1 | h1
      · exact h.fine.1 hc.1 i h1
      · have : i = m := by omega
        subst this
        exact hc.2
    · rw [if_neg hc]
      simp only [Bool.false_eq_true, false_iff]
      exact fun hall => hc ⟨h.fine.2 fun i hi => hall i (by omega), hall m (by omega)⟩
  · unfold lay1
    split
    · rename_i hc
      intro _
      show hset st.1 (A m) (N m) (V m) = _
      rw [h.eq hc.1]
      rfl
    · intro h2; cases h2
def Ok10 (d : Bool) (A B T W : List Int) : Prop :=
  (∀ c, c < 3 → if d then (0 ≤ A.getD c 0 ∧ A.getD c 0 ≤ 31) ∧ (-4 ≤ B.getD c 0 ∧ B.getD c 0 ≤ 3) else (0 ≤ A.getD c 0 ∧ A.getD c 0 ≤ 15) ∧ (0 ≤ B.getD c 0 ∧ B.getD c 0 ≤ 15)) ∧
  (∀ i, i < 16 → 0 ≤ W.getD i 0 ∧ W.getD i 0 ≤ 3) ∧ (0 ≤ T.getD 0 0 ∧ T.getD 0 0 ≤ 7) ∧ (0 ≤ T.getD 1 0 ∧ T.getD 1 0 ≤ 7)
def Is64 (l : List Int) : Prop := ∀ i, IntKind.i64.has (l.getD i 0)
theorem Is64.of {l : List Int} (h : ∀ x ∈ l, IntKind.i64.has x) : Is64 l := fun i => getD_all (p := fun x => IntKind.i64.has x) (has_iff.2 (by decide)) h i
theorem Laid.off {A N : Nat → Nat} {V : Nat → Int} {m : Nat} {st st' : List Int × Bool} (h : Laid A N V m st) (h0 : st.2 = false) (hl : st'.1.length = 8) (hb : Bytes st'.1) (hf : st'.2 = false) : Laid A N V (m + 1) st' := by
  refine ⟨hl, hb, ?_, ?_⟩
  · rw [hf]
    simp only [Bool.false_eq_true, false_iff]
    intro hall
    rw [h.fine.2 fun i hi => hall i (by omega)] at h0
    cases h0
  · rw [hf]
    intro h2
    cases h2
instance (d : Bool) (A B T W : List Int) : Decidable (Ok10 d A B T W) := by
  unfold Ok10
  have : ∀ c, Decidable (if d then (0 ≤ A.getD c 0 ∧ A.getD c 0 ≤ 31) ∧ (-4 ≤ B.getD c 0 ∧ B.getD c 0 ≤ 3) else (0 ≤ A.getD c 0 ∧ A.getD c 0 ≤ 15) ∧ (0 ≤ B.getD c 0 ∧ B.getD c 0 ≤ 15)) := fun c => by
    cases d <;> simp only [Bool.false_eq_true, if_false, if_true] <;> exact inferInstance
  exact inferInstance
end Go.AE.Gn
set_option linter.unusedVariables false
set_option linter.unusedSimpArgs false
namespace Go.AE.Gn
open Go Go.AE
def pk (b : List Int) (L : List Nat) : Nat → Int
  | 0 => 0
  | i + 1 => 2 * pk b L i + hv b (L.getD i 0) 1
theorem pk_bound (b : List Int) (L : List Nat) : ∀ i, 0 ≤ pk b L i ∧ pk b L i < 2 ^ i
  | 0 => by simp [pk]
  | i + 1 => by
    have h := pk_bound b L i
    have h1 := hv_bound b (L.getD i 0) 1
    simp only [pk, Int.pow_succ]
    omega
theorem or_closed : ((List.range 2048).all fun n => (List.range 2).all fun v => ior .i64 (ishl .i64 (n : Int) 1) v == 2 * (n : Int) + v) = true := by kernel_rfl
theorem or_bit {n v : Int} (hn : 0 ≤ n ∧ n < 2048) (hv : 0 ≤ v ∧ v ≤ 1) : ior .i64 (ishl .i64 n 1) v = 2 * n + v := by
  obtain ⟨n, rfl⟩ := Int.eq_ofNat_of_zero_le hn.1
  obtain ⟨v, rfl⟩ := Int.eq_ofNat_of_zero_le hv.1
  have := List.all_eq_true.1 (List.all_eq_true.1 or_closed n (List.mem_range.2 (by omega))) v (List.mem_range.2 (by omega))
  simpa using this
theorem shl_closed : ((List.range 2048).all fun n => ishl .i64 (n : Int) 1 == 2 * (n : Int)) = true := by kernel_rfl
theorem shl_one {n : Int} (hn : 0 ≤ n ∧ n < 2048) : ishl .i64 n 1 = 2 * n := by
  obtain ⟨n, rfl⟩ := Int.eq_ofNat_of_zero_le hn.1
  have := List.all_eq_true.1 shl_closed n (List.mem_range.2 (by omega))
  simpa using this
def casts (L : List Nat) : List Int := List.map (fun a : Nat => Int.ofNat a) L
theorem casts_get (L : List Nat) (i : Nat) : (casts L).getD i 0 = ((L.getD i 0 : Nat) : Int) := by
  unfold casts
  rw [List.getD_eq_getElem?_getD, List.getD_eq_getElem?_getD, List.getElem?_map]
  cases L[i]? <;> rfl
theorem casts_len (L : List Nat) : (casts L).length = L.length := by simp [casts]
def Posn (L : List Nat) : Prop := L.length ≤ 12 ∧ ∀ i, L.getD i 0 < 64
theorem hvT (b : List Int) (a n : Nat) (hn : n ≤ 16) : IntKind.wrap .i64 (hv b a n) = hv b a n := by
  have h1 := hv_bound b a n
  have h2 : (2 : Int) ^ n ≤ 2 ^ 16 := ipow_le hn
  exact w64 (by omega) (by omega)
theorem get_l0_all {b : List Int} (hb : Bytes b) (hl : b.length = 8) (x1 : Bool) (x2 : Bool) (x3 : List Int) (x4 : List Int) (x5 : List Int) (x6 : List Int) (x7 : Bool) {L : List Nat} (hL : Posn L) :
    ∀ (d i k : Nat), i + d = L.length → d < k → etctwo_block_get_l0 600 k b x1 x2 x3 x4 x5 x6 x7 (pk b L i) (casts L) ((L.length : Int)) ((i : Int)) = some (pk b L L.length, ()) := by
  intro d
  induction d with
  | zero =>
    intro i k h1 h2
    obtain ⟨k, rfl⟩ : ∃ k', k = k' + 1 := ⟨k - 1, by omega⟩
    obtain rfl : i = L.length := by omega
    unfold etctwo_block_get_l0 etctwo_block_get_l0S
    simp only [Int.lt_irrefl, decide_false, cond_false]
  | succ d ih =>
    intro i k h1 h2
    obtain ⟨k, rfl⟩ : ∃ k', k = k' + 1 := ⟨k - 1, by omega⟩
    have hlen := hL.1
    have i1 : (i : Int) < (L.length : Int) := by omega
    have hp := pk_bound b L i
    have hp2 : (2 : Int) ^ i ≤ 2 ^ 11 := ipow_le (by omega)
    have hv1 := hv_bound b (L.getD i 0) 1
    have ha := hL.2 i
    have r : bits_High 600 b ((L.getD i 0 : Nat) : Int) (1 : Int) = _ := High_hv (n := 1) (by omega) hb (by omega) (by omega) (by omega)
    unfold etctwo_block_get_l0 etctwo_block_get_l0S
    simp only [i1, decide_true, cond_true, Int.natCast_nonneg, Bool.and_self, Int.toNat_natCast, casts_len, casts_get, r, Option.bind_some, hvT b _ 1 (by omega)]
    rw [nextI (by omega), or_bit (by omega) (by omega), show 2 * pk b L i + hv b (L.getD i 0) 1 = pk b L (i + 1) from rfl]
    exact ih (i + 1) k (by omega) (by omega)
theorem get_is {b : List Int} (hb : Bytes b) (hl : b.length = 8) (a1 a2 : Bool) (a3 a4 a5 a6 : List Int) (a7 : Bool) {L : List Nat} (hL : Posn L) : etctwo_block_get 600 b a1 a2 a3 a4 a5 a6 a7 (casts L) = some (pk b L L.length, ()) := by
  unfold etctwo_block_get
  have h := get_l0_all hb hl a1 a2 a3 a4 a5 a6 a7 hL L.length 0 600 (by omega) (by have := hL.1; omega)
  rw [show pk b L 0 = 0 from rfl, show ((0 : Nat) : Int) = 0 from rfl] at h
  rw [casts_len, h]
  rfl
theorem pick_l0_all {b : List Int} (hb : Bytes b) (hl : b.length = 8) {L : List Nat} (hL : Posn L) :
    ∀ (d i k : Nat), i + d = L.length → d < k → ref11_pick_l0 600 k b (casts L) (pk b L i) (i : Int) = some (pk b L L.length, ()) := by
  intro d
  induction d with
  | zero =>
    intro i k h1 h2
    obtain ⟨k, rfl⟩ : ∃ k', k = k' + 1 := ⟨k - 1, by omega⟩
    obtain rfl : i = L.length := by omega
    unfold ref11_pick_l0 ref11_pick_l0S
    simp only [casts_len, Int.lt_irrefl, decide_false, cond_false]
  | succ d ih =>
    intro i k h1 h2
    obtain ⟨k, rfl⟩ : ∃ k', k = k' + 1 := ⟨k - 1, by omega⟩
    have hlen := hL.1
    have i1 : (i : Int) < (L.length : Int) := by omega
    have hp := pk_bound b L i
    have hp2 : (2 : Int) ^ i ≤ 2 ^ 11 := ipow_le (by omega)
    have hv1 := hv_bound b (L.getD i 0) 1
    have ha := hL.2 i
    have r : ref02_Top 600 b ((L.getD i 0 : Nat) : Int) (1 : Int) = _ := rget10 (n := 1) (by omega) hb hl (by omega) (by omega)
    unfold ref11_pick_l0 ref11_pick_l0S
    simp only [casts_len, i1, decide_true, cond_true, Int.natCast_nonneg, Bool.and_self, Int.toNat_natCast, casts_get, r, Option.bind_some]
    rw [nextI (by omega), w64 (x := 2 * pk b L i) (by omega) (by omega), w64 (by omega) (by omega), show 2 * pk b L i + hv b (L.getD i 0) 1 = pk b L (i + 1) from rfl]
    exact ih (i + 1) k (by omega) (by omega)
theorem pick_is {b : List Int} (hb : Bytes b) (hl : b.length = 8) {L : List Nat} (hL : Posn L) : ref11_pick 600 b (casts L) = some (pk b L L.length, ()) := by
  unfold ref11_pick
  have h := pick_l0_all hb hl hL L.length 0 600 (by omega) (by have := hL.1; omega)
  rw [show pk b L 0 = 0 from rfl, show ((0 : Nat) : Int) = 0 from rfl] at h
  rw [h]
  rfl
theorem run_is {b : List Int} (hb : Bytes b) (hl : b.length = 8) (a1 a2 : Bool) (a3 a4 a5 a6 : List Int) (a7 : Bool) {x y : Int} {a n : Nat} (hx : x = a) (hy : y = (a : Int) + n - 1) (hn : n ≤ 16) (h : a + n ≤ 64) :
    etctwo_block_run 600 b a1 a2 a3 a4 a5 a6 a7 x y = some (hv b a n, ()) ∧ ref11_run 600 b x y = some (hv b a n, ()) := by
  subst hx
  subst hy
  have e : IntKind.wrap .i64 (IntKind.wrap .i64 ((a : Int) + n - 1 - a) + 1) = (n : Int) := by
    rw [w64 (x := (a : Int) + n - 1 - a) (by omega) (by omega), w64 (by omega) (by omega)]
    omega
  unfold etctwo_block_run ref11_run
  rw [e, High_hv (by omega) hb (by omega) (by omega) (by omega), rget10 (by omega) hb hl hn h]
  simp only [Option.bind_some, hvT b a n hn, and_self]
theorem three_loop (x y z : Int) {p q r : Nat} (hp : 1 ≤ p ∧ p ≤ 8) (hq : 1 ≤ q ∧ q ≤ 8) (hr : 1 ≤ r ∧ r ≤ 8) (k : Nat) (x1 : List Int) :
    etctwo_wide_l0 600 (k + 4) [(p : Int), (q : Int), (r : Int)] x1 [0, 0, 0, 255] [x, y, z] 0 = some (x1, ([wideV p x, wideV q y, wideV r z, 255], ())) := by
  have e0 := Wide_is (F := 600) (by omega) hp x
  have e1 := Wide_is (F := 600) (by omega) hq y
  have e2 := Wide_is (F := 600) (by omega) hr z
  unfold etctwo_wide_l0 etctwo_wide_l0S
  simp only [show (0 : Int) < 3 by decide, show (0 : Int) < 4 by decide, decide_true, cond_true, Int.le_refl, Bool.and_self, show Int.toNat 0 = 0 from rfl, List.getD_cons_zero, e0, Option.bind_some, List.set_cons_zero, show IntKind.wrap .i64 (0 + 1) = 1 from rfl]
  unfold etctwo_wide_l0 etctwo_wide_l0S
  simp only [show (1 : Int) < 3 by decide, show (1 : Int) < 4 by decide, show (0 : Int) ≤ 1 by decide, decide_true, cond_true, Bool.and_self, show Int.toNat 1 = 1 from rfl, List.getD_cons_zero, List.getD_cons_succ, e1, Option.bind_some, List.set_cons_zero, List.set_cons_succ, show IntKind.wrap .i64 (1 + 1) = 2 from rfl]
  unfold etctwo_wide_l0 etctwo_wide_l0S
  simp only [show (2 : Int) < 3 by decide, show (2 : Int) < 4 by decide, show (0 : Int) ≤ 2 by decide, decide_true, cond_true, Bool.and_self, show Int.toNat 2 = 2 from rfl, List.getD_cons_zero, List.getD_cons_succ, e2, Option.bind_some, List.set_cons_zero, List.set_cons_succ, show IntKind.wrap .i64 (2 + 1) = 3 from rfl]
  unfold etctwo_wide_l0 etctwo_wide_l0S
  simp only [Int.lt_irrefl, decide_false, cond_false]
def plainV (x y z : Int) : List Int := [wideV 4 x, wideV 4 y, wideV 4 z, 255]
def planeV (x y z : Int) : List Int := [wideV 6 x, wideV 7 y, wideV 6 z, 255]
theorem plain_is (x y z : Int) : etctwo_plain 600 [x, y, z] = some (plainV x y z, ()) := by
  unfold etctwo_plain etctwo_wide
  have h := three_loop x y z (p := 4) (q := 4) (r := 4) (by omega) (by omega) (by omega) 596 [0, 0, 0, 0]
  rw [show (596 + 4 : Nat) = 600 from rfl] at h
  simp only [show ((4 : Nat) : Int) = 4 from rfl] at h
  rw [h]
  rfl
theorem plane_is (x y z : Int) : etctwo_plane 600 [x, y, z] = some (planeV x y z, ()) := by
  unfold etctwo_plane etctwo_wide
  have h := three_loop x y z (p := 6) (q := 7) (r := 6) (by omega) (by omega) (by omega) 596 [0, 0, 0, 0]
  rw [show (596 + 4 : Nat) = 600 from rfl] at h
  simp only [show ((6 : Nat) : Int) = 6 from rfl, show ((7 : Nat) : Int) = 7 from rfl] at h
  rw [h]
  rfl
def Small (x : Int) : Prop := 0 ≤ x ∧ x < 100000
theorem Small.w {x : Int} (h : Small x) : -9000000000000000000 ≤ x ∧ x ≤ 9000000000000000000 := by unfold Small at h; omega
theorem rcolour_is {x y z : Int} (hx : Small x) (hy : Small y) (hz : Small z) : ref11_colour 600 [x, y, z] = some (plainV x y z, ()) := by
  unfold ref11_colour
  have e0 : ref03_Wide 600 x 4 = _ := rWide_is (b := 4) (by omega) (by omega) hx.w
  have e1 : ref03_Wide 600 y 4 = _ := rWide_is (b := 4) (by omega) (by omega) hy.w
  have e2 : ref03_Wide 600 z 4 = _ := rWide_is (b := 4) (by omega) (by omega) hz.w
  simp only [List.getD_cons_zero, List.getD_cons_succ, e0, e1, e2, Option.bind_some]
  rfl
theorem rWide11_is {l : List Int} (h : ∀ i, -9000000000000000000 ≤ l.getD i 0 ∧ l.getD i 0 ≤ 9000000000000000000) : ref11_Wide 600 l = some (planeV (l.getD 0 0) (l.getD 1 0) (l.getD 2 0), ()) := by
  unfold ref11_Wide
  have e0 : ref03_Wide 600 (l.getD 0 0) 6 = _ := rWide_is (b := 6) (by omega) (by omega) (h 0)
  have e1 : ref03_Wide 600 (l.getD 1 0) 7 = _ := rWide_is (b := 7) (by omega) (by omega) (h 1)
  have e2 : ref03_Wide 600 (l.getD 2 0) 6 = _ := rWide_is (b := 6) (by omega) (by omega) (h 2)
  simp only [e0, e1, e2, Option.bind_some]
  rfl
def distV (n : Int) : Int := etctwo_DistanceT1261.getD (n % 8).toNat 0
theorem Distance_is (n : Int) : etctwo_Distance 600 n = some (distV n, ()) := by
  unfold etctwo_Distance distV
  rw [iand7]
  have h1 : (0 : Int) ≤ n % 8 := by omega
  have h2 : n % 8 < 8 := by omega
  simp only [h1, h2, decide_true, Bool.and_self, cond_true]
theorem rDistance_is {n : Int} (hn : -9223372036854775808 ≤ n ∧ n ≤ 9223372036854775807) : ref11_Distance 600 n = some (distV n, ()) := by
  unfold ref11_Distance distV
  have hf := tmod_fix (x := n) (m := 8) (by decide)
  by_cases h : Int.tmod n 8 < 0
  · rw [if_pos h] at hf
    have hlo : -8 < Int.tmod n 8 := Int.lt_tmod_of_pos n (by decide)
    have e : IntKind.wrap .i64 (Int.tmod n 8 + 8) = n % 8 := by
      rw [w64 (by omega) (by omega), hf]
    have h1 : (0 : Int) ≤ n % 8 := by omega
    have h2 : n % 8 < 8 := by omega
    simp only [h, decide_true, cond_true, e, h1, h2, Bool.and_self]
  · rw [if_neg h] at hf
    have h1 : (0 : Int) ≤ n % 8 := by omega
    have h2 : n % 8 < 8 := by omega
    have h3 : ¬ n % 8 < 0 := by omega
    simp only [hf, h3, decide_false, cond_false, h1, h2, decide_true, Bool.and_self, cond_true]
theorem distV_bound (n : Int) : 0 ≤ distV n ∧ distV n ≤ 64 := by
  unfold distV
  exact getD_all (p := fun x => 0 ≤ x ∧ x ≤ 64) (by decide) (by decide) _
def addV (l : List Int) (n : Int) : List Int := [clampV (l.getD 0 0 + n), clampV (l.getD 1 0 + n), clampV (l.getD 2 0 + n), l.getD 3 0]
theorem moved_loop {a b c e n : Int} (ha : 0 ≤ a ∧ a ≤ 255) (hb : 0 ≤ b ∧ b ≤ 255) (hc : 0 ≤ c ∧ c ≤ 255) (hn : -64 ≤ n ∧ n ≤ 64) (k : Nat) (x2 : List Int) :
    etctwo_moved_l0 600 (k + 4) n [a, b, c, e] x2 0 = some ([clampV (a + n), clampV (b + n), clampV (c + n), e], (x2, ())) := by
  have ea : IntKind.wrap .i64 (a + n) = a + n := w64 (by omega) (by omega)
  have eb : IntKind.wrap .i64 (b + n) = b + n := w64 (by omega) (by omega)
  have ec : IntKind.wrap .i64 (c + n) = c + n := w64 (by omega) (by omega)
  unfold etctwo_moved_l0 etctwo_moved_l0S
  simp only [show (0 : Int) < 3 by decide, show (0 : Int) < 4 by decide, decide_true, cond_true, Int.le_refl, Bool.and_self, show Int.toNat 0 = 0 from rfl, List.getD_cons_zero, ea, Clamp10_is, Option.bind_some, List.set_cons_zero, show IntKind.wrap .i64 (0 + 1) = 1 from rfl]
  unfold etctwo_moved_l0 etctwo_moved_l0S
  simp only [show (1 : Int) < 3 by decide, show (1 : Int) < 4 by decide, show (0 : Int) ≤ 1 by decide, decide_true, cond_true, Bool.and_self, show Int.toNat 1 = 1 from rfl, List.getD_cons_zero, List.getD_cons_succ, eb, Clamp10_is, Option.bind_some, List.set_cons_zero, List.set_cons_succ, show IntKind.wrap .i64 (1 + 1) = 2 from rfl]
  unfold etctwo_moved_l0 etctwo_moved_l0S
  simp only [show (2 : Int) < 3 by decide, show (2 : Int) < 4 by decide, show (0 : Int) ≤ 2 by decide, decide_true, cond_true, Bool.and_self, show Int.toNat 2 = 2 from rfl, List.getD_cons_zero, List.getD_cons_succ, ec, Clamp10_is, Option.bind_some, List.set_cons_zero, List.set_cons_succ, show IntKind.wrap .i64 (2 + 1) = 3 from rfl]
  unfold etctwo_moved_l0 etctwo_moved_l0S
  simp only [Int.lt_irrefl, decide_false, cond_false]
theorem plainV_bound (x y z : Int) (i : Nat) : 0 ≤ (plainV x y z).getD i 0 ∧ (plainV x y z).getD i 0 ≤ 255 := by
  have h1 := wideV_bound (b := 4) (by omega) x
  have h2 := wideV_bound (b := 4) (by omega) y
  have h3 := wideV_bound (b := 4) (by omega) z
  exact getD_all (p := fun x => 0 ≤ x ∧ x ≤ 255) (by decide) (fun v hv => by
    simp only [plainV, List.mem_cons, List.not_mem_nil, or_false] at hv
    rcases hv with rfl | rfl | rfl | rfl <;> omega) i
theorem planeV_bound (x y z : Int) (i : Nat) : 0 ≤ (planeV x y z).getD i 0 ∧ (planeV x y z).getD i 0 ≤ 255 := by
  have h1 := wideV_bound (b := 6) (by omega) x
  have h2 := wideV_bound (b := 7) (by omega) y
  have h3 := wideV_bound (b := 6) (by omega) z
  exact getD_all (p := fun x => 0 ≤ x ∧ x ≤ 255) (by decide) (fun v hv => by
    simp only [planeV, List.mem_cons, List.not_mem_nil, or_false] at hv
    rcases hv with rfl | rfl | rfl | rfl <;> omega) i
theorem moved_is (x y z : Int) {n : Int} (hn : -64 ≤ n ∧ n ≤ 64) : etctwo_moved 600 (plainV x y z) n = some (addV (plainV x y z) n, ()) ∧ ref10_Add 600 (plainV x y z) n = some (addV (plainV x y z) n, ()) := by
  have hb := plainV_bound x y z
  have h := moved_loop (a := wideV 4 x) (b := wideV 4 y) (c := wideV 4 z) (e := 255) (n := n) (hb 0) (hb 1) (hb 2) hn 596 [0, 0, 0, 0]
  rw [show (596 + 4 : Nat) = 600 from rfl] at h
  refine ⟨?_, Add10_is (by omega) (by omega) hb⟩
  unfold etctwo_moved plainV
  rw [h]
  rfl
end Go.AE.Gn
set_option linter.unusedVariables false
set_option linter.unusedSimpArgs false
namespace Go.AE.Gn
open Go Go.AE
def planeE (o h v : Int) (i : Nat) : Int := ((i % 4 : Nat) : Int) * (h - o) + ((i / 4 : Nat) : Int) * (v - o) + 4 * o + 2
def planeF (o h v : List Int) (j : Nat) : Int := if j % 4 = 3 then 255 else clampV (planeE (o.getD (j % 4) 0) (h.getD (j % 4) 0) (v.getD (j % 4) 0) (j / 4) / 4)
def Colour (l : List Int) : Prop := ∀ i, 0 ≤ l.getD i 0 ∧ l.getD i 0 ≤ 255
theorem plane_expr {o h v : Int} (ho : 0 ≤ o ∧ o ≤ 255) (hh : 0 ≤ h ∧ h ≤ 255) (hv : 0 ≤ v ∧ v ≤ 255) {i : Nat} (hi : i < 16) :
    IntKind.wrap .i64 (IntKind.wrap .i64 (IntKind.wrap .i64 (IntKind.wrap .i64 (Int.tmod (i : Int) 4 * IntKind.wrap .i64 (h - o)) + IntKind.wrap .i64 (IntKind.wrap .i64 (Int.tdiv (i : Int) 4) * IntKind.wrap .i64 (v - o))) + IntKind.wrap .i64 (4 * o)) + 2) = planeE o h v i ∧ -4000 ≤ planeE o h v i ∧ planeE o h v i ≤ 4000 := by
  have em : Int.tmod (i : Int) 4 = ((i % 4 : Nat) : Int) := by rw [tmod_nonneg (by omega)]; omega
  have ed : Int.tdiv (i : Int) 4 = ((i / 4 : Nat) : Int) := by rw [tdiv_nonneg (by omega)]; omega
  have m1 := mulB' (n := h - o) (t := ((i % 4 : Nat) : Int)) (c := 255) (d := 3) (by omega) (by omega) (by decide)
  have m2 := mulB' (n := v - o) (t := ((i / 4 : Nat) : Int)) (c := 255) (d := 3) (by omega) (by omega) (by decide)
  rw [Int.mul_comm (h - o)] at m1
  rw [Int.mul_comm (v - o)] at m2
  rw [em, ed, w64 (x := h - o) (by omega) (by omega), w64 (x := v - o) (by omega) (by omega), w64 (x := ((i / 4 : Nat) : Int)) (by omega) (by omega), w64 (x := 4 * o) (by omega) (by omega)]
  unfold planeE
  rw [w64 (x := ((i % 4 : Nat) : Int) * (h - o)) (by omega) (by omega), w64 (x := ((i / 4 : Nat) : Int) * (v - o)) (by omega) (by omega), w64 (x := ((i % 4 : Nat) : Int) * (h - o) + ((i / 4 : Nat) : Int) * (v - o)) (by omega) (by omega),
    w64 (x := ((i % 4 : Nat) : Int) * (h - o) + ((i / 4 : Nat) : Int) * (v - o) + 4 * o) (by omega) (by omega), w64 (by omega) (by omega)]
  omega
theorem Plane_l2_all {o h v : List Int} (ho : Colour o) (hh : Colour h) (hv : Colour v) (q : Nat → Int) (x3 : List Int) (x6 : Int) {i : Nat} (hi : i < 16) : ∀ (d c k : Nat), c + d = 3 → d < k →
    etctwo_Plane_l2 600 k o h v x3 (tab 64 fun j => if j / 4 = i ∧ (j % 4 < c ∨ j % 4 = 3) then planeF o h v j else q j) (i : Int) x6 (c : Int) = some (o, (h, (v, (x3, (tab 64 (fun j => if j / 4 = i then planeF o h v j else q j), (x6, ())))))) ∧
    ref11_Plane_l2 600 k o h v x3 (tab 64 fun j => if j / 4 = i ∧ (j % 4 < c ∨ j % 4 = 3) then planeF o h v j else q j) (i : Int) (c : Int) = some (o, (h, (v, (x3, (tab 64 (fun j => if j / 4 = i then planeF o h v j else q j), ((i : Int), ())))))) := by
  intro d
  induction d with
  | zero =>
    intro c k h1 h2
    obtain ⟨k, rfl⟩ : ∃ k', k = k' + 1 := ⟨k - 1, by omega⟩
    obtain rfl : c = 3 := by omega
    unfold etctwo_Plane_l2 etctwo_Plane_l2S ref11_Plane_l2 ref11_Plane_l2S
    have : ¬ (((3 : Nat) : Int) < 3) := by omega
    simp only [this, decide_false, cond_false]
    rw [tab_congr fun j hj => show (if j / 4 = i ∧ (j % 4 < 3 ∨ j % 4 = 3) then planeF o h v j else q j) = if j / 4 = i then planeF o h v j else q j by
      have : j % 4 < 3 ∨ j % 4 = 3 := by omega
      simp only [this, and_true]]
    exact ⟨rfl, rfl⟩
  | succ d ih =>
    intro c k h1 h2
    obtain ⟨k, rfl⟩ : ∃ k', k = k' + 1 := ⟨k - 1, by omega⟩
    have hc : c < 4 := by omega
    have i1 : (c : Int) < 3 := by omega
    have i1' : (c : Int) < 4 := by omega
    have i2 : (i : Int) < 16 := by omega
    obtain ⟨e, b1, b2⟩ := plane_expr (ho c) (hh c) (hv c) hi
    have es : ishr .i64 (planeE (o.getD c 0) (h.getD c 0) (v.getD c 0) i) 2 = planeE (o.getD c 0) (h.getD c 0) (v.getD c 0) i / 4 := ishr64' (k := 2) (by omega)
    have em := (Mix_is 600 (a := 0) (b := planeE (o.getD c 0) (h.getD c 0) (v.getD c 0) i) (k := 1) (o := 4) (add := 0) (by omega) (by omega) (by omega) (by omega) (by omega) (by omega)).2.1
    have emv : mixV 0 (planeE (o.getD c 0) (h.getD c 0) (v.getD c 0) i) 1 4 0 = planeE (o.getD c 0) (h.getD c 0) (v.getD c 0) i / 4 := by
      unfold mixV
      congr 1
      omega
    rw [emv] at em
    have ef : clampV (planeE (o.getD c 0) (h.getD c 0) (v.getD c 0) i / 4) = planeF o h v (i * 4 + c) := by
      unfold planeF
      rw [(mul4 i c hc).1, (mul4 i c hc).2, if_neg (by omega)]
    unfold etctwo_Plane_l2 etctwo_Plane_l2S ref11_Plane_l2 ref11_Plane_l2S
    simp only [i1, i1', i2, decide_true, cond_true, Int.natCast_nonneg, Bool.and_self, Int.toNat_natCast, e, es, em, Clamp10_is, rClamp10_is, Option.bind_some, ef, tab_set]
    rw [nextI (by omega), tab_congr fun j hj => show (if j = i * 4 + c then planeF o h v (i * 4 + c) else if j / 4 = i ∧ (j % 4 < c ∨ j % 4 = 3) then planeF o h v j else q j) = if j / 4 = i ∧ (j % 4 < c + 1 ∨ j % 4 = 3) then planeF o h v j else q j by
      by_cases h3 : j = i * 4 + c
      · rw [if_pos h3, if_pos (by omega), h3]
      · rw [if_neg h3]
        by_cases h5 : j / 4 = i ∧ (j % 4 < c ∨ j % 4 = 3)
        · rw [if_pos h5, if_pos (by omega)]
        · rw [if_neg h5, if_neg (by omega)]]
    exact ih (c + 1) k (by omega) (by omega)
theorem Plane_l0_all {o h v : List Int} (ho : Colour o) (hh : Colour h) (hv : Colour v) (x3 : List Int) : ∀ (d i k : Nat), i + d = 16 → d < k →
    etctwo_Plane_l0 600 k o h v x3 (tab 64 (upR i 0 (planeF o h v))) (i : Int) = some (x3, (tab 64 (planeF o h v), ())) ∧ ref11_Plane_l0 600 k o h v x3 (tab 64 (upR i 0 (planeF o h v))) (i : Int) = some (x3, (tab 64 (planeF o h v), ())) := by
  intro d
  induction d with
  | zero =>
    intro i k h1 h2
    obtain ⟨k, rfl⟩ : ∃ k', k = k' + 1 := ⟨k - 1, by omega⟩
    obtain rfl : i = 16 := by omega
    unfold etctwo_Plane_l0 etctwo_Plane_l0S ref11_Plane_l0 ref11_Plane_l0S
    have : ¬ (((16 : Nat) : Int) < 16) := by omega
    simp only [this, decide_false, cond_false, upR_all (i := 16) (planeF o h v) (show 64 ≤ 16 * 4 by omega), and_self]
  | succ d ih =>
    intro i k h1 h2
    obtain ⟨k, rfl⟩ : ∃ k', k = k' + 1 := ⟨k - 1, by omega⟩
    have hi : i < 16 := by omega
    have i2 : (i : Int) < 16 := by omega
    obtain ⟨l1, l2⟩ := Plane_l2_all ho hh hv (upR i 0 (planeF o h v)) x3 (i : Int) hi 3 0 600 (by omega) (by omega)
    rw [show ((0 : Nat) : Int) = 0 from rfl] at l1 l2
    have es : (tab 64 (upR i 0 (planeF o h v))).set (3 + i * 4) 255 = tab 64 fun j => if j / 4 = i ∧ (j % 4 < 0 ∨ j % 4 = 3) then planeF o h v j else upR i 0 (planeF o h v) j := by
      rw [tab_set]
      refine tab_congr fun j hj => ?_
      by_cases h3 : j = 3 + i * 4
      · rw [if_pos h3, if_pos (by omega)]
        unfold planeF
        rw [if_pos (by omega)]
      · rw [if_neg h3, if_neg (by omega)]
    have en : (tab 64 fun j => if j / 4 = i then planeF o h v j else upR i 0 (planeF o h v) j) = tab 64 (upR (i + 1) 0 (planeF o h v)) := tab_congr fun j hj => by
      unfold upR
      by_cases h3 : j / 4 = i
      · rw [if_pos h3, if_pos (by omega)]
      · rw [if_neg h3]
        by_cases h4 : j < i * 4 + 0
        · rw [if_pos h4, if_pos (by omega)]
        · rw [if_neg h4, if_neg (by omega)]
    rw [en] at l1 l2
    unfold etctwo_Plane_l0 etctwo_Plane_l0S ref11_Plane_l0 ref11_Plane_l0S
    simp only [i2, decide_true, cond_true, Int.natCast_nonneg, Bool.and_self, Int.toNat_natCast, es, l1, l2, Option.bind_some]
    rw [nextI (by omega)]
    exact ih (i + 1) k (by omega) (by omega)
theorem zero64b : etctwo_DecodeT711 = tab 64 fun _ => 0 := by decide +kernel
theorem Plane_is {o h v : List Int} (ho : Colour o) (hh : Colour h) (hv : Colour v) : etctwo_Plane 600 o h v = some (tab 64 (planeF o h v), ()) ∧ ref11_Plane 600 o h v = some (tab 64 (planeF o h v), ()) := by
  obtain ⟨h1, h2⟩ := Plane_l0_all ho hh hv etctwo_DecodeT711 16 0 600 (by omega) (by omega)
  rw [upR_zero, ← zero64b, show ((0 : Nat) : Int) = 0 from rfl] at h1 h2
  unfold etctwo_Plane ref11_Plane
  rw [h1, h2]
  exact ⟨rfl, rfl⟩
def plO (b : List Int) : List Int := planeV (hv b 1 6) (pk b [7, 9, 10, 11, 12, 13, 14] 7) (pk b [15, 19, 20, 22, 23, 24] 6)
def plH (b : List Int) : List Int := planeV (pk b [25, 26, 27, 28, 29, 31] 6) (hv b 32 7) (hv b 39 6)
def plV (b : List Int) : List Int := planeV (hv b 45 6) (hv b 51 7) (hv b 58 6)
def planarF (b : List Int) (j : Nat) : Int := planeF (plO b) (plH b) (plV b) j
theorem posn_of {L : List Nat} (h : (decide (L.length ≤ 12) && L.all fun a => decide (a < 64)) = true) : Posn L := by
  simp only [Bool.and_eq_true, decide_eq_true_eq, List.all_eq_true] at h
  refine ⟨h.1, fun i => ?_⟩
  rw [List.getD_eq_getElem?_getD]
  by_cases hi : i < L.length
  · rw [List.getElem?_eq_getElem hi]
    exact h.2 _ (List.getElem_mem hi)
  · rw [List.getElem?_eq_none (by omega)]
    decide
theorem hvw (b : List Int) (a n : Nat) (hn : n ≤ 16) : Small (hv b a n) := by
  have h1 := hv_bound b a n
  have h2 : (2 : Int) ^ n ≤ 2 ^ 16 := ipow_le hn
  unfold Small
  omega
theorem pkw (b : List Int) (L : List Nat) (n : Nat) (hn : n ≤ 16) : Small (pk b L n) := by
  have h1 := pk_bound b L n
  have h2 : (2 : Int) ^ n ≤ 2 ^ 16 := ipow_le hn
  unfold Small
  omega
theorem rplane_is {x y z : Int} (hx : Small x) (hy : Small y) (hz : Small z) : ref11_Wide 600 [x, y, z] = some (planeV x y z, ()) :=
  rWide11_is fun i => getD_all (p := fun x => -9000000000000000000 ≤ x ∧ x ≤ 9000000000000000000) (by decide) (fun v hv => by
    simp only [List.mem_cons, List.not_mem_nil, or_false] at hv
    rcases hv with rfl | rfl | rfl
    · exact hx.w
    · exact hy.w
    · exact hz.w) i
theorem planar_is {b : List Int} (hb : Bytes b) (hl : b.length = 8) (a1 a2 : Bool) (a3 a4 a5 a6 : List Int) (a7 : Bool) :
    etctwo_block_planar 600 b a1 a2 a3 a4 a5 a6 a7 = some (tab 64 (planarF b), ()) ∧ ref11_planar 600 b = some (tab 64 (planarF b), ()) := by
  have t1 : etctwo_LayT192 = casts [7, 9, 10, 11, 12, 13, 14] := rfl
  have t2 : etctwo_LayT315 = casts [15, 19, 20, 22, 23, 24] := rfl
  have t3 : etctwo_LayT319 = casts [25, 26, 27, 28, 29, 31] := rfl
  have p1 := posn_of (L := [7, 9, 10, 11, 12, 13, 14]) (by decide)
  have p2 := posn_of (L := [15, 19, 20, 22, 23, 24]) (by decide)
  have p3 := posn_of (L := [25, 26, 27, 28, 29, 31]) (by decide)
  have g1 := get_is hb hl a1 a2 a3 a4 a5 a6 a7 p1
  have g2 := get_is hb hl a1 a2 a3 a4 a5 a6 a7 p2
  have g3 := get_is hb hl a1 a2 a3 a4 a5 a6 a7 p3
  have k1 := pick_is hb hl p1
  have k2 := pick_is hb hl p2
  have k3 := pick_is hb hl p3
  obtain ⟨r1, s1⟩ := run_is hb hl a1 a2 a3 a4 a5 a6 a7 (x := 1) (y := 6) (a := 1) (n := 6) rfl rfl (by omega) (by omega)
  obtain ⟨r2, s2⟩ := run_is hb hl a1 a2 a3 a4 a5 a6 a7 (x := 32) (y := 38) (a := 32) (n := 7) rfl rfl (by omega) (by omega)
  obtain ⟨r3, s3⟩ := run_is hb hl a1 a2 a3 a4 a5 a6 a7 (x := 39) (y := 44) (a := 39) (n := 6) rfl rfl (by omega) (by omega)
  obtain ⟨r4, s4⟩ := run_is hb hl a1 a2 a3 a4 a5 a6 a7 (x := 45) (y := 50) (a := 45) (n := 6) rfl rfl (by omega) (by omega)
  obtain ⟨r5, s5⟩ := run_is hb hl a1 a2 a3 a4 a5 a6 a7 (x := 51) (y := 57) (a := 51) (n := 7) rfl rfl (by omega) (by omega)
  obtain ⟨r6, s6⟩ := run_is hb hl a1 a2 a3 a4 a5 a6 a7 (x := 58) (y := 63) (a := 58) (n := 6) rfl rfl (by omega) (by omega)
  obtain ⟨q1, q2⟩ := Plane_is (o := plO b) (h := plH b) (v := plV b) (planeV_bound _ _ _) (planeV_bound _ _ _) (planeV_bound _ _ _)
  have w1 := rplane_is (hvw b 1 6 (by omega)) (pkw b [7, 9, 10, 11, 12, 13, 14] 7 (by omega)) (pkw b [15, 19, 20, 22, 23, 24] 6 (by omega))
  have w2 := rplane_is (pkw b [25, 26, 27, 28, 29, 31] 6 (by omega)) (hvw b 32 7 (by omega)) (hvw b 39 6 (by omega))
  have w3 := rplane_is (hvw b 45 6 (by omega)) (hvw b 51 7 (by omega)) (hvw b 58 6 (by omega))
  unfold etctwo_block_planar ref11_planar
  rw [t1, t2, t3]
  simp only [g1, g2, g3, k1, k2, k3, r1, r2, r3, r4, r5, r6, s1, s2, s3, s4, s5, s6, Option.bind_some, plane_is, List.length_cons, List.length_nil, Nat.zero_add, Nat.reduceAdd, w1, w2, w3]
  rw [show planeV (hv b 1 6) (pk b [7, 9, 10, 11, 12, 13, 14] 7) (pk b [15, 19, 20, 22, 23, 24] 6) = plO b from rfl, show planeV (pk b [25, 26, 27, 28, 29, 31] 6) (hv b 32 7) (hv b 39 6) = plH b from rfl, show planeV (hv b 45 6) (hv b 51 7) (hv b 58 6) = plV b from rfl, q1, q2]
  exact ⟨rfl, rfl⟩
end Go.AE.Gn
set_option linter.unusedVariables false
set_option linter.unusedSimpArgs false
namespace Go.AE.Gn
open Go Go.AE
def tA (b : List Int) : List Int := plainV (pk b [3, 4, 6, 7] 4) (hv b 8 4) (hv b 12 4)
def tZ (b : List Int) : List Int := plainV (hv b 16 4) (hv b 20 4) (hv b 24 4)
def tD (b : List Int) : Int := distV (pk b [28, 29, 31] 3)
def fourT (b : List Int) : List Int := tA b ++ (addV (tZ b) (tD b) ++ (tZ b ++ addV (tZ b) (0 - tD b)))
def hL (b : List Int) : List Int := plainV (hv b 1 4) (pk b [5, 6, 7, 11] 4) (pk b [12, 14, 15, 16] 4)
def hM (b : List Int) : List Int := plainV (hv b 17 4) (hv b 21 4) (hv b 25 4)
def hX (b : List Int) : Int := 256 * hv b 1 4 + 16 * pk b [5, 6, 7, 11] 4 + pk b [12, 14, 15, 16] 4
def hY (b : List Int) : Int := 256 * hv b 17 4 + 16 * hv b 21 4 + hv b 25 4
def hD (b : List Int) : Int := distV (if hY b ≤ hX b then 2 * pk b [29, 31] 2 + 1 else 2 * pk b [29, 31] 2)
def fourH (b : List Int) : List Int := addV (hL b) (hD b) ++ (addV (hL b) (0 - hD b) ++ (addV (hM b) (hD b) ++ addV (hM b) (0 - hD b)))
theorem hv_succ (b : List Int) (a n : Nat) : hv b a (n + 1) = 2 * hv b a n + hv b (a + n) 1 := by
  simp only [hv, sumHi, Nat.add_zero]
  omega
theorem hX_is (b : List Int) : pk b [1, 2, 3, 4, 5, 6, 7, 11, 12, 14, 15, 16] 12 = hX b := by
  unfold hX
  rw [hv_succ b 1 3, hv_succ b 1 2, hv_succ b 1 1]
  simp only [pk, List.getD_cons_zero, List.getD_cons_succ, Nat.reduceAdd]
  omega
theorem hY_is (b : List Int) : hv b 17 12 = hY b := by
  unfold hY
  rw [hv_succ b 17 11, hv_succ b 17 10, hv_succ b 17 9, hv_succ b 17 8, hv_succ b 17 7, hv_succ b 17 6, hv_succ b 17 5, hv_succ b 17 4, hv_succ b 21 3, hv_succ b 21 2, hv_succ b 21 1, hv_succ b 25 3, hv_succ b 25 2, hv_succ b 25 1]
  simp only [Nat.reduceAdd]
  omega
def fourF (l W : List Int) (j : Nat) : Int := l.getD ((W.getD (j / 4) 0).toNat * 4 + j % 4) 0
theorem four_l0_all {l W : List Int} (hl : l.length = 16) (hW : ∀ i, 0 ≤ W.getD i 0 ∧ W.getD i 0 ≤ 3) (x1 : List Int) : ∀ (d i k : Nat), i + d = 16 → d < k →
    etctwo_block_four_l0 600 k l x1 (tab 64 (upR i 0 (fourF l W))) W (i : Int) = some (x1, (tab 64 (fourF l W), ())) := by
  intro d
  induction d with
  | zero =>
    intro i k h1 h2
    obtain ⟨k, rfl⟩ : ∃ k', k = k' + 1 := ⟨k - 1, by omega⟩
    obtain rfl : i = 16 := by omega
    unfold etctwo_block_four_l0 etctwo_block_four_l0S
    have : ¬ (((16 : Nat) : Int) < 16) := by omega
    simp only [this, decide_false, cond_false, upR_all (i := 16) (fourF l W) (show 64 ≤ 16 * 4 by omega)]
  | succ d ih =>
    intro i k h1 h2
    obtain ⟨k, rfl⟩ : ∃ k', k = k' + 1 := ⟨k - 1, by omega⟩
    have i1 : (i : Int) < 16 := by omega
    have hw := hW i
    have j1 : (0 : Int) ≤ W.getD i 0 := hw.1
    have j2 : W.getD i 0 < 4 := by omega
    unfold etctwo_block_four_l0 etctwo_block_four_l0S
    simp only [i1, j1, j2, decide_true, cond_true, Int.natCast_nonneg, Bool.and_self, Int.toNat_natCast, tab_row_of hl (show (W.getD i 0).toNat * 4 + 4 ≤ 16 by omega), tab_row (show i * 4 + 4 ≤ 64 by omega)]
    rw [nextI (by omega), tab_congr fun j hj => show (if j / 4 = i then l.getD ((W.getD i 0).toNat * 4 + j % 4) 0 else upR i 0 (fourF l W) j) = upR (i + 1) 0 (fourF l W) j by
      unfold upR
      by_cases h3 : j / 4 = i
      · rw [if_pos h3, if_pos (by omega)]
        unfold fourF
        rw [h3]
      · rw [if_neg h3]
        by_cases h4 : j < i * 4 + 0
        · rw [if_pos h4, if_pos (by omega)]
        · rw [if_neg h4, if_neg (by omega)]]
    exact ih (i + 1) k (by omega) (by omega)
theorem four_is {l W : List Int} (hl : l.length = 16) (hW : ∀ i, 0 ≤ W.getD i 0 ∧ W.getD i 0 ≤ 3) (a0 : List Int) (a1 a2 : Bool) (a3 a4 a5 : List Int) (a7 : Bool) :
    etctwo_block_four 600 a0 a1 a2 a3 a4 a5 W a7 l = some (tab 64 (fourF l W), ()) := by
  unfold etctwo_block_four
  have h := four_l0_all hl hW etctwo_DecodeT711 16 0 600 (by omega) (by omega)
  rw [upR_zero, ← zero64b, show ((0 : Nat) : Int) = 0 from rfl] at h
  rw [h]
  rfl
theorem neg_w {d : Int} (h : 0 ≤ d ∧ d ≤ 64) : IntKind.wrap .i64 (0 - d) = 0 - d := w64 (by omega) (by omega)
theorem ofT_is {b : List Int} (hb : Bytes b) (hl : b.length = 8) (a1 a2 : Bool) (a3 a4 a5 : List Int) {W : List Int} (hW : ∀ i, 0 ≤ W.getD i 0 ∧ W.getD i 0 ≤ 3) (a7 : Bool) :
    etctwo_block_ofT 600 b a1 a2 a3 a4 a5 W a7 = some (tab 64 (fourF (fourT b) W), ()) ∧ ref11_four 600 b 1 = some (fourT b, ()) := by
  have t1 : [(3 : Int), 4, 6, 7] = casts [3, 4, 6, 7] := rfl
  have t2 : [(28 : Int), 29, 31] = casts [28, 29, 31] := rfl
  have p1 := posn_of (L := [3, 4, 6, 7]) (by decide)
  have p2 := posn_of (L := [28, 29, 31]) (by decide)
  have g1 : etctwo_block_get 600 b a1 a2 a3 a4 a5 W a7 (casts [3, 4, 6, 7]) = some (pk b [3, 4, 6, 7] 4, ()) := get_is hb hl a1 a2 a3 a4 a5 W a7 p1
  have g2 : etctwo_block_get 600 b a1 a2 a3 a4 a5 W a7 (casts [28, 29, 31]) = some (pk b [28, 29, 31] 3, ()) := get_is hb hl a1 a2 a3 a4 a5 W a7 p2
  have k1 : ref11_pick 600 b (casts [3, 4, 6, 7]) = some (pk b [3, 4, 6, 7] 4, ()) := pick_is hb hl p1
  have k2 : ref11_pick 600 b (casts [28, 29, 31]) = some (pk b [28, 29, 31] 3, ()) := pick_is hb hl p2
  obtain ⟨r1, s1⟩ := run_is hb hl a1 a2 a3 a4 a5 W a7 (x := 8) (y := 11) (a := 8) (n := 4) rfl rfl (by omega) (by omega)
  obtain ⟨r2, s2⟩ := run_is hb hl a1 a2 a3 a4 a5 W a7 (x := 12) (y := 15) (a := 12) (n := 4) rfl rfl (by omega) (by omega)
  obtain ⟨r3, s3⟩ := run_is hb hl a1 a2 a3 a4 a5 W a7 (x := 16) (y := 19) (a := 16) (n := 4) rfl rfl (by omega) (by omega)
  obtain ⟨r4, s4⟩ := run_is hb hl a1 a2 a3 a4 a5 W a7 (x := 20) (y := 23) (a := 20) (n := 4) rfl rfl (by omega) (by omega)
  obtain ⟨r5, s5⟩ := run_is hb hl a1 a2 a3 a4 a5 W a7 (x := 24) (y := 27) (a := 24) (n := 4) rfl rfl (by omega) (by omega)
  have c1 := rcolour_is (pkw b [3, 4, 6, 7] 4 (by omega)) (hvw b 8 4 (by omega)) (hvw b 12 4 (by omega))
  have c2 := rcolour_is (hvw b 16 4 (by omega)) (hvw b 20 4 (by omega)) (hvw b 24 4 (by omega))
  have d1 := Distance_is (pk b [28, 29, 31] 3)
  have d2 := rDistance_is (n := pk b [28, 29, 31] 3) (by have := pkw b [28, 29, 31] 3 (by omega); unfold Small at this; omega)
  have db := distV_bound (pk b [28, 29, 31] 3)
  obtain ⟨m1, n1⟩ := moved_is (hv b 16 4) (hv b 20 4) (hv b 24 4) (n := distV (pk b [28, 29, 31] 3)) (by omega)
  obtain ⟨m2, n2⟩ := moved_is (hv b 16 4) (hv b 20 4) (hv b 24 4) (n := 0 - distV (pk b [28, 29, 31] 3)) (by omega)
  have f := four_is (l := fourT b) rfl hW b a1 a2 a3 a4 a5 a7
  unfold fourT tA tZ tD at f
  unfold etctwo_block_ofT ref11_four fourT tA tZ tD
  rw [t1, t2]
  simp only [g1, g2, k1, k2, r1, r2, r3, r4, r5, s1, s2, s3, s4, s5, c1, c2, d1, d2, m1, m2, n1, n2, neg_w db, plain_is, Option.bind_some, f, beq_self_eq_true, cond_true]
  refine ⟨?_, ?_⟩ <;> first | trivial | rfl
theorem number_is {x y z : Int} (hx : Small x) (hy : Small y) (hz : Small z) : ref11_number 600 [x, y, z] = some (256 * x + 16 * y + z, ()) := by
  unfold Small at hx hy hz
  unfold ref11_number
  simp only [List.getD_cons_zero, List.getD_cons_succ]
  rw [w64 (x := 256 * x) (by omega) (by omega), w64 (x := 16 * y) (by omega) (by omega), w64 (x := 256 * x + 16 * y) (by omega) (by omega), w64 (by omega) (by omega)]
theorem ofH_is {b : List Int} (hb : Bytes b) (hl : b.length = 8) (a1 a2 : Bool) (a3 a4 a5 : List Int) {W : List Int} (hW : ∀ i, 0 ≤ W.getD i 0 ∧ W.getD i 0 ≤ 3) (a7 : Bool) :
    etctwo_block_ofH 600 b a1 a2 a3 a4 a5 W a7 = some (tab 64 (fourF (fourH b) W), ()) ∧ ref11_four 600 b 2 = some (fourH b, ()) := by
  have t1 : [(5 : Int), 6, 7, 11] = casts [5, 6, 7, 11] := rfl
  have t2 : [(12 : Int), 14, 15, 16] = casts [12, 14, 15, 16] := rfl
  have t3 : [(29 : Int), 31] = casts [29, 31] := rfl
  have t4 : etctwo_block_ofHT1383 = casts [1, 2, 3, 4, 5, 6, 7, 11, 12, 14, 15, 16] := rfl
  have p1 := posn_of (L := [5, 6, 7, 11]) (by decide)
  have p2 := posn_of (L := [12, 14, 15, 16]) (by decide)
  have p3 := posn_of (L := [29, 31]) (by decide)
  have p4 := posn_of (L := [1, 2, 3, 4, 5, 6, 7, 11, 12, 14, 15, 16]) (by decide)
  have g1 : etctwo_block_get 600 b a1 a2 a3 a4 a5 W a7 (casts [5, 6, 7, 11]) = some (pk b [5, 6, 7, 11] 4, ()) := get_is hb hl a1 a2 a3 a4 a5 W a7 p1
  have g2 : etctwo_block_get 600 b a1 a2 a3 a4 a5 W a7 (casts [12, 14, 15, 16]) = some (pk b [12, 14, 15, 16] 4, ()) := get_is hb hl a1 a2 a3 a4 a5 W a7 p2
  have g3 : etctwo_block_get 600 b a1 a2 a3 a4 a5 W a7 (casts [29, 31]) = some (pk b [29, 31] 2, ()) := get_is hb hl a1 a2 a3 a4 a5 W a7 p3
  have g4 : etctwo_block_get 600 b a1 a2 a3 a4 a5 W a7 (casts [1, 2, 3, 4, 5, 6, 7, 11, 12, 14, 15, 16]) = some (hX b, ()) := (get_is hb hl a1 a2 a3 a4 a5 W a7 p4).trans (by rw [show ([1, 2, 3, 4, 5, 6, 7, 11, 12, 14, 15, 16] : List Nat).length = 12 from rfl, hX_is])
  have k1 : ref11_pick 600 b (casts [5, 6, 7, 11]) = some (pk b [5, 6, 7, 11] 4, ()) := pick_is hb hl p1
  have k2 : ref11_pick 600 b (casts [12, 14, 15, 16]) = some (pk b [12, 14, 15, 16] 4, ()) := pick_is hb hl p2
  have k3 : ref11_pick 600 b (casts [29, 31]) = some (pk b [29, 31] 2, ()) := pick_is hb hl p3
  obtain ⟨r1, s1⟩ := run_is hb hl a1 a2 a3 a4 a5 W a7 (x := 1) (y := 4) (a := 1) (n := 4) rfl rfl (by omega) (by omega)
  obtain ⟨r2, s2⟩ := run_is hb hl a1 a2 a3 a4 a5 W a7 (x := 17) (y := 20) (a := 17) (n := 4) rfl rfl (by omega) (by omega)
  obtain ⟨r3, s3⟩ := run_is hb hl a1 a2 a3 a4 a5 W a7 (x := 21) (y := 24) (a := 21) (n := 4) rfl rfl (by omega) (by omega)
  obtain ⟨r4, s4⟩ := run_is hb hl a1 a2 a3 a4 a5 W a7 (x := 25) (y := 28) (a := 25) (n := 4) rfl rfl (by omega) (by omega)
  obtain ⟨r5, _⟩ := run_is hb hl a1 a2 a3 a4 a5 W a7 (x := 17) (y := 28) (a := 17) (n := 12) rfl rfl (by omega) (by omega)
  rw [hY_is] at r5
  have c1 := rcolour_is (hvw b 1 4 (by omega)) (pkw b [5, 6, 7, 11] 4 (by omega)) (pkw b [12, 14, 15, 16] 4 (by omega))
  have c2 := rcolour_is (hvw b 17 4 (by omega)) (hvw b 21 4 (by omega)) (hvw b 25 4 (by omega))
  have u1 := number_is (hvw b 1 4 (by omega)) (pkw b [5, 6, 7, 11] 4 (by omega)) (pkw b [12, 14, 15, 16] 4 (by omega))
  have u2 := number_is (hvw b 17 4 (by omega)) (hvw b 21 4 (by omega)) (hvw b 25 4 (by omega))
  have hpk := pk_bound b [29, 31] 2
  have e1 := shl_one (n := pk b [29, 31] 2) (by omega)
  have e2 : IntKind.wrap .i64 (2 * pk b [29, 31] 2) = 2 * pk b [29, 31] 2 := w64 (by omega) (by omega)
  have e3 : IntKind.wrap .i64 (2 * pk b [29, 31] 2 + 1) = 2 * pk b [29, 31] 2 + 1 := w64 (by omega) (by omega)
  have dR := fun n (hn : 0 ≤ n ∧ n ≤ 100) => rDistance_is (n := n) (by omega)
  have f := four_is (l := fourH b) rfl hW b a1 a2 a3 a4 a5 a7
  have db := distV_bound (2 * pk b [29, 31] 2 + 1)
  have db' := distV_bound (2 * pk b [29, 31] 2)
  have z21 : ((2 : Int) == 1) = false := rfl
  rw [show 256 * hv b 1 4 + 16 * pk b [5, 6, 7, 11] 4 + pk b [12, 14, 15, 16] 4 = hX b from rfl] at u1
  rw [show 256 * hv b 17 4 + 16 * hv b 21 4 + hv b 25 4 = hY b from rfl] at u2
  unfold etctwo_block_ofH ref11_four
  rw [t1, t2, t3, t4]
  simp only [z21, cond_false, g1, g2, g3, g4, k1, k2, k3, r1, r2, r3, r4, r5, s1, s2, s3, s4, c1, c2, u1, u2, e1, e2, e3, plain_is, Option.bind_some]
  rw [show plainV (hv b 1 4) (pk b [5, 6, 7, 11] 4) (pk b [12, 14, 15, 16] 4) = hL b from rfl, show plainV (hv b 17 4) (hv b 21 4) (hv b 25 4) = hM b from rfl]
  by_cases h : hY b ≤ hX b
  · have hd : hD b = distV (2 * pk b [29, 31] 2 + 1) := by
      unfold hD
      rw [if_pos h]
    unfold fourH at f
    rw [hd] at f
    have d2 := dR (2 * pk b [29, 31] 2 + 1) (by omega)
    obtain ⟨m1, n1⟩ : etctwo_moved 600 (hL b) (distV (2 * pk b [29, 31] 2 + 1)) = _ ∧ ref10_Add 600 (hL b) (distV (2 * pk b [29, 31] 2 + 1)) = _ := moved_is _ _ _ (by omega)
    obtain ⟨m2, n2⟩ : etctwo_moved 600 (hL b) (0 - distV (2 * pk b [29, 31] 2 + 1)) = _ ∧ ref10_Add 600 (hL b) (0 - distV (2 * pk b [29, 31] 2 + 1)) = _ := moved_is _ _ _ (by omega)
    obtain ⟨m3, n3⟩ : etctwo_moved 600 (hM b) (distV (2 * pk b [29, 31] 2 + 1)) = _ ∧ ref10_Add 600 (hM b) (distV (2 * pk b [29, 31] 2 + 1)) = _ := moved_is _ _ _ (by omega)
    obtain ⟨m4, n4⟩ : etctwo_moved 600 (hM b) (0 - distV (2 * pk b [29, 31] 2 + 1)) = _ ∧ ref10_Add 600 (hM b) (0 - distV (2 * pk b [29, 31] 2 + 1)) = _ := moved_is _ _ _ (by omega)
    simp only [h, decide_true, cond_true, Distance_is, d2, neg_w db, m1, m2, m3, m4, n1, n2, n3, n4, Option.bind_some]
    unfold fourH
    rw [hd]
    exact ⟨by
      rw [show plainV (hv b 1 4) (pk b [5, 6, 7, 11] 4) (pk b [12, 14, 15, 16] 4) = hL b from rfl, show plainV (hv b 17 4) (hv b 21 4) (hv b 25 4) = hM b from rfl, f]
      rfl, rfl⟩
  · have hd : hD b = distV (2 * pk b [29, 31] 2) := by
      unfold hD
      rw [if_neg h]
    unfold fourH at f
    rw [hd] at f
    have d2 := dR (2 * pk b [29, 31] 2) (by omega)
    obtain ⟨m1, n1⟩ : etctwo_moved 600 (hL b) (distV (2 * pk b [29, 31] 2)) = _ ∧ ref10_Add 600 (hL b) (distV (2 * pk b [29, 31] 2)) = _ := moved_is _ _ _ (by omega)
    obtain ⟨m2, n2⟩ : etctwo_moved 600 (hL b) (0 - distV (2 * pk b [29, 31] 2)) = _ ∧ ref10_Add 600 (hL b) (0 - distV (2 * pk b [29, 31] 2)) = _ := moved_is _ _ _ (by omega)
    obtain ⟨m3, n3⟩ : etctwo_moved 600 (hM b) (distV (2 * pk b [29, 31] 2)) = _ ∧ ref10_Add 600 (hM b) (distV (2 * pk b [29, 31] 2)) = _ := moved_is _ _ _ (by omega)
    obtain ⟨m4, n4⟩ : etctwo_moved 600 (hM b) (0 - distV (2 * pk b [29, 31] 2)) = _ ∧ ref10_Add 600 (hM b) (0 - distV (2 * pk b [29, 31] 2)) = _ := moved_is _ _ _ (by omega)
    simp only [h, decide_false, cond_false, Distance_is, d2, neg_w db', m1, m2, m3, m4, n1, n2, n3, n4, Option.bind_some]
    unfold fourH
    rw [hd]
    exact ⟨by
      rw [show plainV (hv b 1 4) (pk b [5, 6, 7, 11] 4) (pk b [12, 14, 15, 16] 4) = hL b from rfl, show plainV (hv b 17 4) (hv b 21 4) (hv b 25 4) = hM b from rfl, f]
      rfl, rfl⟩
end Go.AE.Gn
set_option linter.unusedVariables false
set_option linter.unusedSimpArgs false
namespace Go.AE.Gn
open Go Go.AE
def bb (b : List Int) (p : Bool) : List Int := if p then hset b 30 1 1 else b
def solidV (b : List Int) (p : Bool) : Bool := !p || (hv b 30 1 == 1)
def xD (b : List Int) (p : Bool) : Bool := eDiff (bb b p)
def xF (b : List Int) (p : Bool) : Bool := eFlip (bb b p)
def xA (b : List Int) (p : Bool) : List Int := eAs (eDiff (bb b p)) (bb b p)
def xB (b : List Int) (p : Bool) : List Int := eBs (eDiff (bb b p)) (bb b p)
def xT (b : List Int) (p : Bool) : List Int := [hv (bb b p) 24 3, hv (bb b p) 27 3]
def xW (b : List Int) (p : Bool) : List Int := eWs (bb b p)
def kindV (b : List Int) (p : Bool) : Int := if far10 (xD b p) (xA b p) (xB b p) = 3 then 0 else 1 + far10 (xD b p) (xA b p) (xB b p)
theorem bb_ok {b : List Int} (hb : Bytes b) (hl : b.length = 8) (p : Bool) : Bytes (bb b p) ∧ (bb b p).length = 8 := by
  unfold bb
  cases p
  · exact ⟨hb, hl⟩
  · exact ⟨hset_bytes hb 30 1 1, by rw [if_pos rfl, hset_len, hl]⟩
theorem far10_bound (d : Bool) (A B : List Int) : 0 ≤ far10 d A B ∧ far10 d A B ≤ 3 := by
  unfold far10
  cases d
  · simp
  · simp only [if_true]
    split
    · omega
    · split
      · omega
      · split <;> omega
theorem read_is {b : List Int} (hb : Bytes b) (hl : b.length = 8) (p : Bool) : etctwo_read 600 b p = some (b, (xD b p, (xF b p, (xA b p, (xB b p, (xT b p, (xW b p, (solidV b p, ())))))))) := by
  have hP := Parts10_is (F := 600) (by omega) (bb_ok hb hl p).1 (bb_ok hb hl p).2
  unfold etctwo_read
  cases p
  · have hP' : etcone_Parts 600 b = some (eP b, (0, ())) := hP
    simp only [Bool.not_false, cond_true, cond_false, hP', Option.bind_some]
    rfl
  · have hP' : etcone_Parts 600 (hset b 30 1 1) = some (eP (hset b 30 1 1), (0, ())) := hP
    have g : etctwo_block_get 600 b false false [0, 0, 0] [0, 0, 0] [0, 0] etctwo_LayT520 false [(30 : Int)] = some (pk b [30] 1, ()) := get_is hb hl false false [0, 0, 0] [0, 0, 0] [0, 0] etctwo_LayT520 false (posn_of (L := [30]) (by decide))
    have hs : bits_SetHigh 600 b (30 : Int) (1 : Int) (1 : Int) = some (hset b 30 1 1, (0, ())) := SetHigh_ok (a := 30) (n := 1) (by omega) hb (by omega) (by omega) (by omega) (by omega)
    have hk : pk b [30] 1 = hv b 30 1 := by
      simp only [pk, List.getD_cons_zero]
      omega
    simp only [Bool.not_true, cond_true, cond_false, g, hs, hP', Option.bind_some, hk]
    rfl
theorem xFair (b : List Int) (p : Bool) : Fair10 (xA b p) (xB b p) := eFair _ _
theorem xW_bound (b : List Int) (p : Bool) : ∀ i, 0 ≤ (xW b p).getD i 0 ∧ (xW b p).getD i 0 ≤ 3 := eWs_bound _
theorem kind_is (b : List Int) (p : Bool) (a0 : List Int) (a7 : Bool) : etctwo_block_kind 600 a0 (xD b p) (xF b p) (xA b p) (xB b p) (xT b p) (xW b p) a7 = some (kindV b p, ()) := by
  unfold etctwo_block_kind kindV
  rw [Bases10_is (by omega) _ _ (xFair b p)]
  have hf := far10_bound (xD b p) (xA b p) (xB b p)
  simp only [Option.bind_some]
  by_cases h : far10 (xD b p) (xA b p) (xB b p) = 3
  · rw [if_pos h, beqT h]
    rfl
  · rw [if_neg h, beqF h, w64 (by omega) (by omega)]
    rfl
def halfF (s f : Bool) (W bs : List Int) (q : Nat → Int) (j : Nat) : Int := if s = false ∧ W.getD (j / 4) 0 = 0 then bs.getD (half10 f (j / 4 : Nat) * 4 + j % 4) 0 else q j
def upTo (i : Nat) (g q : Nat → Int) (j : Nat) : Int := if j / 4 < i then g j else q j
theorem upTo_row {i : Nat} {g q h : Nat → Int} (hh : ∀ c, c < 4 → h c = g (i * 4 + c)) : (tab 64 fun j => if j / 4 = i then h (j % 4) else upTo i g q j) = tab 64 (upTo (i + 1) g q) := tab_congr fun j hj => by
  unfold upTo
  by_cases h3 : j / 4 = i
  · rw [if_pos h3, if_pos (by omega), hh _ (Nat.mod_lt _ (by decide)), ← h3]
    congr 1
    omega
  · rw [if_neg h3]
    by_cases h4 : j / 4 < i
    · rw [if_pos h4, if_pos (by omega)]
    · rw [if_neg h4, if_neg (by omega)]
theorem upTo_keep {i : Nat} {g q : Nat → Int} (hh : ∀ j, j / 4 = i → q j = g j) : tab 64 (upTo i g q) = tab 64 (upTo (i + 1) g q) := tab_congr fun j hj => by
  unfold upTo
  by_cases h4 : j / 4 < i
  · rw [if_pos h4, if_pos (by omega)]
  · rw [if_neg h4]
    by_cases h3 : j / 4 = i
    · rw [if_pos (by omega), hh j h3]
    · rw [if_neg (by omega)]
theorem upTo_zero (g q : Nat → Int) : tab 64 (upTo 0 g q) = tab 64 q := tab_congr fun j hj => if_neg (by omega)
theorem upTo_all (g q : Nat → Int) : tab 64 (upTo 16 g q) = tab 64 g := tab_congr fun j hj => if_pos (by omega)
theorem halves_l0_all (x0 : List Int) (x1 : Bool) (x3 : List Int) (x4 : List Int) (x5 : List Int) (x6 : List Int) (x8 : List Int) (s f : Bool) {W bs : List Int} (hbs : bs.length = 8) (q : Nat → Int) : ∀ (d i k : Nat), i + d = 16 → d < k →
    etctwo_block_halves_l0 600 k x0 x1 f x3 x4 x5 x6 s x8 (tab 64 (upTo i (halfF s f W bs q) q)) bs W ((i : Int)) = some (x8, (tab 64 (halfF s f W bs q), ())) := by
  intro d
  induction d with
  | zero =>
    intro i k h1 h2
    obtain ⟨k, rfl⟩ : ∃ k', k = k' + 1 := ⟨k - 1, by omega⟩
    obtain rfl : i = 16 := by omega
    unfold etctwo_block_halves_l0 etctwo_block_halves_l0S
    have : ¬ (((16 : Nat) : Int) < 16) := by omega
    simp only [this, decide_false, cond_false, upTo_all]
  | succ d ih =>
    intro i k h1 h2
    obtain ⟨k, rfl⟩ : ∃ k', k = k' + 1 := ⟨k - 1, by omega⟩
    have hi : i < 16 := by omega
    have i1 : (i : Int) < 16 := by omega
    have fin := ih (i + 1) k (by omega) (by omega)
    unfold etctwo_block_halves_l0 etctwo_block_halves_l0S
    cases s
    · by_cases hw : W.getD i 0 = 0
      · have hh := half10_lt f i
        have j2 : ((half10 f (i : Nat) : Nat) : Int) < 2 := by omega
        simp only [i1, decide_true, cond_true, Int.natCast_nonneg, Bool.and_self, Int.toNat_natCast, Bool.not_false, beqT hw, (Half10_is 600 f i).1, Option.bind_some, j2, tab_row_of hbs (show half10 f (i : Nat) * 4 + 4 ≤ 8 by omega), tab_row (show i * 4 + 4 ≤ 64 by omega)]
        rw [nextI (by omega), show (tab 64 fun j => if j / 4 = i then bs.getD (half10 f (i : Int) * 4 + j % 4) 0 else upTo i (halfF false f W bs q) q j) = tab 64 (upTo (i + 1) (halfF false f W bs q) q) from upTo_row (h := fun c => bs.getD (half10 f (i : Int) * 4 + c) 0) (fun c hc => by
          unfold halfF
          rw [(mul4 i c hc).1, (mul4 i c hc).2, if_pos ⟨rfl, hw⟩])]
        exact fin
      · simp only [i1, decide_true, cond_true, Int.natCast_nonneg, Bool.and_self, Int.toNat_natCast, Bool.not_false, beqF hw, cond_false]
        rw [nextI (by omega), upTo_keep (i := i) (fun j hj => by
          unfold halfF
          rw [hj, if_neg (fun h => hw h.2)])]
        exact fin
    · simp only [i1, decide_true, cond_true, Int.natCast_nonneg, Bool.and_self, Int.toNat_natCast, Bool.not_true, cond_false]
      rw [nextI (by omega), upTo_keep (i := i) (fun j hj => by
        unfold halfF
        rw [if_neg (fun h => by cases h.1)])]
      exact fin
theorem paint10_len (d f : Bool) (A B T W : List Int) : (paint10 d f A B T W).length = 64 := flatMap_len (m := 4) _ (fun _ _ => rfl)
def paintF (b : List Int) (p : Bool) (j : Nat) : Int := (paint10 (xD b p) (xF b p) (xA b p) (xB b p) (xT b p) (xW b p)).getD j 0
def basesV (b : List Int) (p : Bool) : List Int := bases10 (xD b p) (xA b p) (xB b p)
theorem paint_tab (b : List Int) (p : Bool) : paint10 (xD b p) (xF b p) (xA b p) (xB b p) (xT b p) (xW b p) = tab 64 (paintF b p) := tab_all (paint10_len _ _ _ _ _ _)
def halvesF (b : List Int) (p : Bool) : Nat → Int := halfF (solidV b p) (xF b p) (xW b p) (basesV b p) (paintF b p)
theorem halves_is (b : List Int) (p : Bool) (a0 : List Int) : etctwo_block_halves 600 a0 (xD b p) (xF b p) (xA b p) (xB b p) (xT b p) (xW b p) (solidV b p) = some (tab 64 (halvesF b p), ()) := by
  unfold etctwo_block_halves
  rw [Paint10_is (by omega) _ _ (xFair b p) (xW_bound b p), Bases10_is (by omega) _ _ (xFair b p), paint_tab]
  have h := halves_l0_all a0 (xD b p) (xA b p) (xB b p) (xT b p) (xW b p) etctwo_DecodeT711 (solidV b p) (xF b p) (W := xW b p) (bs := basesV b p) (bases10_len _ _ _) (paintF b p) 16 0 600 (by omega) (by omega)
  rw [upTo_zero, show ((0 : Nat) : Int) = 0 from rfl] at h
  simp only [Option.bind_some]
  rw [show bases10 (xD b p) (xA b p) (xB b p) = basesV b p from rfl, h]
  rfl
def zF (s : Bool) (kind : Int) (W : List Int) (g : Nat → Int) (j : Nat) : Int := if s = false ∧ kind ≠ 3 ∧ W.getD (j / 4) 0 = 2 then 0 else g j
theorem zero_row : [(0 : Int), 0, 0, 0] = tab 4 fun _ => 0 := rfl
theorem dec_l0_all (x0 : List Int) (x1 : List Int) (x2 : Bool) (x3 : Bool) (x4 : List Int) (x5 : List Int) (x6 : List Int) (x7 : List Int) (s : Bool) (kind : Int) (W : List Int) (g : Nat → Int) : ∀ (d i k : Nat), i + d = 16 → d < k →
    etctwo_Decode_l0 600 k x0 x1 x2 x3 x4 x5 x6 x7 s kind (tab 64 (upTo i (zF s kind W g) g)) W ((i : Int)) = some (x0, (tab 64 (zF s kind W g), ())) := by
  intro d
  induction d with
  | zero =>
    intro i k h1 h2
    obtain ⟨k, rfl⟩ : ∃ k', k = k' + 1 := ⟨k - 1, by omega⟩
    obtain rfl : i = 16 := by omega
    unfold etctwo_Decode_l0 etctwo_Decode_l0S
    have : ¬ (((16 : Nat) : Int) < 16) := by omega
    simp only [this, decide_false, cond_false, upTo_all]
  | succ d ih =>
    intro i k h1 h2
    obtain ⟨k, rfl⟩ : ∃ k', k = k' + 1 := ⟨k - 1, by omega⟩
    have i1 : (i : Int) < 16 := by omega
    have fin := ih (i + 1) k (by omega) (by omega)
    have keep : (¬ (s = false ∧ kind ≠ 3 ∧ W.getD i 0 = 2)) → tab 64 (upTo i (zF s kind W g) g) = tab 64 (upTo (i + 1) (zF s kind W g) g) := fun h => upTo_keep fun j hj => by
      unfold zF
      rw [hj, if_neg h]
    unfold etctwo_Decode_l0 etctwo_Decode_l0S
    cases s
    · by_cases hk : kind = 3
      · simp only [i1, decide_true, cond_true, Int.natCast_nonneg, Bool.and_self, Int.toNat_natCast, Bool.not_false, hk, show ((3 : Int) != 3) = false from rfl, cond_false]
        rw [hk] at keep fin
        rw [nextI (by omega), keep (fun h => h.2.1 rfl)]
        exact fin
      · by_cases hw : W.getD i 0 = 2
        · simp only [i1, decide_true, cond_true, Int.natCast_nonneg, Bool.and_self, Int.toNat_natCast, Bool.not_false, bneT hk, beqT hw, zero_row, tab_row (show i * 4 + 4 ≤ 64 by omega)]
          rw [nextI (by omega), show (tab 64 fun j => if j / 4 = i then 0 else upTo i (zF false kind W g) g j) = tab 64 (upTo (i + 1) (zF false kind W g) g) from upTo_row (h := fun _ => 0) (fun c hc => by
            unfold zF
            rw [(mul4 i c hc).1, if_pos ⟨rfl, hk, hw⟩])]
          exact fin
        · simp only [i1, decide_true, cond_true, Int.natCast_nonneg, Bool.and_self, Int.toNat_natCast, Bool.not_false, bneT hk, beqF hw, cond_false]
          rw [nextI (by omega), keep (fun h => hw h.2.2)]
          exact fin
    · simp only [i1, decide_true, cond_true, Int.natCast_nonneg, Bool.and_self, Int.toNat_natCast, Bool.not_true, cond_false]
      rw [nextI (by omega), keep (fun h => by cases h.1)]
      exact fin
def baseF (b : List Int) (p : Bool) : Nat → Int := if kindV b p = 0 then halvesF b p else if kindV b p = 1 then fourF (fourT b) (xW b p) else if kindV b p = 2 then fourF (fourH b) (xW b p) else planarF b
def dec11 (b : List Int) (p : Bool) : Nat → Int := zF (solidV b p) (kindV b p) (xW b p) (baseF b p)
theorem kind4 (b : List Int) (p : Bool) : kindV b p = 0 ∨ kindV b p = 1 ∨ kindV b p = 2 ∨ kindV b p = 3 := by
  have := far10_bound (xD b p) (xA b p) (xB b p)
  unfold kindV
  split <;> omega
theorem Decode11_is {b : List Int} (hb : Bytes b) (hl : b.length = 8) (p : Bool) : etctwo_Decode 600 b p = some (tab 64 (dec11 b p), (0, ())) := by
  have hn : (((b.length : Nat) : Int) != 8) = false := by rw [hl]; rfl
  unfold etctwo_Decode
  rw [hn, read_is hb hl p]
  simp only [cond_false, Option.bind_some, kind_is]
  have l0 := fun g => dec_l0_all etctwo_DecodeT711 b (xD b p) (xF b p) (xA b p) (xB b p) (xT b p) (xW b p) (solidV b p) (kindV b p) (xW b p) g 16 0 600 (by omega) (by omega)
  simp only [upTo_zero, show ((0 : Nat) : Int) = 0 from rfl] at l0
  have hT := (ofT_is hb hl (xD b p) (xF b p) (xA b p) (xB b p) (xT b p) (xW_bound b p) (solidV b p)).1
  have hH := (ofH_is hb hl (xD b p) (xF b p) (xA b p) (xB b p) (xT b p) (xW_bound b p) (solidV b p)).1
  have hp := (planar_is hb hl (xD b p) (xF b p) (xA b p) (xB b p) (xT b p) (xW b p) (solidV b p)).1
  have hd := halves_is b p b
  unfold dec11 baseF
  rcases kind4 b p with h | h | h | h
  · rw [h] at l0 ⊢
    simp only [beq_self_eq_true, cond_true, hd, Option.bind_some, l0, if_true]
  · rw [h] at l0 ⊢
    simp only [show ((1 : Int) == 0) = false from rfl, beq_self_eq_true, cond_true, cond_false, hT, Option.bind_some, l0, show ¬ (1 : Int) = 0 by decide, if_false, if_true]
  · rw [h] at l0 ⊢
    simp only [show ((2 : Int) == 0) = false from rfl, show ((2 : Int) == 1) = false from rfl, beq_self_eq_true, cond_true, cond_false, hH, Option.bind_some, l0, show ¬ (2 : Int) = 0 by decide, show ¬ (2 : Int) = 1 by decide, if_false, if_true]
  · rw [h] at l0 ⊢
    simp only [show ((3 : Int) == 0) = false from rfl, show ((3 : Int) == 1) = false from rfl, show ((3 : Int) == 2) = false from rfl, beq_self_eq_true, cond_true, cond_false, hp, Option.bind_some, l0, show ¬ (3 : Int) = 0 by decide, show ¬ (3 : Int) = 1 by decide, show ¬ (3 : Int) = 2 by decide, if_false]
end Go.AE.Gn
set_option linter.unusedSimpArgs false
set_option linter.unusedVariables false
namespace Go.AE.Gn
open Go Go.AE
def eacAt (i : Nat) : Nat := 16 + 3 * (4 * (i % 4) + i / 4)
theorem eac_at_closed : ((List.range 16).all fun i => eac_at 0 i == some ((eacAt i : Int), ())) = true := by kernel_rfl
theorem eac_at_is (F : Nat) {i : Nat} (h : i < 16) : eac_at F i = some ((eacAt i : Int), ()) := by
  have := List.all_eq_true.1 eac_at_closed i (by simpa using h)
  have e : eac_at F i = eac_at 0 i := rfl
  rw [e]
  simpa using this
theorem eacAt_lt {i : Nat} (h : i < 16) : 16 ≤ eacAt i ∧ eacAt i + 3 ≤ 64 := by unfold eacAt; omega
theorem Parts_c1_is {F : Nat} (hF : 66 ≤ F) {b : List Int} (hb : Bytes b) (hl : b.length = 8) {a n : Nat} (hn : n ≤ 16) (h : a + n ≤ 64) : eac_Parts_c1 F a n b = some (hv b a n, ()) := by
  unfold eac_Parts_c1
  have h1 := hv_bound b a n
  have h2 : (2 : Int) ^ n ≤ 2 ^ 16 := ipow_le hn
  rw [High_hv hF hb (by omega) (by omega) (by omega)]
  simp only [Option.bind_some]
  rw [w64 (by omega) (by omega)]
def eacW (b : List Int) : List Int := (List.range 16).map fun i => hv b (eacAt i) 3
theorem Parts_is {F : Nat} (hF : 66 ≤ F) {b : List Int} (hb : Bytes b) (hl : b.length = 8) :
    eac_Parts F b = some (hv b 0 8, (hv b 8 4, (hv b 12 4, (eacW b, (0, ()))))) := by
  have loop : ∀ T : List Int, eac_Parts_l0 F F T eac_PartsT1 b 0 = some (T, (eacW b, (b, ()))) := by
    intro T
    refine fill_loop 16 (fun i => hv b (eacAt i) 3) (fun k w i => eac_Parts_l0 F k T w b i) (fun w => some (T, (w, (b, ())))) ?_ ?_ _ rfl F (by omega)
    · intro k i w hi hw
      show eac_Parts_l0S F (eac_Parts_l0 F k) T w b i = _
      unfold eac_Parts_l0S
      have := eacAt_lt hi
      have e := Parts_c1_is hF hb hl (a := eacAt i) (n := 3) (by decide) (by omega)
      simp only [Int.cast_ofNat_Int] at e
      have h1 : (i : Int) < 16 := by omega
      simp only [h1, decide_true, cond_true, eac_at_is F hi, Option.bind_some, e, Int.natCast_nonneg, Bool.and_self, nextI (show i < 1000000000000 by omega), Int.toNat_natCast]
    · intro k w hw
      show eac_Parts_l0S F (eac_Parts_l0 F k) T w b 16 = _
      unfold eac_Parts_l0S
      simp
  unfold eac_Parts
  have e1 := Parts_c1_is hF hb hl (a := 0) (n := 8) (by decide) (by decide)
  have e2 := Parts_c1_is hF hb hl (a := 8) (n := 4) (by decide) (by decide)
  have e3 := Parts_c1_is hF hb hl (a := 12) (n := 4) (by decide) (by decide)
  simp only [Int.cast_ofNat_Int, Int.natCast_zero] at e1 e2 e3
  simp only [hl, loop, Option.bind_some, e1, e2, e3]
  simp
theorem eacW_len (b : List Int) : (eacW b).length = 16 := by simp [eacW]
theorem eacW_get (b : List Int) {i : Nat} (h : i < 16) : (eacW b).getD i 0 = hv b (eacAt i) 3 := getD_range_map _ h
def eacN (i : Nat) : Nat := match i with | 0 => 8 | 1 => 4 | 2 => 4 | _ + 3 => 3
def eacV (base times table : Int) (w : List Int) (i : Nat) : Int := match i with | 0 => base | 1 => times | 2 => table | i + 3 => w.getD i 0
def EacFit (base times table : Int) (w : List Int) : Prop := (0 ≤ base ∧ base ≤ 255) ∧ (0 ≤ times ∧ times ≤ 15) ∧ (0 ≤ table ∧ table ≤ 15) ∧ w.length = 16 ∧ ∀ i, i < 16 → 0 ≤ w.getD i 0 ∧ w.getD i 0 ≤ 7
theorem EacFit.V {base times table : Int} {w : List Int} (h : EacFit base times table w) : ∀ i, i < 19 → 0 ≤ eacV base times table w i ∧ eacV base times table w i < 2 ^ eacN i := by
  obtain ⟨h1, h2, h3, h4, h5⟩ := h
  intro i hi
  match i with
  | 0 => simp only [eacV, eacN]; omega
  | 1 => simp only [eacV, eacN]; omega
  | 2 => simp only [eacV, eacN]; omega
  | i + 3 =>
    have := h5 i (by omega)
    simp only [eacV, eacN]
    omega
theorem eacW_fit {b : List Int} : EacFit (hv b 0 8) (hv b 8 4) (hv b 12 4) (eacW b) := by
  have h1 := hv_bound b 0 8
  have h2 := hv_bound b 8 4
  have h3 := hv_bound b 12 4
  refine ⟨by omega, by omega, by omega, eacW_len b, fun i hi => ?_⟩
  rw [eacW_get b hi]
  have := hv_bound b (eacAt i) 3
  omega
theorem Table_closed : ((List.range 16).all fun n => match eac_Table 0 n with | some (l, ()) => l.length == 8 && l.all fun x => decide (-15 ≤ x) && decide (x ≤ 15) | none => false) = true := by kernel_rfl
theorem Table_is (F : Nat) {n : Int} (h : 0 ≤ n ∧ n ≤ 15) : ∃ l, eac_Table F n = some (l, ()) ∧ l.length = 8 ∧ ∀ i, -15 ≤ l.getD i 0 ∧ l.getD i 0 ≤ 15 := by
  obtain ⟨m, rfl⟩ := Int.eq_ofNat_of_zero_le h.1
  have := List.all_eq_true.1 Table_closed m (by simp; omega)
  have e : eac_Table F m = eac_Table 0 m := rfl
  rw [e]
  revert this
  cases eac_Table 0 m with
  | none => intro h; simp at h
  | some l =>
    obtain ⟨l, ⟨⟩⟩ := l
    intro h
    simp only [Bool.and_eq_true, beq_iff_eq, List.all_eq_true, decide_eq_true_eq] at h
    refine ⟨l, rfl, h.1, fun i => ?_⟩
    rw [List.getD_eq_getElem?_getD]
    by_cases hi : i < l.length
    · rw [List.getElem?_eq_getElem hi]
      exact h.2 _ (List.getElem_mem hi)
    · rw [List.getElem?_eq_none (by omega)]
      simp
theorem mulB {n t c d : Int} (hn : -c ≤ n ∧ n ≤ c) (ht : 0 ≤ t ∧ t ≤ d) (hc : 0 ≤ c) : -(c * d) ≤ n * t ∧ n * t ≤ c * d := by
  have h1 : n * t ≤ c * t := Int.mul_le_mul_of_nonneg_right hn.2 ht.1
  have h2 : c * t ≤ c * d := Int.mul_le_mul_of_nonneg_left ht.2 hc
  have h3 : -c * t ≤ n * t := Int.mul_le_mul_of_nonneg_right hn.1 ht.1
  have h4 : -c * t = -(c * t) := Int.neg_mul c t
  omega
def eacVal (base times number : Int) (wide : Bool) : Int :=
  if wide then (if times = 0 then max 0 (min (8 * base + 4 + number) 2047) else max 0 (min (8 * (base + number * times) + 4) 2047)) else max 0 (min (base + number * times) 255)
theorem Value_is (F : Nat) {base times number : Int} (hb : 0 ≤ base ∧ base ≤ 255) (ht : 0 ≤ times ∧ times ≤ 15) (hn : -15 ≤ number ∧ number ≤ 15) (wide : Bool) : eac_Value F base times number wide = some (eacVal base times number wide, ()) := by
  have hm := mulB (c := 15) hn ht (by decide)
  unfold eac_Value level_Clamp eacVal
  rw [w64 (x := number * times) (by omega) (by omega), w64 (x := base + number * times) (by omega) (by omega), w64 (x := 8 * base) (by omega) (by omega), w64 (x := 8 * base + 4) (by omega) (by omega),
    w64 (x := 8 * base + 4 + number) (by omega) (by omega), w64 (x := 8 * (base + number * times)) (by omega) (by omega), w64 (x := 8 * (base + number * times) + 4) (by omega) (by omega)]
  cases wide
  · rfl
  · by_cases h0 : times = 0
    · simp [h0]
    · simp [h0, beqF h0]
def eacD (base times : Int) (tbl w : List Int) (wide : Bool) : List Int := (List.range 16).map fun i => eacVal base times (tbl.getD (w.getD i 0).toNat 0) wide
theorem Decode12_is {F : Nat} (hF : 66 ≤ F) {b : List Int} (hb : Bytes b) (hl : b.length = 8) (wide : Bool) {tbl : List Int} (ht : eac_Table F (hv b 12 4) = some (tbl, ())) (hb15 : ∀ i, -15 ≤ tbl.getD i 0 ∧ tbl.getD i 0 ≤ 15) :
    eac_Decode F b wide = some (eacD (hv b 0 8) (hv b 8 4) tbl (eacW b) wide, (0, ())) := by
  obtain ⟨f1, f2, f3, f4, f5⟩ := eacW_fit (b := b)
  have loop : ∀ T : List Int, eac_Decode_l0 F F wide T (hv b 0 8) (hv b 8 4) (eacW b) tbl (eacW b) 0 = some (T, (eacD (hv b 0 8) (hv b 8 4) tbl (eacW b) wide, ())) := by
    intro T
    refine fill_loop 16 (fun i => eacVal (hv b 0 8) (hv b 8 4) (tbl.getD ((eacW b).getD i 0).toNat 0) wide) (fun k w i => eac_Decode_l0 F k wide T (hv b 0 8) (hv b 8 4) w tbl (eacW b) i) (fun w => some (T, (w, ()))) ?_ ?_ _ f4 F (by omega)
    · intro k i w hi hw
      show eac_Decode_l0S F (eac_Decode_l0 F k) wide T (hv b 0 8) (hv b 8 4) w tbl (eacW b) i = _
      unfold eac_Decode_l0S
      have h1 : (i : Int) < 16 := by omega
      have h2 := f5 i hi
      have h3 : (eacW b).getD i 0 < 8 := by omega
      simp only [h1, decide_true, cond_true, Int.natCast_nonneg, Bool.and_self, Int.toNat_natCast, h2.1, h3, Value_is F f1 f2 (hb15 _), Option.bind_some, nextI (show i < 1000000000000 by omega)]
    · intro k w hw
      show eac_Decode_l0S F (eac_Decode_l0 F k) wide T (hv b 0 8) (hv b 8 4) w tbl (eacW b) 16 = _
      unfold eac_Decode_l0S
      simp
  unfold eac_Decode
  rw [Parts_is hF hb hl]
  simp only [Option.bind_some, and_self, if_true, bne_self_eq_false, cond_false, ht, loop]
theorem eacVal_bound (base times number : Int) (wide : Bool) : 0 ≤ eacVal base times number wide ∧ eacVal base times number wide ≤ (if wide then 2047 else 255) := by
  unfold eacVal
  cases wide <;> simp <;> (try split) <;> omega
end Go.AE.Gn
set_option linter.unusedSimpArgs false
set_option linter.unusedVariables false
namespace Go.AE.Gn
open Go Go.AE
theorem awake13 : law13_awake 600 = some (true, ()) := by kernel_rfl
end Go.AE.Gn
set_option linter.unusedSimpArgs false
set_option linter.unusedVariables false
namespace Go.AE.Gn
open Go Go.AE
def Rg (m : Int) (l : List Int) : Prop := ∀ j, 0 ≤ l.getD j 0 ∧ l.getD j 0 ≤ m
theorem rg_out {l : List Int} {j : Nat} (h : l.length ≤ j) : l.getD j 0 = 0 := by
  rw [List.getD_eq_getElem?_getD, List.getElem?_eq_none h]
  rfl
theorem rg_tab {m : Int} {N : Nat} {g : Nat → Int} (hm : 0 ≤ m) (h : ∀ j, j < N → 0 ≤ g j ∧ g j ≤ m) : Rg m (tab N g) := by
  intro j
  by_cases hj : j < N
  · rw [tab_get hj]
    exact h j hj
  · rw [rg_out (by rw [tab_len]; omega)]
    omega
theorem rg_mono {m m' : Int} {l : List Int} (h : Rg m l) (hm : m ≤ m') : Rg m' l := fun j => ⟨(h j).1, Int.le_trans (h j).2 hm⟩
theorem rg_append {m : Int} {a b : List Int} (ha : Rg m a) (hb : Rg m b) : Rg m (a ++ b) := by
  intro j
  simp only [List.getD_eq_getElem?_getD, List.getElem?_append]
  split
  · have := ha j
    simpa [List.getD_eq_getElem?_getD] using this
  · have := hb (j - a.length)
    simpa [List.getD_eq_getElem?_getD] using this
theorem rg_cons {m x : Int} {a : List Int} (hx : 0 ≤ x ∧ x ≤ m) (ha : Rg m a) : Rg m (x :: a) := by
  intro j
  cases j with
  | zero => simpa using hx
  | succ j => simpa using ha j
theorem rg_nil {m : Int} (hm : 0 ≤ m) : Rg m [] := fun j => by simp [hm]
theorem rg_colV (n : Int) : Rg 255 (colV n) := by
  have h := colV_tex n
  intro j
  by_cases hj : j < 4
  · exact h.2 j hj
  · rw [rg_out (by rw [h.1]; omega)]
    decide
theorem rg_betw {a b : List Int} (ha : Rg 255 a) (hb : Rg 255 b) {k o : Int} (hk : 0 ≤ k ∧ k ≤ o) (ho : 1 ≤ o) : Rg 255 (betw a b k o) := by
  have h : ∀ c, 0 ≤ mixV (a.getD c 0) (b.getD c 0) k o 0 ∧ mixV (a.getD c 0) (b.getD c 0) k o 0 ≤ 255 := fun c => by
    have h1 := mix_between (a := a.getD c 0) (b := b.getD c 0) hk ho
    have h2 := ha c
    have h3 := hb c
    omega
  exact rg_cons (h 0) (rg_cons (h 1) (rg_cons (h 2) (rg_cons (by decide) (rg_nil (by decide)))))
theorem rg_palV (a b : Int) (four : Bool) : Rg 255 (palV a b four) := by
  unfold palV
  split
  · exact rg_append (rg_colV a) (rg_append (rg_colV b) (rg_append (rg_betw (rg_colV a) (rg_colV b) (by decide) (by decide)) (rg_betw (rg_colV a) (rg_colV b) (by decide) (by decide))))
  · exact rg_append (rg_colV a) (rg_append (rg_colV b) (rg_append (rg_betw (rg_colV a) (rg_colV b) (by decide) (by decide)) (rg_cons (by decide) (rg_cons (by decide) (rg_cons (by decide) (rg_cons (by decide) (rg_nil (by decide))))))))
theorem tileV_len {p w : List Int} (hp : p.length = 16) (hw : ∀ i, i < 16 → okW 2 w i) : (tileV p w).length = 64 :=
  flatMap_len (m := 4) _ fun i hi => partLen hp (by have := hw i hi; unfold okW at this; omega)
theorem tileV_get {p w : List Int} (hp : p.length = 16) (hw : ∀ i, i < 16 → okW 2 w i) {j : Nat} (hj : j < 64) : (tileV p w).getD j 0 = p.getD ((w.getD (j / 4) 0).toNat * 4 + j % 4) 0 := by
  have h := tile_part hp hw (i := j / 4) (by omega)
  have e : (((tileV p w).drop (j / 4 * 4)).take 4).getD (j % 4) 0 = (tileV p w).getD j 0 := by
    simp only [List.getD_eq_getElem?_getD, List.getElem?_take, List.getElem?_drop]
    rw [if_pos (by omega)]
    congr 2
    omega
  rw [← e, h]
  unfold palE
  simp only [List.getD_eq_getElem?_getD, List.getElem?_take, List.getElem?_drop]
  rw [if_pos (by omega)]
theorem rg_tileV {p w : List Int} (hp : p.length = 16) (hw : ∀ i, i < 16 → okW 2 w i) (h : Rg 255 p) : Rg 255 (tileV p w) := by
  intro j
  by_cases hj : j < 64
  · rw [tileV_get hp hw hj]
    exact h _
  · rw [rg_out (by rw [tileV_len hp hw]; omega)]
    decide
theorem rg_ramp7 {a b : Int} (ha : 0 ≤ a ∧ a ≤ 255) (hb : 0 ≤ b ∧ b ≤ 255) : Rg 255 (ramp7 a b) := by
  have h : ∀ k o : Int, (0 ≤ k ∧ k ≤ o) → 1 ≤ o → 0 ≤ mixV a b k o 0 ∧ mixV a b k o 0 ≤ 255 := fun k o hk ho => by
    have := mix_between (a := a) (b := b) hk ho
    omega
  have z : Rg 255 [] := rg_nil (by decide)
  by_cases hab : a ≤ b
  · rw [ramp7_lo hab]
    exact rg_cons ha (rg_cons hb (rg_cons (h 1 5 (by decide) (by decide)) (rg_cons (h 2 5 (by decide) (by decide)) (rg_cons (h 3 5 (by decide) (by decide)) (rg_cons (h 4 5 (by decide) (by decide)) (rg_cons (by decide) (rg_cons (by decide) z)))))))
  · rw [ramp7_hi hab]
    exact rg_cons ha (rg_cons hb (rg_cons (h 1 7 (by decide) (by decide)) (rg_cons (h 2 7 (by decide) (by decide)) (rg_cons (h 3 7 (by decide) (by decide)) (rg_cons (h 4 7 (by decide) (by decide)) (rg_cons (h 5 7 (by decide) (by decide)) (rg_cons (h 6 7 (by decide) (by decide)) z)))))))
theorem rg_fourD {b : List Int} (hb : Bytes b) : Rg 255 (fourD b) := rg_tab (N := 16) (by decide) fun j _ => rg_ramp7 (hb.getD 0) (hb.getD 1) _
theorem rg_fours (b : List Int) : Rg 255 (fours b) := rg_tab (N := 16) (by decide) fun j _ => wideV_bound (by decide) _
theorem rg_decAll (b : List Int) : Rg 255 (decAll b) := by
  have hl : (decAll b).length = 64 := by
    unfold decAll
    split
    · rw [zero64, tab_len]
    · rw [tab_len]
  intro j
  by_cases hj : j < 64
  · exact decAll_get b hj
  · rw [rg_out (by omega)]
    decide
theorem rg_tex10 (d f : Bool) (A B T W : List Int) (i : Nat) : Rg 255 (tex10 (bases10 d A B) T W f i) :=
  rg_cons (clampV_bound _) (rg_cons (clampV_bound _) (rg_cons (clampV_bound _) (rg_cons (bases10_bound d A B _) (rg_nil (by decide)))))
theorem row_get {l : List Int} {j : Nat} : ((l.drop (j / 4 * 4)).take 4).getD (j % 4) 0 = l.getD j 0 := by
  simp only [List.getD_eq_getElem?_getD, List.getElem?_take, List.getElem?_drop]
  rw [if_pos (by omega)]
  congr 2
  omega
theorem rg_paint10 (d f : Bool) (A B T W : List Int) : Rg 255 (paint10 d f A B T W) := by
  intro j
  by_cases hj : j < 64
  · rw [← row_get, show ((paint10 d f A B T W).drop (j / 4 * 4)).take 4 = tex10 (bases10 d A B) T W f (j / 4) from flatMap_part _ (fun _ _ => rfl) (by omega)]
    exact rg_tex10 d f A B T W _ _
  · rw [rg_out (by rw [paint10_len]; omega)]
    decide
theorem rg_plainV (x y z : Int) : Rg 255 (plainV x y z) := rg_cons (wideV_bound (by decide) _) (rg_cons (wideV_bound (by decide) _) (rg_cons (wideV_bound (by decide) _) (rg_cons (by decide) (rg_nil (by decide)))))
theorem rg_addV {l : List Int} (h : Rg 255 l) (n : Int) : Rg 255 (addV l n) := rg_cons (clampV_bound _) (rg_cons (clampV_bound _) (rg_cons (clampV_bound _) (rg_cons (h 3) (rg_nil (by decide)))))
theorem rg_fourT (b : List Int) : Rg 255 (fourT b) := rg_append (rg_plainV _ _ _) (rg_append (rg_addV (rg_plainV _ _ _) _) (rg_append (rg_plainV _ _ _) (rg_addV (rg_plainV _ _ _) _)))
theorem rg_fourH (b : List Int) : Rg 255 (fourH b) := rg_append (rg_addV (rg_plainV _ _ _) _) (rg_append (rg_addV (rg_plainV _ _ _) _) (rg_append (rg_addV (rg_plainV _ _ _) _) (rg_addV (rg_plainV _ _ _) _)))
theorem dec11_bound (b : List Int) (p : Bool) (j : Nat) : 0 ≤ dec11 b p j ∧ dec11 b p j ≤ 255 := by
  unfold dec11 zF
  split
  · decide
  · unfold baseF
    split
    · unfold halvesF halfF
      split
      · exact bases10_bound _ _ _ _
      · exact rg_paint10 _ _ _ _ _ _ j
    · split
      · exact rg_fourT b _
      · split
        · exact rg_fourH b _
        · unfold planarF planeF
          split
          · decide
          · exact clampV_bound _
def eacL (b : List Int) (wide : Bool) : List Int := match eac_Table 600 (hv b 12 4) with
  | some (l, _) => eacD (hv b 0 8) (hv b 8 4) l (eacW b) wide
  | none => []
theorem eacL_is {b : List Int} (hb : Bytes b) (hl : b.length = 8) (wide : Bool) : eac_Decode 600 b wide = some (eacL b wide, (0, ())) := by
  obtain ⟨tbl, h1, _, h3⟩ := Table_is 600 (n := hv b 12 4) (by have := hv_bound b 12 4; omega)
  rw [Decode12_is (by decide) hb hl wide h1 h3]
  unfold eacL
  rw [h1]
theorem rg_eacL (b : List Int) (wide : Bool) : Rg (if wide then 2047 else 255) (eacL b wide) := by
  have hm : (0 : Int) ≤ if wide then 2047 else 255 := by cases wide <;> decide
  cases hT : eac_Table 600 (hv b 12 4) with
  | none => simp only [eacL, hT]; exact rg_nil hm
  | some p => simp only [eacL, hT]; exact rg_tab (N := 16) hm fun j _ => eacVal_bound _ _ _ _
def wT (c : Nat) (l t : List Int) : List Int := tab 64 fun j => if j % 4 = c then l.getD (j / 4) 0 else t.getD j 0
theorem wT_len (c : Nat) (l t : List Int) : (wT c l t).length = 64 := tab_len _ _
theorem rg_wT {m : Int} (hm : 0 ≤ m) {c : Nat} {l t : List Int} (hl : Rg m l) (ht : Rg m t) : Rg m (wT c l t) := rg_tab hm fun j _ => by
  split
  · exact hl _
  · exact ht _
def upW (c i : Nat) (l t : List Int) (j : Nat) : Int := if j % 4 = c ∧ j / 4 < i then l.getD (j / 4) 0 else t.getD j 0
theorem upW_set {c i : Nat} (hc : c < 4) (hi : i < 16) (l t : List Int) : (tab 64 (upW c i l t)).set (i * 4 + c) (l.getD i 0) = tab 64 (upW c (i + 1) l t) := by
  rw [tab_set]
  refine tab_congr fun j hj => ?_
  unfold upW
  by_cases h : j = i * 4 + c
  · subst h
    rw [if_pos rfl, if_pos (by omega), show (i * 4 + c) / 4 = i by omega]
  · rw [if_neg h]
    by_cases h2 : j % 4 = c ∧ j / 4 < i
    · rw [if_pos h2, if_pos (by omega)]
    · rw [if_neg h2, if_neg (by omega)]
theorem with_l0_all {c : Nat} (hc : c < 4) (l t T : List Int) : ∀ (d i k : Nat), i + d = 16 → d < k → format_with_l0 600 k c (tab 64 (upW c i l t)) T l (i : Int) = some (tab 64 (upW c 16 l t), (T, ())) := by
  intro d
  induction d with
  | zero =>
    intro i k h1 h2
    obtain ⟨k, rfl⟩ : ∃ k', k = k' + 1 := ⟨k - 1, by omega⟩
    obtain rfl : i = 16 := by omega
    rfl
  | succ d ih =>
    intro i k h1 h2
    obtain ⟨k, rfl⟩ : ∃ k', k = k' + 1 := ⟨k - 1, by omega⟩
    show format_with_l0S 600 (format_with_l0 600 k) c (tab 64 (upW c i l t)) T l i = _
    unfold format_with_l0S
    have h3 : (i : Int) < 16 := by omega
    have h4 : (c : Int) < 4 := by omega
    simp only [h3, h4, decide_true, cond_true, Int.natCast_nonneg, Bool.and_self, Int.toNat_natCast, upW_set hc (show i < 16 by omega), nextI (show i < 1000000000000 by omega)]
    exact ih (i + 1) k (by omega) (by omega)
theorem with_is {c : Nat} (hc : c < 4) {l t : List Int} (ht : t.length = 64) (e : Int) : format_with 600 t c l e = some (wT c l t, ()) := by
  have h := with_l0_all hc l t format_DecodeT19 16 0 600 (by omega) (by omega)
  have e0 : tab 64 (upW c 0 l t) = t := by
    conv => rhs; rw [tab_all ht]
    exact tab_congr fun j hj => by unfold upW; rw [if_neg (by omega)]
  have e1 : tab 64 (upW c 16 l t) = wT c l t := tab_congr fun j hj => by
    unfold upW
    by_cases h2 : j % 4 = c
    · rw [if_pos h2, if_pos (by omega)]
    · rw [if_neg h2, if_neg (by omega)]
  rw [e0, e1] at h
  unfold format_with
  rw [show ((0 : Nat) : Int) = 0 from rfl] at h
  rw [h]
  rfl
def blankT (a : Int) : List Int := tab 64 fun j => if j % 4 = 3 then a else 0
theorem blankT_len (a : Int) : (blankT a).length = 64 := tab_len _ _
theorem blank_is : format_blank 600 false = some (blankT 255, ()) ∧ format_blank 600 true = some (blankT 2047, ()) := by constructor <;> kernel_rfl
theorem rg_blankT {m a : Int} (h : 0 ≤ a ∧ a ≤ m) : Rg m (blankT a) := rg_tab (by omega) fun j _ => by
  split <;> omega
end Go.AE.Gn

/- Layer 6: bcone. The laws are true of what the functions come to. -/
import Derived.Test.YtpipmhfkdeaebaaB06defs
import Derived.Test.YtpipmhfkdeaebaaPure07
set_option linter.unusedSimpArgs false
set_option linter.unusedVariables false
namespace Go.AE.Gn
open Go Go.AE

/-! ### colours -/

def colV (n : Int) : List Int := [wideV 5 (n / 2048), wideV 6 (n / 32), wideV 5 n, 255]

theorem ishr64 {x : Int} {k : Nat} (hk : k ≤ 63) : ishr .i64 x (k : Int) = x / 2 ^ k := by
  unfold ishr
  have : min ((k : Int).toNat) (IntKind.bits .i64) = k := by
    show min ((k : Int).toNat) 64 = k
    simp
    omega
  rw [this, Int.fdiv_eq_ediv_of_nonneg _ (Int.le_of_lt (powPos k))]

theorem Colour_is {F : Nat} (hF : 10 ≤ F) (n : Int) : bcone_Colour F n = some (colV n, ()) := by
  have w5 := fun x => Wide_is (F := F) hF (b := 5) (by decide) x
  have w6 := fun x => Wide_is (F := F) hF (b := 6) (by decide) x
  have s11 := ishr64 (x := n) (k := 11) (by decide)
  have s5 := ishr64 (x := n) (k := 5) (by decide)
  simp only [Int.cast_ofNat_Int] at w5 w6 s11 s5
  unfold bcone_Colour colV
  simp only [s11, s5, w5, w6, Option.bind_some]
  rfl

theorem wideV_mod {b : Nat} {x y : Int} (h : x % 2 ^ b = y % 2 ^ b) : wideV b x = wideV b y := by unfold wideV; rw [h]

theorem rColour_is {F : Nat} (hF : 10 ≤ F) {n : Int} (hn : -9000000000000000000 ≤ n ∧ n ≤ 9223372036854775807 ∨ IntKind.i64.has n) : ref06_Colour F n = some (colV n, ()) := by
  have key : ∀ m : Int, 0 ≤ m → m < 65536 → m = n % 65536 → ((ref03_Wide F (IntKind.wrap .i64 (Int.tdiv m 2048)) 5).bind fun r1 => (ref03_Wide F (IntKind.wrap .i64 (Int.tdiv m 32)) 6).bind fun r2 => (ref03_Wide F m 5).bind fun r3 => some ([r1.1, r2.1, r3.1, (255 : Int)], ())) = some (colV n, ()) := by
    intro m h0 h1 hm
    have w5 := fun x hx => rWide_is (F := F) hF (b := 5) (by decide) (x := x) hx
    have w6 := fun x hx => rWide_is (F := F) hF (b := 6) (by decide) (x := x) hx
    simp only [Int.cast_ofNat_Int] at w5 w6
    rw [tdiv_nonneg h0, tdiv_nonneg h0, w64 (x := m / 2048) (by omega) (by omega), w64 (x := m / 32) (by omega) (by omega), w5 (m / 2048) (by omega), w6 (m / 32) (by omega), w5 m (by omega)]
    simp only [Option.bind_some]
    unfold colV
    rw [wideV_mod (b := 5) (x := m / 2048) (y := n / 2048) (by omega), wideV_mod (b := 6) (x := m / 32) (y := n / 32) (by omega), wideV_mod (b := 5) (x := m) (y := n) (by omega)]
  have ht : n.tmod 65536 = if n.tmod 65536 < 0 then n % 65536 - 65536 else n % 65536 := by
    have h3 := Int.tmod_add_mul_tdiv n 65536
    have h4 : -65536 < n.tmod 65536 := by
      have := Int.tmod_lt_of_pos (-n) (show (0 : Int) < 65536 by decide)
      rw [Int.neg_tmod] at this
      omega
    have h5 := Int.tmod_lt_of_pos n (show (0 : Int) < 65536 by decide)
    split <;> omega
  unfold ref06_Colour
  by_cases hneg : n.tmod 65536 < 0
  · rw [if_pos hneg] at ht
    have e : IntKind.wrap .i64 (n.tmod 65536 + 65536) = n % 65536 := by
      rw [w64 (by omega) (by omega)]
      omega
    simp only [hneg, decide_true, cond_true, e]
    exact key (n % 65536) (by omega) (by omega) rfl
  · rw [if_neg hneg] at ht
    simp only [hneg, decide_false, cond_false]
    rw [ht]
    exact key (n % 65536) (by omega) (by omega) rfl

theorem colV_get {n : Int} {c : Nat} (hc : c < 4) : 0 ≤ (colV n).getD c 0 ∧ (colV n).getD c 0 ≤ 255 := by
  have h1 := wideV_bound (b := 5) (by decide) (n / 2048)
  have h2 := wideV_bound (b := 6) (by decide) (n / 32)
  have h3 := wideV_bound (b := 5) (by decide) n
  unfold colV
  match c with
  | 0 => simpa using h1
  | 1 => simpa using h2
  | 2 => simpa using h3
  | 3 => simp
  | c + 4 => omega

/-! ### the nearest level -/

def sqd (b : Nat) (n : Int) (v : Nat) : Int := (wideV b v - n) * (wideV b v - n)
/-- The nearest one of the first so many levels. -/
def nearS (b : Nat) (n : Int) : Nat → Nat
  | 0 => 0
  | 1 => 0
  | i + 2 => if sqd b n (i + 1) < sqd b n (nearS b n (i + 1)) then i + 1 else nearS b n (i + 1)

theorem nearS_le (b : Nat) (n : Int) : ∀ i, nearS b n i ≤ i - 1
  | 0 => by simp [nearS]
  | 1 => by simp [nearS]
  | i + 2 => by
    have := nearS_le b n (i + 1)
    unfold nearS
    split <;> omega

theorem sqd_bound {b : Nat} (hb : 1 ≤ b ∧ b ≤ 8) {n : Int} (hn : -1048576 ≤ n ∧ n ≤ 1048576) (v : Nat) : IntKind.wrap .i64 (wideV b v - n) = wideV b v - n ∧ IntKind.wrap .i64 ((wideV b v - n) * (wideV b v - n)) = sqd b n v := by
  have hw := wideV_bound hb (v : Int)
  refine ⟨w64 (by omega) (by omega), ?_⟩
  have hm : -(1048831 * 1048831) ≤ (wideV b v - n) * (wideV b v - n) ∧ (wideV b v - n) * (wideV b v - n) ≤ 1048831 * 1048831 := by
    rcases Int.lt_or_le (wideV b v - n) 0 with h | h
    · have := mulB' (n := -(wideV b v - n)) (t := -(wideV b v - n)) (c := 1048831) (d := 1048831) (by omega) (by omega) (by decide)
      rw [Int.neg_mul_neg] at this
      exact this
    · exact mulB' (by omega) (by omega) (by decide)
  exact w64 (by omega) (by omega)

theorem least_l0_is {F : Nat} (hF : 10 ≤ F) {b : Nat} (hb : 1 ≤ b ∧ b ≤ 8) {n : Int} (hn : -1048576 ≤ n ∧ n ≤ 1048576) {m : Nat} (hm : m ≤ 256) : ∀ (k i : Nat), 1 ≤ i → i ≤ m → m - i < k →
    level_least_Near_c1_l0 F k b n (nearS b n i) (sqd b n (nearS b n i)) m i = some ((nearS b n m : Int), ())
  | 0, i, _, _, h => by omega
  | k + 1, i, h1, hi, hk => by
    unfold level_least_Near_c1_l0 level_least_Near_c1_l0S
    by_cases h : i < m
    · have c1 : (i : Int) < m := by omega
      have ih := least_l0_is hF hb hn hm k (i + 1) (by omega) (by omega) (by omega)
      obtain ⟨q1, q2⟩ := sqd_bound hb hn i
      have e : level_Near_c1 F i b n = some (sqd b n i, ()) := by
        unfold level_Near_c1 level_square
        rw [Wide_is hF hb]
        simp only [Option.bind_some, q1, q2]
      have c2 : ((i : Int) == 0) = false := beqF (by omega)
      obtain ⟨i', rfl⟩ : ∃ i', i = i' + 1 := ⟨i - 1, by omega⟩
      simp only [c1, decide_true, cond_true, e, Option.bind_some, c2, cond_false, nextI (show i' + 1 < 1000000000000 by omega)]
      rw [nearS] at ih
      by_cases hc : sqd b n (i' + 1) < sqd b n (nearS b n (i' + 1))
      · rw [if_pos hc] at ih
        simp only [hc, decide_true, cond_true]
        exact ih
      · rw [if_neg hc] at ih
        simp only [hc, decide_false, cond_false]
        exact ih
    · have : i = m := by omega
      subst this
      simp

theorem Near_is {F : Nat} (hF : 300 ≤ F) {b : Nat} (hb : 1 ≤ b ∧ b ≤ 8) {n : Int} (hn : -1048576 ≤ n ∧ n ≤ 1048576) : level_Near F n b = some ((nearS b n (2 ^ b) : Int), ()) := by
  have hp : (2 : Nat) ^ b ≤ 2 ^ 8 := Nat.pow_le_pow_right (by decide) hb.2
  have hp1 : (2 : Nat) ^ 1 ≤ 2 ^ b := Nat.pow_le_pow_right (by decide) hb.1
  have ep : ((2 ^ b : Nat) : Int) = (2 : Int) ^ b := Int.natCast_pow 2 b
  have h0 : level_odd F b = some (false, ()) := by
    unfold level_odd
    have c1 : ¬ (b : Int) < 1 := by omega
    have c2 : ¬ (8 : Int) < (b : Int) := by omega
    simp only [c1, c2, decide_false, cond_false]
  obtain ⟨k, rfl⟩ : ∃ k, F = k + 1 := ⟨F - 1, by omega⟩
  have l1 := least_l0_is (F := k + 1) (by omega) hb hn (m := 2 ^ b) (by omega) k 1 (by decide) (by omega) (by omega)
  have first : level_least_Near_c1_l0 (k + 1) (k + 1) b n 0 0 ((2 ^ b : Nat) : Int) 0 = level_least_Near_c1_l0 (k + 1) k b n (nearS b n 1) (sqd b n (nearS b n 1)) ((2 ^ b : Nat) : Int) ((1 : Nat) : Int) := by
    show level_least_Near_c1_l0S (k + 1) (level_least_Near_c1_l0 (k + 1) k) b n 0 0 ((2 ^ b : Nat) : Int) 0 = _
    unfold level_least_Near_c1_l0S
    have c1 : (0 : Int) < ((2 ^ b : Nat) : Int) := by omega
    obtain ⟨q1, q2⟩ := sqd_bound hb hn 0
    simp only [Int.natCast_zero] at q1 q2
    have e : level_Near_c1 (k + 1) 0 b n = some (sqd b n 0, ()) := by
      unfold level_Near_c1 level_square
      rw [Wide_is (by omega) hb]
      simp only [Option.bind_some, q1, q2]
    simp only [c1, decide_true, cond_true, e, Option.bind_some, beq_self_eq_true]
    rfl
  unfold level_Near level_least_Near_c1
  have c3 : (0 : Int) ≤ (b : Int) := by omega
  simp only [h0, Option.bind_some, cond_false, c3, decide_true, cond_true]
  rw [ishl_one (by omega), ← ep, first, l1]
  rfl

theorem rNear_l0_is {F : Nat} (hF : 10 ≤ F) {b : Nat} (hb : 1 ≤ b ∧ b ≤ 8) {n : Int} (hn : -1048576 ≤ n ∧ n ≤ 1048576) : ∀ (k i : Nat), 1 ≤ i → i ≤ 2 ^ b → 2 ^ b - i < k →
    ref03_Near_l0 F k n b (nearS b n i) i = some ((nearS b n (2 ^ b) : Int), ())
  | 0, i, _, _, h => by omega
  | k + 1, i, h1, hi, hk => by
    have hp : (2 : Nat) ^ b ≤ 2 ^ 8 := Nat.pow_le_pow_right (by decide) hb.2
    have ep : ((2 ^ b : Nat) : Int) = (2 : Int) ^ b := Int.natCast_pow 2 b
    unfold ref03_Near_l0 ref03_Near_l0S
    rw [rpower_is hF hb.2]
    simp only [Option.bind_some]
    rw [← ep]
    by_cases h : i < 2 ^ b
    · have c1 : (i : Int) < ((2 ^ b : Nat) : Int) := by omega
      have ih := rNear_l0_is hF hb hn k (i + 1) (by omega) (by omega) (by omega)
      have hle := nearS_le b n i
      obtain ⟨q1, q2⟩ := sqd_bound hb hn i
      obtain ⟨q3, q4⟩ := sqd_bound hb hn (nearS b n i)
      have e1 := rWide_is hF hb (x := (i : Int)) (by omega)
      have e2 := rWide_is hF hb (x := (nearS b n i : Int)) (by omega)
      unfold ref03_far
      simp only [c1, decide_true, cond_true, e1, e2, Option.bind_some, q1, q2, q3, q4, nextI (show i < 1000000000000 by omega)]
      obtain ⟨i', rfl⟩ : ∃ i', i = i' + 1 := ⟨i - 1, by omega⟩
      rw [nearS] at ih
      by_cases hc : sqd b n (i' + 1) < sqd b n (nearS b n (i' + 1))
      · rw [if_pos hc] at ih
        simp only [hc, decide_true, cond_true]
        exact ih
      · rw [if_neg hc] at ih
        simp only [hc, decide_false, cond_false]
        exact ih
    · have : i = 2 ^ b := by omega
      subst this
      simp

theorem rNear_is {F : Nat} (hF : 300 ≤ F) {b : Nat} (hb : 1 ≤ b ∧ b ≤ 8) {n : Int} (hn : -1048576 ≤ n ∧ n ≤ 1048576) : ref03_Near F n b = some ((nearS b n (2 ^ b) : Int), ()) := by
  have hp : (2 : Nat) ^ b ≤ 2 ^ 8 := Nat.pow_le_pow_right (by decide) hb.2
  have hp1 : (2 : Nat) ^ 1 ≤ 2 ^ b := Nat.pow_le_pow_right (by decide) hb.1
  have l := rNear_l0_is (F := F) (by omega) hb hn F 1 (by decide) (by omega) (by omega)
  have c1 : ¬ (b : Int) < 1 := by omega
  have c2 : ¬ (8 : Int) < (b : Int) := by omega
  unfold ref03_Near
  simp only [c1, c2, decide_false, cond_false]
  have e : ((nearS b n 1 : Nat) : Int) = 0 := rfl
  rw [e] at l
  simp only [Int.natCast_one] at l
  rw [l]
  rfl

theorem nearS_lt {b : Nat} (n : Int) : nearS b n (2 ^ b) < 2 ^ b := by
  have := nearS_le b n (2 ^ b)
  have := pow2_pos_nat b
  omega

/-! ### packing -/

theorem ior64 {a b k : Nat} (hb : b < 2 ^ k) (h : a * 2 ^ k + b < 9223372036854775808) : ior .i64 ((a * 2 ^ k : Nat) : Int) (b : Int) = ((a * 2 ^ k + b : Nat) : Int) := by
  have e1 : (BitVec.ofInt 64 ((a * 2 ^ k : Nat) : Int)).toNat = a * 2 ^ k := by
    rw [BitVec.ofInt_natCast, BitVec.toNat_ofNat, Nat.mod_eq_of_lt (by omega)]
  have e2 : (BitVec.ofInt 64 (b : Int)).toNat = b := by
    rw [BitVec.ofInt_natCast, BitVec.toNat_ofNat, Nat.mod_eq_of_lt (by omega)]
  have e3 : (BitVec.ofInt 64 ((a * 2 ^ k : Nat) : Int) ||| BitVec.ofInt 64 (b : Int)).toNat = a * 2 ^ k + b := by
    rw [BitVec.toNat_or, e1, e2, Nat.mul_comm, ← Nat.two_pow_add_eq_or_of_lt hb]
  show IntKind.wrap .i64 (((BitVec.ofInt 64 ((a * 2 ^ k : Nat) : Int) ||| BitVec.ofInt 64 (b : Int)).toNat : Nat) : Int) = _
  rw [e3]
  exact wrap64_nat h

theorem ishl64 {a k : Nat} (hk : k ≤ 62) (h : a * 2 ^ k < 9223372036854775808) : ishl .i64 (a : Int) (k : Int) = ((a * 2 ^ k : Nat) : Int) := by
  have ep : ((2 ^ k : Nat) : Int) = (2 : Int) ^ k := Int.natCast_pow 2 k
  unfold ishl
  have : min ((k : Int).toNat) (IntKind.bits .i64) = k := by
    show min ((k : Int).toNat) 64 = k
    simp
    omega
  rw [this, ← ep, ← Int.natCast_mul]
  exact wrap64_nat h

def packV (t : List Int) : Int := 2048 * (nearS 5 (t.getD 0 0) 32 : Int) + 32 * (nearS 6 (t.getD 1 0) 64 : Int) + (nearS 5 (t.getD 2 0) 32 : Int)

theorem Pack_is {F : Nat} (hF : 300 ≤ F) {t : List Int} (ht : ∀ c, c < 3 → -1048576 ≤ t.getD c 0 ∧ t.getD c 0 ≤ 1048576) : bcone_Pack F t = some (packV t, ()) ∧ ref06_Pack F t = some (packV t, ()) := by
  have n0 := Near_is hF (b := 5) (by decide) (ht 0 (by decide))
  have n1 := Near_is hF (b := 6) (by decide) (ht 1 (by decide))
  have n2 := Near_is hF (b := 5) (by decide) (ht 2 (by decide))
  have r0 := rNear_is hF (b := 5) (by decide) (ht 0 (by decide))
  have r1 := rNear_is hF (b := 6) (by decide) (ht 1 (by decide))
  have r2 := rNear_is hF (b := 5) (by decide) (ht 2 (by decide))
  have b0 := nearS_lt (b := 5) (t.getD 0 0)
  have b1 := nearS_lt (b := 6) (t.getD 1 0)
  have b2 := nearS_lt (b := 5) (t.getD 2 0)
  simp only [Int.cast_ofNat_Int, Nat.reducePow] at n0 n1 n2 r0 r1 r2 b0 b1 b2
  unfold bcone_Pack ref06_Pack packV
  simp only [n0, n1, n2, r0, r1, r2, Option.bind_some]
  generalize nearS 5 (t.getD 0 0) 32 = x at *
  generalize nearS 6 (t.getD 1 0) 64 = y at *
  generalize nearS 5 (t.getD 2 0) 32 = z at *
  constructor
  · have s1 := ishl64 (a := x) (k := 11) (by decide) (by omega)
    have s2 := ishl64 (a := y) (k := 5) (by decide) (by omega)
    have o1 := ior64 (a := x) (b := y * 2 ^ 5) (k := 11) (by omega) (by omega)
    have o2 := ior64 (a := x * 2 ^ 6 + y) (b := z) (k := 5) (by omega) (by omega)
    simp only [Int.cast_ofNat_Int] at s1 s2
    rw [s1, s2, o1, show x * 2 ^ 11 + y * 2 ^ 5 = (x * 2 ^ 6 + y) * 2 ^ 5 by omega, o2]
    congr 2
    omega
  · rw [w64 (x := 2048 * (x : Int)) (by omega) (by omega), w64 (x := 32 * (y : Int)) (by omega) (by omega), w64 (x := 2048 * (x : Int) + 32 * (y : Int)) (by omega) (by omega), w64 (by omega) (by omega)]

/-! ### palettes -/

def betw (a b : List Int) (k o : Int) : List Int := [mixV (a.getD 0 0) (b.getD 0 0) k o 0, mixV (a.getD 1 0) (b.getD 1 0) k o 0, mixV (a.getD 2 0) (b.getD 2 0) k o 0, 255]

def Tex (t : List Int) : Prop := t.length = 4 ∧ ∀ c, c < 4 → 0 ≤ t.getD c 0 ∧ t.getD c 0 ≤ 255
theorem colV_tex (n : Int) : Tex (colV n) := ⟨rfl, fun c hc => colV_get hc⟩

theorem between_is {F : Nat} (hF : 10 ≤ F) {a b : List Int} (ha : Tex a) (hb : Tex b) {k o : Int} (hk : 0 ≤ k) (hko : k ≤ o) (ho : 1 ≤ o ∧ o ≤ 8) : bcone_between F a b k o = some (betw a b k o, ()) ∧ ref06_mix F a b k o = some (betw a b k o, ()) := by
  obtain ⟨n, rfl⟩ : ∃ n, F = n + 4 := ⟨F - 4, by omega⟩
  have m : ∀ c, c < 4 → _ := fun c hc => Mix_is (n + 4) (a := a.getD c 0) (b := b.getD c 0) (k := k) (o := o) (add := 0) (by have := ha.2 c hc; omega) (by have := hb.2 c hc; omega) (by omega) (by omega) (by omega) (by decide)
  have m0 := m 0 (by decide)
  have m1 := m 1 (by decide)
  have m2 := m 2 (by decide)
  constructor
  · unfold bcone_between
    have e : bcone_between_l0 (n + 4) (n + 4) k o a b [0, 0, 0, 0] [0, 0, 0, 255] 0 = some ([0, 0, 0, 0], (betw a b k o, ())) := by
      have s : ∀ (j : Nat) (w : List Int) (c : Nat), c < 3 → w.length = 4 → bcone_between_l0 (n + 4) (j + 1) k o a b [0, 0, 0, 0] w c = bcone_between_l0 (n + 4) j k o a b [0, 0, 0, 0] (w.set c (mixV (a.getD c 0) (b.getD c 0) k o 0)) ((c + 1 : Nat) : Int) := by
        intro j w c hc hw
        show bcone_between_l0S (n + 4) (bcone_between_l0 (n + 4) j) k o a b [0, 0, 0, 0] w c = _
        unfold bcone_between_l0S
        have c1 : (c : Int) < 3 := by omega
        have c2 : (c : Int) < 4 := by omega
        simp only [c1, c2, decide_true, cond_true, Int.natCast_nonneg, Bool.and_self, Int.toNat_natCast, (m c (by omega)).1, Option.bind_some, nextI (show c < 1000000000000 by omega)]
      have s0 := s (n + 3) [0, 0, 0, 255] 0 (by decide) rfl
      have s1 := s (n + 2) ([0, 0, 0, 255].set 0 (mixV (a.getD 0 0) (b.getD 0 0) k o 0)) 1 (by decide) rfl
      have s2 := s (n + 1) (([0, 0, 0, 255].set 0 (mixV (a.getD 0 0) (b.getD 0 0) k o 0)).set 1 (mixV (a.getD 1 0) (b.getD 1 0) k o 0)) 2 (by decide) rfl
      simp only [Int.natCast_zero] at s0
      rw [s0, s1, s2]
      rfl
    rw [e]
    rfl
  · unfold ref06_mix
    have e : ref06_mix_l0 (n + 4) (n + 4) k o a b [0, 0, 0, 0] [0, 0, 0, 255] 0 = some ([0, 0, 0, 0], (betw a b k o, ())) := by
      have s : ∀ (j : Nat) (w : List Int) (c : Nat), c < 3 → w.length = 4 → ref06_mix_l0 (n + 4) (j + 1) k o a b [0, 0, 0, 0] w c = ref06_mix_l0 (n + 4) j k o a b [0, 0, 0, 0] (w.set c (mixV (a.getD c 0) (b.getD c 0) k o 0)) ((c + 1 : Nat) : Int) := by
        intro j w c hc hw
        show ref06_mix_l0S (n + 4) (ref06_mix_l0 (n + 4) j) k o a b [0, 0, 0, 0] w c = _
        unfold ref06_mix_l0S
        have c1 : (c : Int) < 3 := by omega
        have c2 : (c : Int) < 4 := by omega
        simp only [c1, c2, decide_true, cond_true, Int.natCast_nonneg, Bool.and_self, Int.toNat_natCast, (m c (by omega)).2.1, Option.bind_some, nextI (show c < 1000000000000 by omega)]
      have s0 := s (n + 3) [0, 0, 0, 255] 0 (by decide) rfl
      have s1 := s (n + 2) ([0, 0, 0, 255].set 0 (mixV (a.getD 0 0) (b.getD 0 0) k o 0)) 1 (by decide) rfl
      have s2 := s (n + 1) (([0, 0, 0, 255].set 0 (mixV (a.getD 0 0) (b.getD 0 0) k o 0)).set 1 (mixV (a.getD 1 0) (b.getD 1 0) k o 0)) 2 (by decide) rfl
      simp only [Int.natCast_zero] at s0
      rw [s0, s1, s2]
      rfl
    rw [e]
    rfl

def palV (a b : Int) (four : Bool) : List Int :=
  if four = true ∨ b < a then colV a ++ (colV b ++ (betw (colV a) (colV b) 1 3 ++ betw (colV a) (colV b) 2 3)) else colV a ++ (colV b ++ (betw (colV a) (colV b) 1 2 ++ [0, 0, 0, 0]))

theorem Palette_is {F : Nat} (hF : 10 ≤ F) {a b : Int} (ha : 0 ≤ a ∧ a ≤ 65535) (hb : 0 ≤ b ∧ b ≤ 65535) (four : Bool) : bcone_Palette F a b four = some (palV a b four, ()) ∧ ref06_Palette F a b four = some (palV a b four, ()) := by
  have m1 := between_is hF (colV_tex a) (colV_tex b) (k := 1) (o := 3) (by decide) (by decide) (by decide)
  have m2 := between_is hF (colV_tex a) (colV_tex b) (k := 2) (o := 3) (by decide) (by decide) (by decide)
  have m3 := between_is hF (colV_tex a) (colV_tex b) (k := 1) (o := 2) (by decide) (by decide) (by decide)
  have r1 := rColour_is hF (n := a) (.inl (by omega))
  have r2 := rColour_is hF (n := b) (.inl (by omega))
  unfold bcone_Palette ref06_Palette palV
  simp only [Colour_is hF, r1, r2, Option.bind_some, and_self, if_true]
  cases four
  · by_cases h : b < a
    · simp [h, m1, m2]
    · simp [h, m3]
  · simp [m1, m2]

/-! ### parts -/

def oneW (b : List Int) : List Int := (List.range 16).map fun i => lv b (32 + 2 * i) 2
theorem oneW_len (b : List Int) : (oneW b).length = 16 := by simp [oneW]
theorem oneW_get (b : List Int) {i : Nat} (h : i < 16) : (oneW b).getD i 0 = lv b (32 + 2 * i) 2 := getD_range_map _ h
theorem oneW_ok (b : List Int) : ∀ i, i < 16 → okW 2 (oneW b) i := by
  intro i hi
  unfold okW
  rw [oneW_get b hi]
  exact lv_bound _ _ _

theorem Parts6_is {F : Nat} (hF : 66 ≤ F) {b : List Int} (hb : Bytes b) (hl : b.length = 8) : bcone_Parts F b = some (lv b 0 16, (lv b 16 16, (oneW b, (0, ())))) := by
  have h := Lows_lv hF hb (by omega) (a := 32) (n := 2) (m := 16) (by decide) (by decide) (by omega)
  have h0 := Lows_lv hF hb (by omega) (a := 0) (n := 16) (m := 2) (by decide) (by decide) (by omega)
  have e : ((List.range 16).map fun i => lv b (32 + i * 2) 2) = oneW b := by
    unfold oneW
    refine List.map_congr_left fun i _ => ?_
    rw [Nat.mul_comm]
  have e0 : ((List.range 2).map fun i => lv b (0 + i * 16) 16) = [lv b 0 16, lv b 16 16] := rfl
  rw [e] at h
  rw [e0] at h0
  simp only [Int.cast_ofNat_Int, Int.natCast_zero] at h h0
  unfold bcone_Parts
  simp only [hl, h, h0, Option.bind_some, oneW_len]
  have e2 : (List.take 16 (oneW b)) = oneW b := List.take_of_length_le (by rw [oneW_len]; omega)
  simp [bcone_PartsT205, e2]

theorem rParts6_is {F : Nat} (hF : 66 ≤ F) {b : List Int} (hb : Bytes b) (hl : b.length = 8) : ref06_Parts F b = some (lv b 0 16, (lv b 16 16, (oneW b, (0, ())))) := by
  have loop : ∀ T : List Int, ref06_Parts_l0 F F b T bcone_PartsT205 0 = some (b, (T, (oneW b, ()))) := by
    intro T
    refine fill_loop 16 (fun i => lv b (32 + 2 * i) 2) (fun k w i => ref06_Parts_l0 F k b T w i) (fun w => some (b, (T, (w, ())))) ?_ ?_ _ rfl F (by omega)
    · intro k i w hi hw
      show ref06_Parts_l0S F (ref06_Parts_l0 F k) b T w i = _
      unfold ref06_Parts_l0S
      have h1 : (i : Int) < 16 := by omega
      have e := Field_is hF hb (by omega) (a := 32 + 2 * i) (n := 2) (by decide) (by omega)
      have e1 : IntKind.wrap .i64 (32 + IntKind.wrap .i64 (2 * (i : Int))) = ((32 + 2 * i : Nat) : Int) := by
        rw [w64 (x := 2 * (i : Int)) (by omega) (by omega), w64 (by omega) (by omega)]
        omega
      simp only [Int.cast_ofNat_Int] at e
      simp only [h1, decide_true, cond_true, e1, e, Option.bind_some, Int.natCast_nonneg, Bool.and_self, nextI (show i < 1000000000000 by omega), Int.toNat_natCast]
    · intro k w hw
      show ref06_Parts_l0S F (ref06_Parts_l0 F k) b T w 16 = _
      unfold ref06_Parts_l0S
      simp
  have f1 := Field_is hF hb (by omega) (a := 0) (n := 16) (by decide) (by omega)
  have f2 := Field_is hF hb (by omega) (a := 16) (n := 16) (by decide) (by omega)
  simp only [Int.cast_ofNat_Int, Int.natCast_zero] at f1 f2
  unfold ref06_Parts
  simp [hl, loop, f1, f2]

theorem bad6 {b : List Int} (hl : ¬ b.length = 8) : bcone_Parts 600 b = some (0, (0, (bcone_PartsT205, (1, ())))) ∧ ref06_Parts 600 b = some (0, (0, (bcone_PartsT205, (1, ())))) := by
  have e : ((b.length : Int) != 8) = true := bneT (by omega)
  exact ⟨by unfold bcone_Parts; simp [e], by unfold ref06_Parts; simp [e]⟩

theorem lv16 (b : List Int) (a : Nat) : 0 ≤ lv b a 16 ∧ lv b a 16 ≤ 65535 := by
  have := lv_bound b a 16
  omega

/-! ### Decode -/

def tileV (p w : List Int) : List Int := (List.range 16).flatMap fun i => (p.drop ((w.getD i 0).toNat * 4)).take 4

theorem palV_len (a b : Int) (four : Bool) : (palV a b four).length = 16 := by
  unfold palV
  split <;> rfl

theorem partLen {p : List Int} (hp : p.length = 16) {n : Int} (hn : 0 ≤ n ∧ n < 4) : ((p.drop (n.toNat * 4)).take 4).length = 4 := by
  simp
  omega

theorem Decode6_is {F : Nat} (hF : 66 ≤ F) {b : List Int} (hb : Bytes b) (hl : b.length = 8) (four : Bool) : bcone_Decode F b four = some (tileV (palV (lv b 0 16) (lv b 16 16) four) (oneW b), (0, ())) := by
  have hpl := palV_len (lv b 0 16) (lv b 16 16) four
  have pal := (Palette_is (F := F) (by omega) (lv16 b 0) (lv16 b 16) four).1
  generalize palV (lv b 0 16) (lv b 16 16) four = p at *
  have loop : ∀ T : List Int, bcone_Decode_l0 F F T bcone_DecodeT203 p (oneW b) 0 = some (T, (tileV p (oneW b), ())) := by
    intro T
    refine fill_parts 16 4 (fun i => (p.drop (((oneW b).getD i 0).toNat * 4)).take 4) (fun i hi => partLen hpl (by have := oneW_ok b i hi; unfold okW at this; omega)) (fun k w i => bcone_Decode_l0 F k T w p (oneW b) i) (fun w => some (T, (w, ()))) ?_ ?_ _ rfl F (by omega)
    · intro k i w hi hw
      show bcone_Decode_l0S F (bcone_Decode_l0 F k) T w p (oneW b) i = _
      unfold bcone_Decode_l0S
      have h1 : (i : Int) < 16 := by omega
      have h2 := oneW_ok b i hi
      unfold okW at h2
      have h3 : (oneW b).getD i 0 < 4 := by omega
      simp only [h1, decide_true, cond_true, Int.natCast_nonneg, Bool.and_self, Int.toNat_natCast, h2.1, h3, nextI (show i < 1000000000000 by omega)]
    · intro k w hw
      show bcone_Decode_l0S F (bcone_Decode_l0 F k) T w p (oneW b) 16 = _
      unfold bcone_Decode_l0S
      simp
  unfold bcone_Decode
  rw [Parts6_is hF hb hl]
  simp only [Option.bind_some, and_self, if_true, bne_self_eq_false, cond_false, pal, loop]

theorem rDecode6_is {F : Nat} (hF : 66 ≤ F) {b : List Int} (hb : Bytes b) (hl : b.length = 8) (four : Bool) : ref06_Decode F b four = some (tileV (palV (lv b 0 16) (lv b 16 16) four) (oneW b), (0, ())) := by
  have hpl := palV_len (lv b 0 16) (lv b 16 16) four
  have pal := (Palette_is (F := F) (by omega) (lv16 b 0) (lv16 b 16) four).2
  generalize palV (lv b 0 16) (lv b 16 16) four = p at *
  have loop : ∀ T : List Int, ref06_Decode_l0 F F T bcone_DecodeT203 (oneW b) p 0 = some (T, (tileV p (oneW b), ())) := by
    intro T
    refine fill_parts 16 4 (fun i => (p.drop (((oneW b).getD i 0).toNat * 4)).take 4) (fun i hi => partLen hpl (by have := oneW_ok b i hi; unfold okW at this; omega)) (fun k w i => ref06_Decode_l0 F k T w (oneW b) p i) (fun w => some (T, (w, ()))) ?_ ?_ _ rfl F (by omega)
    · intro k i w hi hw
      show ref06_Decode_l0S F (ref06_Decode_l0 F k) T w (oneW b) p i = _
      unfold ref06_Decode_l0S
      have h1 : (i : Int) < 16 := by omega
      have h2 := oneW_ok b i hi
      unfold okW at h2
      have h3 : (oneW b).getD i 0 < 4 := by omega
      simp only [h1, decide_true, cond_true, Int.natCast_nonneg, Bool.and_self, Int.toNat_natCast, h2.1, h3, nextI (show i < 1000000000000 by omega)]
    · intro k w hw
      show ref06_Decode_l0S F (ref06_Decode_l0 F k) T w (oneW b) p 16 = _
      unfold ref06_Decode_l0S
      simp
  unfold ref06_Decode
  rw [rParts6_is hF hb hl]
  simp only [Option.bind_some, and_self, if_true, bne_self_eq_false, cond_false, pal, loop]

/-! ### Join -/

theorem join6_step {F : Nat} {low : Int} {w : List Int} (hl : 0 ≤ low ∧ low < 2 ^ 32) {i : Nat} (hi : i < 16) (hw : ∀ j, j < i → okW 2 w j) (hi64 : ∀ j, -9223372036854775808 ≤ w.getD j 0 ∧ w.getD j 0 ≤ 9223372036854775807) (k : Nat) :
    bcone_Join_l0 F (k + 1) (packN low 32 2 w i) w i = if 0 ≤ w.getD i 0 ∧ w.getD i 0 < 2 ^ 2 then bcone_Join_l0 F k (packN low 32 2 w (i + 1)) w ((i + 1 : Nat) : Int) else some (.inl ()) := by
  show bcone_Join_l0S F (bcone_Join_l0 F k) (packN low 32 2 w i) w i = _
  unfold bcone_Join_l0S
  have h1 : (i : Int) < 16 := by omega
  simp only [h1, decide_true, cond_true, Int.natCast_nonneg, Bool.and_self, Int.toNat_natCast]
  by_cases hc : 0 ≤ w.getD i 0 ∧ w.getD i 0 < 2 ^ 2
  · rw [if_pos hc]
    have c1 : ¬ w.getD i 0 < 0 := by omega
    have c2 : ¬ 3 < w.getD i 0 := by omega
    have e1 : IntKind.wrap .i64 (32 + IntKind.wrap .i64 (2 * (i : Int))) = ((32 + 2 * i : Nat) : Int) := by
      rw [w64 (x := 2 * (i : Int)) (by omega) (by omega), w64 (by omega) (by omega)]
      omega
    have e2 : IntKind.wrap .u64 (w.getD i 0) = w.getD i 0 := wu64 hc.1 (by omega)
    have hb := packN_bound hl (m := i) hw i (Nat.le_refl _)
    have e3 := ior_field (x := packN low 32 2 w i) (v := w.getD i 0) (m := 32 + 2 * i) (k := 2) hb hc (by omega) (by omega)
    simp only [c1, c2, decide_false, cond_false, e1, e2, e3, Int.natCast_nonneg, decide_true, cond_true, nextI (show i < 1000000000000 by omega)]
    rfl
  · rw [if_neg hc]
    by_cases c1 : w.getD i 0 < 0
    · simp only [c1, decide_true, cond_true]
    · have c2 : 3 < w.getD i 0 := by omega
      simp only [c1, c2, decide_false, cond_false, decide_true, cond_true]

theorem join6_loop {F : Nat} {low : Int} {w : List Int} (hl : 0 ≤ low ∧ low < 2 ^ 32) (hi64 : ∀ j, -9223372036854775808 ≤ w.getD j 0 ∧ w.getD j 0 ≤ 9223372036854775807) (hF : 16 < F) :
    ((∀ j, j < 16 → okW 2 w j) → bcone_Join_l0 F F low w 0 = some (.inr (packN low 32 2 w 16, ()))) ∧ ((∃ m, m < 16 ∧ (∀ j, j < m → okW 2 w j) ∧ ¬ okW 2 w m) → bcone_Join_l0 F F low w 0 = some (.inl ())) := by
  constructor
  · intro hw
    have key : ∀ (m i k : Nat), 16 - i = m → i ≤ 16 → m < k → bcone_Join_l0 F k (packN low 32 2 w i) w i = some (.inr (packN low 32 2 w 16, ())) := by
      intro m
      induction m with
      | zero =>
        intro i k h1 h2 h3
        obtain ⟨k, rfl⟩ : ∃ k', k = k' + 1 := ⟨k - 1, by omega⟩
        have : i = 16 := by omega
        subst this
        show bcone_Join_l0S F (bcone_Join_l0 F k) (packN low 32 2 w 16) w 16 = _
        unfold bcone_Join_l0S
        simp
      | succ m ih =>
        intro i k h1 h2 h3
        obtain ⟨k, rfl⟩ : ∃ k', k = k' + 1 := ⟨k - 1, by omega⟩
        rw [join6_step hl (by omega) (fun j hj => hw j (by omega)) hi64, if_pos (show 0 ≤ w.getD i 0 ∧ w.getD i 0 < 2 ^ 2 from hw i (by omega))]
        exact ih (i + 1) k (by omega) (by omega) (by omega)
    exact key 16 0 F (by omega) (by omega) hF
  · rintro ⟨n, hn, hw, hbad⟩
    have key : ∀ (m i k : Nat), n - i = m → i ≤ n → m < k → bcone_Join_l0 F k (packN low 32 2 w i) w i = some (.inl ()) := by
      intro m
      induction m with
      | zero =>
        intro i k h1 h2 h3
        obtain ⟨k, rfl⟩ : ∃ k', k = k' + 1 := ⟨k - 1, by omega⟩
        have : i = n := by omega
        subst this
        rw [join6_step hl (by omega) (fun j hj => hw j (by omega)) hi64, if_neg (show ¬ (0 ≤ w.getD i 0 ∧ w.getD i 0 < 2 ^ 2) from hbad)]
      | succ m ih =>
        intro i k h1 h2 h3
        obtain ⟨k, rfl⟩ : ∃ k', k = k' + 1 := ⟨k - 1, by omega⟩
        rw [join6_step hl (by omega) (fun j hj => hw j (by omega)) hi64, if_pos (show 0 ≤ w.getD i 0 ∧ w.getD i 0 < 2 ^ 2 from hw i (by omega))]
        exact ih (i + 1) k (by omega) (by omega) (by omega)
    exact key n 0 F (by omega) (by omega) (by omega)

theorem rJoin6_step {F : Nat} (hF : 66 ≤ F) {c : List Int} (hc : Bytes c) (hl : c.length = 8) {w : List Int} {i : Nat} (hi : i < 16) (k : Nat) (hi64 : ∀ j, -9223372036854775808 ≤ w.getD j 0 ∧ w.getD j 0 ≤ 9223372036854775807) :
    ref06_Join_l0 F (k + 1) w c i = if 0 ≤ w.getD i 0 ∧ w.getD i 0 < 2 ^ 2 then ref06_Join_l0 F k w (lset c (fourAt 32 2 i) 2 (w.getD i 0)) ((i + 1 : Nat) : Int) else some (.inl ()) := by
  show ref06_Join_l0S F (ref06_Join_l0 F k) w c i = _
  unfold ref06_Join_l0S
  have h1 : (i : Int) < 16 := by omega
  simp only [h1, decide_true, cond_true, Int.natCast_nonneg, Bool.and_self, Int.toNat_natCast]
  by_cases hc' : 0 ≤ w.getD i 0 ∧ w.getD i 0 < 2 ^ 2
  · rw [if_pos hc']
    have c1 : ¬ w.getD i 0 < 0 := by omega
    have c2 : ¬ 3 < w.getD i 0 := by omega
    have e1 : IntKind.wrap .i64 (32 + IntKind.wrap .i64 (2 * (i : Int))) = ((fourAt 32 2 i : Nat) : Int) := by
      rw [w64 (x := 2 * (i : Int)) (by omega) (by omega), w64 (by omega) (by omega)]
      unfold fourAt
      omega
    have e2 : IntKind.wrap .u64 (w.getD i 0) = w.getD i 0 := wu64 hc'.1 (by omega)
    have es := Set_ok hF hc (by omega) (a := fourAt 32 2 i) (n := 2) (by decide) (by unfold fourAt; omega) hc'
    simp only [Int.cast_ofNat_Int] at es
    simp only [c1, c2, decide_false, cond_false, e1, e2, es, Option.bind_some, nextI (show i < 1000000000000 by omega)]
  · rw [if_neg hc']
    by_cases c1 : w.getD i 0 < 0
    · simp only [c1, decide_true, cond_true]
    · have c2 : 3 < w.getD i 0 := by omega
      simp only [c1, c2, decide_false, cond_false, decide_true, cond_true]

theorem lowHex {a b : Int} (ha : 0 ≤ a ∧ a ≤ 65535) (hb : 0 ≤ b ∧ b ≤ 65535) : ior .u64 (IntKind.wrap .u64 a) (ishl .u64 (IntKind.wrap .u64 b) 16) = a + b * 2 ^ 16 ∧ 0 ≤ a + b * 2 ^ 16 ∧ a + b * 2 ^ 16 < 2 ^ 32 := by
  have e := ior_field (x := a) (v := b) (m := 16) (k := 16) (by omega) (by omega) (by decide) (by decide)
  rw [wu64 ha.1 (by omega), wu64 hb.1 (by omega)]
  exact ⟨by simpa using e, by omega, by omega⟩

def hexC (a b : Int) : List Int := lset (lset zeros8 0 16 a) 16 16 b
theorem hexC_len (a b : Int) : (hexC a b).length = 8 := by unfold hexC; rw [lset_len, lset_len]; rfl
theorem hexC_bytes (a b : Int) : Bytes (hexC a b) := lset_bytes (lset_bytes zeros8_bytes _ _ _) _ _ _
theorem hexC_bit {a b : Int} (ha : 0 ≤ a ∧ a ≤ 65535) (hb : 0 ≤ b ∧ b ≤ 65535) {q : Nat} (hq : q < 32) : lowBit (hexC a b) q = (a + b * 2 ^ 16) / 2 ^ q % 2 := by
  unfold hexC
  rw [lset_bit (lset_bytes zeros8_bytes _ _ _) (by rw [lset_len]; decide), digit_field (by omega)]
  by_cases h : q < 16
  · rw [if_neg (by omega), if_pos h, lset_bit zeros8_bytes (by decide), if_pos ⟨by omega, by omega⟩, Nat.sub_zero]
  · rw [if_pos ⟨by omega, by omega⟩, if_neg h]

theorem Join6_ok {F : Nat} (hF : 66 ≤ F) {a b : Int} {w : List Int} (ha : 0 ≤ a ∧ a ≤ 65535) (hb : 0 ≤ b ∧ b ≤ 65535) (hi64 : ∀ j, -9223372036854775808 ≤ w.getD j 0 ∧ w.getD j 0 ≤ 9223372036854775807) (hw : ∀ j, j < 16 → okW 2 w j) :
    bcone_Join F a b w = some (packed (a + b * 2 ^ 16) 32 2 w, (0, ())) := by
  obtain ⟨t1, t2, t3⟩ := lowHex ha hb
  have j := (join6_loop (F := F) (low := a + b * 2 ^ 16) (w := w) ⟨t2, t3⟩ hi64 (by omega)).1 hw
  have hbd := packN_bound (low := a + b * 2 ^ 16) (from_ := 32) (each := 2) ⟨t2, t3⟩ (m := 16) hw 16 (Nat.le_refl _)
  have es := SetLow_ok hF (b := zeros8) zeros8_bytes (by decide) (a := 0) (n := 64) (v := packN (a + b * 2 ^ 16) 32 2 w 16) (by decide) (by decide) ⟨hbd.1, by omega⟩
  simp only [Int.natCast_zero, Int.cast_ofNat_Int] at es
  have c1 : ¬ a < 0 := by omega
  have c2 : ¬ 65535 < a := by omega
  have c3 : ¬ b < 0 := by omega
  have c4 : ¬ 65535 < b := by omega
  have ez : bcone_JoinT41 = zeros8 := rfl
  unfold bcone_Join
  simp only [c1, c2, c3, c4, decide_false, cond_false, and_self, if_true, t1, j, Option.bind_some, ez, es, packed]

theorem Join6_is {F : Nat} (hF : 66 ≤ F) {a b : Int} {w : List Int} (hi64 : ∀ j, -9223372036854775808 ≤ w.getD j 0 ∧ w.getD j 0 ≤ 9223372036854775807) : ∃ c e, bcone_Join F a b w = some (c, (e, ())) ∧ ref06_Join F a b w = some (c, (e, ())) ∧ c.length ≤ 8 := by
  by_cases h1 : a < 0
  · exact ⟨[], 1, by simp [bcone_Join, h1], by simp [ref06_Join, h1], by decide⟩
  by_cases h2 : 65535 < a
  · refine ⟨[], 1, by simp [bcone_Join, h1, h2], ?_, by decide⟩
    by_cases h3 : b < 0 <;> simp [ref06_Join, h1, h2, h3]
  by_cases h3 : b < 0
  · exact ⟨[], 1, by simp [bcone_Join, h1, h2, h3], by simp [ref06_Join, h1, h3], by decide⟩
  by_cases h4 : 65535 < b
  · exact ⟨[], 1, by simp [bcone_Join, h1, h2, h3, h4], by simp [ref06_Join, h1, h2, h3, h4], by decide⟩
  have ha : 0 ≤ a ∧ a ≤ 65535 := by omega
  have hb : 0 ≤ b ∧ b ≤ 65535 := by omega
  obtain ⟨t1, t2, t3⟩ := lowHex ha hb
  obtain ⟨s1, s2⟩ := setLoop (from_ := 32) (each := 2) (by decide) (w := w) (hexC_bytes a b) (hexC_len a b) (fun k w c i => ref06_Join_l0 F k w c i) (fun c hc hl i hi k => rJoin6_step hF hc hl hi k hi64) (fun c k => by show ref06_Join_l0S F (ref06_Join_l0 F k) w c 16 = _; unfold ref06_Join_l0S; simp) (F := F) (by omega)
  have e2 : ∀ x, ref06_Join_l0 F F w (hexC a b) 0 = some x → ref06_Join F a b w = match x with | .inl _ => some ([], (1, ())) | .inr r => some (r.1, (0, ())) := by
    intro x hx
    have z1 := Set_ok hF (b := zeros8) zeros8_bytes (by decide) (a := 0) (n := 16) (v := a) (by decide) (by decide) (by omega)
    have z2 := Set_ok hF (b := lset zeros8 0 16 a) (lset_bytes zeros8_bytes _ _ _) (by rw [lset_len]; decide) (a := 16) (n := 16) (v := b) (by decide) (by rw [lset_len]; decide) (by omega)
    simp only [Int.natCast_zero, Int.cast_ofNat_Int] at z1 z2
    unfold ref06_Join
    simp only [h1, h2, h3, h4, decide_false, cond_false]
    rw [wu64 (x := a) (by omega) (by omega), wu64 (x := b) (by omega) (by omega), show bcone_JoinT41 = zeros8 from rfl, z1, Option.bind_some, z2, Option.bind_some]
    unfold hexC at hx
    rw [hx]
    cases x <;> rfl
  rcases firstBad 2 w with hw | hw
  · refine ⟨packed (a + b * 2 ^ 16) 32 2 w, 0, Join6_ok hF ha hb hi64 hw, ?_, by rw [packed_len]; decide⟩
    rw [e2 _ (s1 hw), packed_llaid ⟨t2, t3⟩ (by decide) (by decide) hw (hexC_bytes a b) (hexC_len a b) (fun q hq => hexC_bit ha hb hq)]
  · have j := (join6_loop (F := F) (low := a + b * 2 ^ 16) (w := w) ⟨t2, t3⟩ hi64 (by omega)).2 hw
    refine ⟨[], 1, ?_, by rw [e2 _ (s2 hw)], by decide⟩
    unfold bcone_Join
    simp only [h1, h2, h3, h4, decide_false, cond_false, and_self, if_true, t1, j, Option.bind_some]

theorem packed6_back {b : List Int} (hb : Bytes b) (hl : b.length = 8) : packed (lv b 0 16 + lv b 16 16 * 2 ^ 16) 32 2 (oneW b) = b := by
  have h0 := lv16 b 0
  have h1 := lv16 b 16
  refine bytes_ext_low (packed_bytes _ _ _ _) hb (by rw [packed_len, hl]) fun q hq => ?_
  rw [packed_len] at hq
  rw [packed_bit (by omega) (by decide) (by decide) (fun j hj => oneW_ok b j hj) (by omega)]
  split
  · rename_i h
    rw [digit_field (by omega)]
    split
    · have := lv_digit b (a := 0) (n := 16) (q := q) (by omega) (by omega)
      rw [← this, Nat.sub_zero]
    · exact lv_digit b (a := 16) (n := 16) (q := q) (by omega) (by omega)
  · rename_i h
    rw [oneW_get b (by omega)]
    have := lv_digit b (a := 32 + 2 * ((q - 32) / 2)) (n := 2) (q := q) (by omega) (by omega)
    rw [← this]
    congr 3
    omega

theorem awake06 : law06_awake 600 = some (true, ()) := by kernel_rfl

/-! ### the laws -/

theorem oneW_64 (b : List Int) : ∀ j, -9223372036854775808 ≤ (oneW b).getD j 0 ∧ (oneW b).getD j 0 ≤ 9223372036854775807 := by
  refine getD_i64 fun x hx => ?_
  obtain ⟨i, _, rfl⟩ := List.mem_map.1 hx
  have := lv_bound b (32 + 2 * i) 2
  omega

theorem law06_BconeBack_true (b : List Int) (hb' : ∀ x ∈ b, IntKind.u8.has x) : ∃ F, law06_BconeBack F b = some (true, ()) := by
  have hb := bytes_of hb'
  refine ⟨600, ?_⟩
  unfold law06_BconeBack
  rw [awake06]
  simp only [Option.bind_some]
  by_cases hl : b.length = 8
  · have e : ((b.length : Int) != 8) = false := by rw [hl]; rfl
    have j := Join6_ok (F := 600) (by decide) (lv16 b 0) (lv16 b 16) (oneW_64 b) (oneW_ok b)
    rw [packed6_back hb hl] at j
    rw [Parts6_is (by decide) hb hl]
    simp only [Option.bind_some, e, cond_false, and_self, if_true, j, Same_is b (show b.length < 600 by omega) (by decide)]
    rfl
  · have e : ((b.length : Int) != 8) = true := bneT (by omega)
    rw [(bad6 hl).1]
    simp [e]

theorem Blocks_l0 (l : List Int) (up : Bool) (x2 x3 : Int) (x4 : List Int) (x5 x6 x7 : Int) (x8 : List Int) (x9 : Int) (x10 : List Int) (x11 : Int) (x12 : List Int) (x13 : Int) (w0 : List Int) (h0 : w0.length = 16) :
    law06_BconeBlocks_l0 600 600 l up x2 x3 x4 x5 x6 x7 x8 x9 x10 x11 x12 x13 w0 0 = some (l, (up, (x2, (x3, (x4, (x5, (x6, (x7, (x8, (x9, (x10, (x11, (x12, (x13, ((List.range 16).map (fun i => l.getD (i + 2) 0), ()))))))))))))))) := by
  refine fill_loop 16 (fun i => l.getD (i + 2) 0) (fun k w i => law06_BconeBlocks_l0 600 k l up x2 x3 x4 x5 x6 x7 x8 x9 x10 x11 x12 x13 w i) (fun w => some (l, (up, (x2, (x3, (x4, (x5, (x6, (x7, (x8, (x9, (x10, (x11, (x12, (x13, (w, ())))))))))))))))) ?_ ?_ _ h0 600 (by decide)
  · intro k i w hi hw
    show law06_BconeBlocks_l0S 600 (law06_BconeBlocks_l0 600 k) l up x2 x3 x4 x5 x6 x7 x8 x9 x10 x11 x12 x13 w i = _
    unfold law06_BconeBlocks_l0S
    have h1 : (i : Int) < 16 := by omega
    have e2 : IntKind.wrap .i64 ((i : Int) + 2) = ((i + 2 : Nat) : Int) := by rw [w64 (by omega) (by omega)]; omega
    have h2 : ((i + 2 : Nat) : Int) < 18 := by omega
    simp only [h1, decide_true, cond_true, e2, h2, Int.natCast_nonneg, Bool.and_self, Int.toNat_natCast, nextI (show i < 1000000000000 by omega)]
  · intro k w hw
    show law06_BconeBlocks_l0S 600 (law06_BconeBlocks_l0 600 k) l up x2 x3 x4 x5 x6 x7 x8 x9 x10 x11 x12 x13 w 16 = _
    unfold law06_BconeBlocks_l0S
    simp

theorem law06_BconeBlocks_true (b : List Int) (four : Bool) (l : List Int) (hb' : ∀ x ∈ b, IntKind.u8.has x) (hl' : l.length = 18 ∧ ∀ x ∈ l, IntKind.i64.has x) : ∃ F, law06_BconeBlocks F b four l = some (true, ()) := by
  have hb := bytes_of hb'
  have hl64 := i64s_of hl'
  refine ⟨600, ?_⟩
  unfold law06_BconeBlocks
  rw [awake06]
  simp only [Option.bind_some]
  by_cases h40 : (40 : Int) < (b.length : Int)
  · simp [h40]
  have blk : ∃ x y w e t f, bcone_Parts 600 b = some (x, (y, (w, (e, ())))) ∧ ref06_Parts 600 b = some (x, (y, (w, (e, ())))) ∧ bcone_Decode 600 b four = some (t, (f, ())) ∧ ref06_Decode 600 b four = some (t, (f, ())) := by
    by_cases hl : b.length = 8
    · exact ⟨_, _, _, _, _, _, Parts6_is (by decide) hb hl, rParts6_is (by decide) hb hl, Decode6_is (by decide) hb hl four, rDecode6_is (by decide) hb hl four⟩
    · obtain ⟨p1, p2⟩ := bad6 hl
      have p5 : bcone_Decode 600 b four = some (bcone_DecodeT203, (1, ())) := by unfold bcone_Decode; rw [p1]; rfl
      have p6 : ref06_Decode 600 b four = some (bcone_DecodeT203, (1, ())) := by unfold ref06_Decode; rw [p2]; rfl
      exact ⟨_, _, _, _, _, _, p1, p2, p5, p6⟩
  obtain ⟨x, y, w, e, t, f, b1, b2, b3, b4⟩ := blk
  have hk64 : ∀ j, -9223372036854775808 ≤ ((List.range 16).map (fun i => l.getD (i + 2) 0)).getD j 0 ∧ ((List.range 16).map (fun i => l.getD (i + 2) 0)).getD j 0 ≤ 9223372036854775807 := by
    refine getD_i64 fun x hx => ?_
    obtain ⟨i, _, rfl⟩ := List.mem_map.1 hx
    exact getD_i64 hl64 _
  obtain ⟨c, e1, c1, c2, c3⟩ := Join6_is (F := 600) (by decide) (a := l.getD 0 0) (b := l.getD 1 0) hk64
  simp only [h40, decide_false, cond_false, b1, b2, b3, b4, Option.bind_some, and_self, if_true]
  rw [Blocks_l0 l true _ _ _ _ _ _ _ _ _ _ _ _ bcone_PartsT205 rfl]
  simp only [Option.bind_some, c1, c2, Same_is c (show c.length < 600 by omega) (by decide), beq_self_eq_true, cond_true]

theorem Colours_l0 (l : List Int) (four up : Bool) (t : List Int) : (∃ x, law06_BconeColours_l0 600 600 four l t up 0 = some x ∧ ((x = .inl (up, ()) ∧ True) ∨ (x = .inr (four, (l, (t, (up, ())))) ∧ ∀ c, c < 4 → -1048576 ≤ t.getD c 0 ∧ t.getD c 0 ≤ 1048576))) := by
  have key : ∀ (m i k : Nat), 4 - i = m → i ≤ 4 → m < k → (∀ c, c < i → -1048576 ≤ t.getD c 0 ∧ t.getD c 0 ≤ 1048576) → ∃ x, law06_BconeColours_l0 600 k four l t up i = some x ∧ ((x = .inl (up, ()) ∧ True) ∨ (x = .inr (four, (l, (t, (up, ())))) ∧ ∀ c, c < 4 → -1048576 ≤ t.getD c 0 ∧ t.getD c 0 ≤ 1048576)) := by
    intro m
    induction m with
    | zero =>
      intro i k h1 h2 h3 h4
      obtain ⟨k, rfl⟩ : ∃ k', k = k' + 1 := ⟨k - 1, by omega⟩
      have : i = 4 := by omega
      subst this
      exact ⟨_, rfl, .inr ⟨rfl, h4⟩⟩
    | succ m ih =>
      intro i k h1 h2 h3 h4
      obtain ⟨k, rfl⟩ : ∃ k', k = k' + 1 := ⟨k - 1, by omega⟩
      have hs : law06_BconeColours_l0 600 (k + 1) four l t up i = law06_BconeColours_l0S 600 (law06_BconeColours_l0 600 k) four l t up i := rfl
      rw [hs]
      unfold law06_BconeColours_l0S
      have c1 : (i : Int) < 4 := by omega
      simp only [c1, decide_true, cond_true, Int.natCast_nonneg, Bool.and_self, Int.toNat_natCast, nextI (show i < 1000000000000 by omega)]
      have sm : ref03_Small 600 (t.getD i 0) = some (decide (-1048576 ≤ t.getD i 0 ∧ t.getD i 0 ≤ 1048576), ()) := by
        unfold ref03_Small
        by_cases hc : -1048576 ≤ t.getD i 0
        · simp only [hc, decide_true, cond_true, true_and]
        · simp only [hc, decide_false, cond_false, false_and]
      rw [sm]
      simp only [Option.bind_some]
      by_cases hc : -1048576 ≤ t.getD i 0 ∧ t.getD i 0 ≤ 1048576
      · simp only [hc, and_self, decide_true, Bool.not_true, cond_false]
        refine ih (i + 1) k (by omega) (by omega) (by omega) fun c hcc => ?_
        rcases Nat.lt_or_ge c i with h | h
        · exact h4 c h
        · have : c = i := by omega
          subst this
          exact hc
      · simp only [hc, decide_false, Bool.not_false, cond_true]
        exact ⟨_, rfl, .inl ⟨rfl, trivial⟩⟩
  exact key 4 0 600 (by omega) (by omega) (by decide) (fun c hc => by omega)

theorem law06_BconeColours_true (l : List Int) (four : Bool) (t : List Int) (hl' : l.length = 2 ∧ ∀ x ∈ l, IntKind.i64.has x) (ht' : t.length = 4 ∧ ∀ x ∈ t, IntKind.i64.has x) : ∃ F, law06_BconeColours F l four t = some (true, ()) := by
  refine ⟨600, ?_⟩
  unfold law06_BconeColours
  rw [awake06]
  simp only [Option.bind_some]
  obtain ⟨x, hx, hcase⟩ := Colours_l0 l four true t
  rw [hx]
  rcases hcase with ⟨rfl, _⟩ | ⟨rfl, hs⟩
  · rfl
  · have hl64 := i64s_of hl'
    have g0 := getD_i64 hl64 0
    have r0 := rColour_is (F := 600) (by decide) (n := l.getD 0 0) (.inr (has_iff.2 g0))
    obtain ⟨p1, p2⟩ := Pack_is (F := 600) (by decide) (t := t) (fun c hc => hs c (by omega))
    simp only [Option.bind_some, Colour_is (F := 600) (by decide), r0, and_self, if_true, p1, p2, beq_self_eq_true, Bool.not_true, cond_false, bne_self_eq_false]
    by_cases h1 : l.getD 0 0 < 0
    · simp only [h1, decide_true, cond_true]
    by_cases h2 : 65535 < l.getD 0 0
    · simp only [h1, h2, decide_true, decide_false, cond_true, cond_false]
    by_cases h3 : l.getD 1 0 < 0
    · simp only [h1, h2, h3, decide_true, decide_false, cond_true, cond_false]
    by_cases h4 : 65535 < l.getD 1 0
    · simp only [h1, h2, h3, h4, decide_true, decide_false, cond_true, cond_false]
    obtain ⟨q1, q2⟩ := Palette_is (F := 600) (by decide) (a := l.getD 0 0) (b := l.getD 1 0) (by omega) (by omega) four
    simp only [h1, h2, h3, h4, decide_false, cond_true, cond_false, q1, q2, Option.bind_some, beq_self_eq_true]

end Go.AE.Gn

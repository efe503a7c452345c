/- Layer 9: bcseven. Blocks of mode 6, their ends and ramps. -/
import Derived.Test.YtdhhinbhckoipaaPure09d
set_option linter.unusedVariables false
set_option linter.unusedSimpArgs false
namespace Go.AE.Gn
open Go Go.AE

/-! ### ends and ramps -/

def endV (ends more : List Int) (j : Nat) : Int := 2 * (ends.getD j 0 % 128) + more.getD (j / 4) 0 % 2

theorem endV_bound (ends more : List Int) (j : Nat) : 0 ≤ endV ends more j ∧ endV ends more j ≤ 255 := by
  unfold endV
  omega

theorem and127 (x : Int) : iand .i64 x 127 = x % 128 := iand_mask (b := 7) (by omega)
theorem and1 (x : Int) : iand .i64 x 1 = x % 2 := iand_mask (b := 1) (by omega)

theorem ends_expr (x y : Int) : ior .i64 (ishl .i64 (iand .i64 x 127) 1) (iand .i64 y 1) = 2 * (x % 128) + y % 2 := by
  rw [and127, and1]
  have := orbit (n := x % 128) (v := y % 2) (x := 1) (by omega) (by omega) (by omega) (by omega)
  rw [show ((1 : Nat) : Int) = 1 from rfl] at this
  rw [this]
  omega
theorem rends_expr (x y : Int) : IntKind.wrap .i64 (IntKind.wrap .i64 (2 * iand .i64 x 127) + iand .i64 y 1) = 2 * (x % 128) + y % 2 := by
  rw [and127, and1]
  exact wrap2 (by omega) (by omega)

theorem zero8 : bcseven_EndsT6885 = tab 8 fun _ => 0 := by decide +kernel

/-- A list that is filled up to a row and a place in it. -/
def upR (i c : Nat) (g : Nat → Int) (j : Nat) : Int := if j < i * 4 + c then g j else 0
theorem upR_set {N i c : Nat} (g : Nat → Int) : (tab N (upR i c g)).set (i * 4 + c) (g (i * 4 + c)) = tab N (upR i (c + 1) g) := by
  rw [tab_set]
  refine tab_congr fun j hj => ?_
  unfold upR
  by_cases h : j = i * 4 + c
  · rw [if_pos h, if_pos (by omega), h]
  · rw [if_neg h]
    by_cases h2 : j < i * 4 + c
    · rw [if_pos h2, if_pos (by omega)]
    · rw [if_neg h2, if_neg (by omega)]
theorem upR_next {N i : Nat} (g : Nat → Int) : tab N (upR i 4 g) = tab N (upR (i + 1) 0 g) := tab_congr fun j hj => by
  unfold upR
  by_cases h : j < i * 4 + 4
  · rw [if_pos h, if_pos (by omega)]
  · rw [if_neg h, if_neg (by omega)]
theorem upR_zero {N : Nat} (g : Nat → Int) : tab N (upR 0 0 g) = tab N fun _ => 0 := tab_congr fun j hj => if_neg (by omega)
theorem upR_all {N i : Nat} (g : Nat → Int) (h : N ≤ i * 4) : tab N (upR i 0 g) = tab N g := tab_congr fun j hj => if_pos (by omega)

theorem Ends_l2_all (ends more x1 x4 : List Int) (x5 : Int) {i : Nat} (hi : i < 2) : ∀ (d c k : Nat), c + d = 4 → d < k →
    bcseven_Ends_l2 600 k more x1 (tab 8 (upR i c (endV ends more))) (i : Int) x4 x5 (tab 4 fun c => ends.getD (i * 4 + c) 0) (c : Int) = some (more, (x1, (tab 8 (upR (i + 1) 0 (endV ends more)), (x4, (x5, ()))))) := by
  intro d
  induction d with
  | zero =>
    intro c k h1 h2
    obtain ⟨k, rfl⟩ : ∃ k', k = k' + 1 := ⟨k - 1, by omega⟩
    obtain rfl : c = 4 := by omega
    unfold bcseven_Ends_l2 bcseven_Ends_l2S
    have : ¬ (((4 : Nat) : Int) < 4) := by omega
    simp only [this, decide_false, cond_false, upR_next]
  | succ d ih =>
    intro c k h1 h2
    obtain ⟨k, rfl⟩ : ∃ k', k = k' + 1 := ⟨k - 1, by omega⟩
    have hc : c < 4 := by omega
    have i1 : (c : Int) < 4 := by omega
    have i2 : (i : Int) < 2 := by omega
    have e : 2 * (ends.getD (i * 4 + c) 0 % 128) + more.getD i 0 % 2 = endV ends more (i * 4 + c) := by
      unfold endV
      rw [(mul4 i c hc).1]
    unfold bcseven_Ends_l2 bcseven_Ends_l2S
    simp only [i1, i2, decide_true, cond_true, Int.natCast_nonneg, Bool.and_self, Int.toNat_natCast, tab_get hc, ends_expr, e, upR_set]
    rw [nextI (by omega)]
    exact ih (c + 1) k (by omega) (by omega)

theorem row8 (ends : List Int) (hl : ends.length = 8) {i : Nat} (hi : i < 2) : List.take 4 (List.drop (i * 4) ends) = tab 4 fun c => ends.getD (i * 4 + c) 0 := by
  conv => lhs; rw [tab_all hl]
  exact tab_part (by omega)

theorem Ends_l0_all (ends more x1 : List Int) (hl : ends.length = 8) : ∀ (d i k : Nat), i + d = 2 → d < k →
    bcseven_Ends_l0 600 k more x1 (tab 8 (upR i 0 (endV ends more))) ends (i : Int) = some (x1, (tab 8 (endV ends more), ())) := by
  intro d
  induction d with
  | zero =>
    intro i k h1 h2
    obtain ⟨k, rfl⟩ : ∃ k', k = k' + 1 := ⟨k - 1, by omega⟩
    obtain rfl : i = 2 := by omega
    unfold bcseven_Ends_l0 bcseven_Ends_l0S
    have : ¬ (((2 : Nat) : Int) < 2) := by omega
    simp only [this, decide_false, cond_false, upR_all (i := 2) (endV ends more) (show 8 ≤ 2 * 4 by omega)]
  | succ d ih =>
    intro i k h1 h2
    obtain ⟨k, rfl⟩ : ∃ k', k = k' + 1 := ⟨k - 1, by omega⟩
    have hi : i < 2 := by omega
    have i2 : (i : Int) < 2 := by omega
    have l2 : bcseven_Ends_l2 600 600 more x1 (tab 8 (upR i 0 (endV ends more))) (i : Int) ends (i : Int) (tab 4 fun c => ends.getD (i * 4 + c) 0) (0 : Int) = _ := Ends_l2_all ends more x1 ends (i : Int) hi 4 0 600 (by omega) (by omega)
    unfold bcseven_Ends_l0 bcseven_Ends_l0S
    simp only [i2, decide_true, cond_true, Int.natCast_nonneg, Bool.and_self, Int.toNat_natCast, row8 ends hl hi, l2, Option.bind_some]
    rw [nextI (by omega)]
    exact ih (i + 1) k (by omega) (by omega)

theorem Ends_is (ends more : List Int) (hl : ends.length = 8) : bcseven_Ends 600 ends more = some (tab 8 (endV ends more), ()) := by
  unfold bcseven_Ends
  have h := Ends_l0_all ends more bcseven_EndsT6885 hl 2 0 600 (by omega) (by omega)
  rw [upR_zero, ← zero8, show ((0 : Nat) : Int) = 0 from rfl] at h
  rw [h]
  rfl

theorem rEnds_l2_all (ends more x2 : List Int) {i : Nat} (hi : i < 2) : ∀ (d c k : Nat), c + d = 4 → d < k →
    ref09_Ends_l2 600 k ends more x2 (tab 8 (upR i c (endV ends more))) (i : Int) (c : Int) = some (ends, (more, (x2, (tab 8 (upR (i + 1) 0 (endV ends more)), ((i : Int), ()))))) := by
  intro d
  induction d with
  | zero =>
    intro c k h1 h2
    obtain ⟨k, rfl⟩ : ∃ k', k = k' + 1 := ⟨k - 1, by omega⟩
    obtain rfl : c = 4 := by omega
    unfold ref09_Ends_l2 ref09_Ends_l2S
    have : ¬ (((4 : Nat) : Int) < 4) := by omega
    simp only [this, decide_false, cond_false, upR_next]
  | succ d ih =>
    intro c k h1 h2
    obtain ⟨k, rfl⟩ : ∃ k', k = k' + 1 := ⟨k - 1, by omega⟩
    have hc : c < 4 := by omega
    have i1 : (c : Int) < 4 := by omega
    have i2 : (i : Int) < 2 := by omega
    have e : 2 * (ends.getD (i * 4 + c) 0 % 128) + more.getD i 0 % 2 = endV ends more (i * 4 + c) := by
      unfold endV
      rw [(mul4 i c hc).1]
    unfold ref09_Ends_l2 ref09_Ends_l2S
    simp only [i1, i2, decide_true, cond_true, Int.natCast_nonneg, Bool.and_self, Int.toNat_natCast, rends_expr, e, upR_set]
    rw [nextI (by omega)]
    exact ih (c + 1) k (by omega) (by omega)

theorem rEnds_l0_all (ends more x2 : List Int) : ∀ (d i k : Nat), i + d = 2 → d < k →
    ref09_Ends_l0 600 k ends more x2 (tab 8 (upR i 0 (endV ends more))) (i : Int) = some (x2, (tab 8 (endV ends more), ())) := by
  intro d
  induction d with
  | zero =>
    intro i k h1 h2
    obtain ⟨k, rfl⟩ : ∃ k', k = k' + 1 := ⟨k - 1, by omega⟩
    obtain rfl : i = 2 := by omega
    unfold ref09_Ends_l0 ref09_Ends_l0S
    have : ¬ (((2 : Nat) : Int) < 2) := by omega
    simp only [this, decide_false, cond_false, upR_all (i := 2) (endV ends more) (show 8 ≤ 2 * 4 by omega)]
  | succ d ih =>
    intro i k h1 h2
    obtain ⟨k, rfl⟩ : ∃ k', k = k' + 1 := ⟨k - 1, by omega⟩
    have hi : i < 2 := by omega
    have i2 : (i : Int) < 2 := by omega
    have l2 : ref09_Ends_l2 600 600 ends more x2 (tab 8 (upR i 0 (endV ends more))) (i : Int) (0 : Int) = _ := rEnds_l2_all ends more x2 hi 4 0 600 (by omega) (by omega)
    unfold ref09_Ends_l0 ref09_Ends_l0S
    simp only [i2, decide_true, cond_true, l2, Option.bind_some]
    rw [nextI (by omega)]
    exact ih (i + 1) k (by omega) (by omega)

theorem rEnds_is (ends more : List Int) : ref09_Ends 600 ends more = some (tab 8 (endV ends more), ()) := by
  unfold ref09_Ends
  have h := rEnds_l0_all ends more bcseven_EndsT6885 2 0 600 (by omega) (by omega)
  rw [upR_zero, ← zero8, show ((0 : Nat) : Int) = 0 from rfl] at h
  rw [h]
  rfl

def rampV (a z : Nat → Int) (j : Nat) : Int := mx (a (j % 4)) (z (j % 4)) ((j / 4 : Nat) : Int) 4

theorem Ramp_l2_all {a z : Nat → Int} (ha : ∀ c, 0 ≤ a c ∧ a c ≤ 255) (hz : ∀ c, 0 ≤ z c ∧ z c ≤ 255) (x2 : List Int) (x5 : Int) {i : Nat} (hi : i < 16) : ∀ (d c k : Nat), c + d = 4 → d < k →
    bcseven_Ramp_l2 600 k (tab 4 a) (tab 4 z) x2 (tab 64 (upR i c (rampV a z))) (i : Int) x5 (c : Int) = some (tab 4 a, (tab 4 z, (x2, (tab 64 (upR (i + 1) 0 (rampV a z)), (x5, ()))))) ∧
    ref09_Ramp_l2 600 k (tab 4 a) (tab 4 z) x2 (tab 64 (upR i c (rampV a z))) (i : Int) (c : Int) = some (tab 4 a, (tab 4 z, (x2, (tab 64 (upR (i + 1) 0 (rampV a z)), ((i : Int), ()))))) := by
  intro d
  induction d with
  | zero =>
    intro c k h1 h2
    obtain ⟨k, rfl⟩ : ∃ k', k = k' + 1 := ⟨k - 1, by omega⟩
    obtain rfl : c = 4 := by omega
    unfold bcseven_Ramp_l2 bcseven_Ramp_l2S ref09_Ramp_l2 ref09_Ramp_l2S
    have : ¬ (((4 : Nat) : Int) < 4) := by omega
    simp only [this, decide_false, cond_false, upR_next, and_self]
  | succ d ih =>
    intro c k h1 h2
    obtain ⟨k, rfl⟩ : ∃ k', k = k' + 1 := ⟨k - 1, by omega⟩
    have hc : c < 4 := by omega
    have i1 : (c : Int) < 4 := by omega
    have i2 : (i : Int) < 16 := by omega
    obtain ⟨m1, m2⟩ := mix9 (p := (i : Int)) (n := 4) (ha c) (hz c) (by omega) (by omega)
    rw [show ((4 : Nat) : Int) = 4 from rfl] at m1 m2
    have e : mx (a c) (z c) (i : Int) 4 = rampV a z (i * 4 + c) := by
      unfold rampV
      rw [(mul4 i c hc).1, (mul4 i c hc).2]
    unfold bcseven_Ramp_l2 bcseven_Ramp_l2S ref09_Ramp_l2 ref09_Ramp_l2S
    simp only [i1, i2, decide_true, cond_true, Int.natCast_nonneg, Bool.and_self, Int.toNat_natCast, tab_get hc, m1, m2, Option.bind_some, e, upR_set]
    rw [nextI (by omega)]
    exact ih (c + 1) k (by omega) (by omega)

theorem Ramp_l0_all {a z : Nat → Int} (ha : ∀ c, 0 ≤ a c ∧ a c ≤ 255) (hz : ∀ c, 0 ≤ z c ∧ z c ≤ 255) (x2 : List Int) : ∀ (d i k : Nat), i + d = 16 → d < k →
    bcseven_Ramp_l0 600 k (tab 4 a) (tab 4 z) x2 (tab 64 (upR i 0 (rampV a z))) (i : Int) = some (x2, (tab 64 (rampV a z), ())) ∧
    ref09_Ramp_l0 600 k (tab 4 a) (tab 4 z) x2 (tab 64 (upR i 0 (rampV a z))) (i : Int) = some (x2, (tab 64 (rampV a z), ())) := by
  intro d
  induction d with
  | zero =>
    intro i k h1 h2
    obtain ⟨k, rfl⟩ : ∃ k', k = k' + 1 := ⟨k - 1, by omega⟩
    obtain rfl : i = 16 := by omega
    unfold bcseven_Ramp_l0 bcseven_Ramp_l0S ref09_Ramp_l0 ref09_Ramp_l0S
    have : ¬ (((16 : Nat) : Int) < 16) := by omega
    simp only [this, decide_false, cond_false, upR_all (i := 16) (rampV a z) (show 64 ≤ 16 * 4 by omega), and_self]
  | succ d ih =>
    intro i k h1 h2
    obtain ⟨k, rfl⟩ : ∃ k', k = k' + 1 := ⟨k - 1, by omega⟩
    have hi : i < 16 := by omega
    have i2 : (i : Int) < 16 := by omega
    obtain ⟨l1, l2⟩ := Ramp_l2_all ha hz x2 (i : Int) hi 4 0 600 (by omega) (by omega)
    rw [show ((0 : Nat) : Int) = 0 from rfl] at l1 l2
    unfold bcseven_Ramp_l0 bcseven_Ramp_l0S ref09_Ramp_l0 ref09_Ramp_l0S
    simp only [i2, decide_true, cond_true, l1, l2, Option.bind_some]
    rw [nextI (by omega)]
    exact ih (i + 1) k (by omega) (by omega)

theorem Ramp_is {a z : Nat → Int} (ha : ∀ c, 0 ≤ a c ∧ a c ≤ 255) (hz : ∀ c, 0 ≤ z c ∧ z c ≤ 255) : bcseven_Ramp 600 (tab 4 a) (tab 4 z) = some (tab 64 (rampV a z), ()) ∧ ref09_Ramp 600 (tab 4 a) (tab 4 z) = some (tab 64 (rampV a z), ()) := by
  unfold bcseven_Ramp ref09_Ramp
  obtain ⟨h1, h2⟩ := Ramp_l0_all ha hz bcseven_DecodeT283 16 0 600 (by omega) (by omega)
  rw [upR_zero, ← zero64, show ((0 : Nat) : Int) = 0 from rfl] at h1 h2
  rw [h1, h2]
  exact ⟨rfl, rfl⟩

end Go.AE.Gn

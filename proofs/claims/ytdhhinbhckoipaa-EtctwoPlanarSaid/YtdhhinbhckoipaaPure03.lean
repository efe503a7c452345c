/- Layer 3, as far as the others need it: levels, the mean between two. -/
import Derived.Test.YtdhhinbhckoipaaA07defs
import Derived.Test.YtdhhinbhckoipaaPureLow
set_option linter.unusedSimpArgs false
set_option linter.unusedVariables false
namespace Go.AE.Gn
open Go Go.AE

/-- A level of b bits as a byte, by its bits. -/
def wideS (b v : Nat) : Int := (List.range 8).foldl (fun o i => 2 * o + (((v / 2 ^ (b - 1 - i % b) % 2 : Nat)) : Int)) 0

theorem wide_closed (n : Nat) : ((List.range 8).all fun b => (List.range (2 ^ (b + 1))).all fun v => level_Wide (n + 10) v ((b + 1 : Nat) : Int) == some (wideS (b + 1) v, ()) && ref03_Wide (n + 10) v ((b + 1 : Nat) : Int) == some (wideS (b + 1) v, ()) && (decide (0 ≤ wideS (b + 1) v) && decide (wideS (b + 1) v ≤ 255))) = true := by kernel_rfl

theorem wide_fact {F : Nat} (hF : 10 ≤ F) {b v : Nat} (hb : 1 ≤ b ∧ b ≤ 8) (hv : v < 2 ^ b) : level_Wide F v b = some (wideS b v, ()) ∧ ref03_Wide F v b = some (wideS b v, ()) ∧ 0 ≤ wideS b v ∧ wideS b v ≤ 255 := by
  obtain ⟨n, rfl⟩ : ∃ n, F = n + 10 := ⟨F - 10, by omega⟩
  obtain ⟨c, rfl⟩ : ∃ c, b = c + 1 := ⟨b - 1, by omega⟩
  have h1 := List.all_eq_true.1 (wide_closed n) c (by simp; omega)
  have h2 := List.all_eq_true.1 h1 v (by simpa using hv)
  simp only [Bool.and_eq_true, beq_iff_eq, decide_eq_true_eq] at h2
  exact ⟨h2.1.1, h2.1.2, h2.2⟩

/-- A level, told of any number. -/
def wideV (b : Nat) (x : Int) : Int := wideS b (x % 2 ^ b).toNat

theorem pow2_pos_nat (b : Nat) : 0 < 2 ^ b := Nat.pow_pos (by decide : 0 < 2)

theorem emod_nat {x : Int} {b : Nat} : ∃ v : Nat, x % 2 ^ b = v ∧ v < 2 ^ b ∧ (x % 2 ^ b).toNat = v := by
  have hp := powPos b
  have ep : ((2 ^ b : Nat) : Int) = (2 : Int) ^ b := Int.natCast_pow 2 b
  have h1 := Int.emod_nonneg x (Int.ne_of_gt hp)
  have h2 := Int.emod_lt_of_pos x hp
  obtain ⟨v, hv⟩ := Int.eq_ofNat_of_zero_le h1
  exact ⟨v, hv, by omega, by rw [hv]; rfl⟩

theorem wideV_bound {b : Nat} (hb : 1 ≤ b ∧ b ≤ 8) (x : Int) : 0 ≤ wideV b x ∧ wideV b x ≤ 255 := by
  obtain ⟨v, h1, h2, h3⟩ := emod_nat (x := x) (b := b)
  unfold wideV
  rw [h3]
  exact (wide_fact (Nat.le_refl _) hb h2).2.2

theorem ishl_one {b : Nat} (hb : b ≤ 62) : ishl .i64 1 (b : Int) = 2 ^ b := by
  have hp : (2 : Nat) ^ b ≤ 2 ^ 62 := Nat.pow_le_pow_right (by decide) hb
  have h62 : (2 : Nat) ^ 62 = 4611686018427387904 := by decide
  have ep : ((2 ^ b : Nat) : Int) = (2 : Int) ^ b := Int.natCast_pow 2 b
  unfold ishl
  have : min ((b : Int).toNat) (IntKind.bits .i64) = b := by
    show min ((b : Int).toNat) 64 = b
    simp
    omega
  rw [this, Int.one_mul]
  have hp0 := powPos b
  exact w64 (by omega) (by omega)

theorem Wide_is {F : Nat} (hF : 10 ≤ F) {b : Nat} (hb : 1 ≤ b ∧ b ≤ 8) (x : Int) : level_Wide F x b = some (wideV b x, ()) := by
  obtain ⟨v, h1, h2, h3⟩ := emod_nat (x := x) (b := b)
  have hpn : (2 : Nat) ^ b ≤ 2 ^ 8 := Nat.pow_le_pow_right (by decide) hb.2
  have ep : ((2 ^ b : Nat) : Int) = (2 : Int) ^ b := Int.natCast_pow 2 b
  have e : ∀ y : Int, y % 2 ^ b = v → level_Wide F y b = level_Wide F v b := by
    intro y hy
    unfold level_Wide
    have hm : ∀ z : Int, iand .i64 z (IntKind.wrap .i64 (ishl .i64 1 (b : Int) - 1)) = z % 2 ^ b := by
      intro z
      rw [ishl_one (by omega), w64 (by omega) (by omega), iand_mask (by omega)]
    rw [hm, hm, hy, Int.emod_eq_of_lt (by omega) (by omega)]
  rw [e x h1]
  unfold wideV
  rw [h3]
  exact (wide_fact hF hb h2).1

theorem rmod_is (F : Nat) {x m : Int} (hm : 0 < m ∧ m ≤ 1000000000) (hx : -9000000000000000000 ≤ x ∧ x ≤ 9000000000000000000) : ref03_mod F x m = some (x % m, ()) := by
  unfold ref03_mod
  have h0 : (!(m == (0 : Int))) = true := by simp; omega
  have h1 := Int.emod_nonneg x (show m ≠ 0 by omega)
  have h2 := Int.emod_lt_of_pos x hm.1
  rw [h0]
  simp only [cond_true]
  by_cases hn : x.tmod m < 0
  · have e : x.tmod m = x % m - m := by
      have hx0 : ¬ 0 ≤ x := fun h => by rw [tmod_nonneg h] at hn; omega
      have h3 := Int.tmod_add_mul_tdiv x m
      have h4 : -m < x.tmod m := by
        have := Int.tmod_lt_of_pos (-x) hm.1
        rw [Int.neg_tmod] at this
        omega
      have h5 : (x.tmod m + m) % m = x % m := by
        rw [Int.add_emod_right]
        conv => rhs; rw [← h3]
        rw [Int.add_mul_emod_self_left]
      rw [Int.emod_eq_of_lt (by omega) (by omega)] at h5
      omega
    simp only [hn, decide_true, cond_true]
    rw [e, w64 (by omega) (by omega)]
    congr 2
    omega
  · have e : x.tmod m = x % m := by
      by_cases hx0 : 0 ≤ x
      · exact tmod_nonneg hx0
      · have h3 := Int.tmod_add_mul_tdiv x m
        have h4 : x.tmod m ≤ 0 := by
          have := Int.tmod_nonneg m (show 0 ≤ -x by omega)
          rw [Int.neg_tmod] at this
          omega
        have h5 : x.tmod m = 0 := by omega
        rw [h5] at h3 ⊢
        rw [← h3]
        simp
    simp only [hn, decide_false, cond_false]
    rw [e]

theorem rpower_closed (n : Nat) : ((List.range 9).all fun b => ref03_power (n + 10) b == some (2 ^ b, ())) = true := by kernel_rfl
theorem rpower_is {F : Nat} (hF : 10 ≤ F) {b : Nat} (hb : b ≤ 8) : ref03_power F b = some (2 ^ b, ()) := by
  obtain ⟨n, rfl⟩ : ∃ n, F = n + 10 := ⟨F - 10, by omega⟩
  have := List.all_eq_true.1 (rpower_closed n) b (by simp; omega)
  simpa using this

theorem rWide_is {F : Nat} (hF : 10 ≤ F) {b : Nat} (hb : 1 ≤ b ∧ b ≤ 8) {x : Int} (hx : -9000000000000000000 ≤ x ∧ x ≤ 9000000000000000000) : ref03_Wide F x b = some (wideV b x, ()) := by
  obtain ⟨v, h1, h2, h3⟩ := emod_nat (x := x) (b := b)
  have hpn : (2 : Nat) ^ b ≤ 2 ^ 8 := Nat.pow_le_pow_right (by decide) hb.2
  have ep : ((2 ^ b : Nat) : Int) = (2 : Int) ^ b := Int.natCast_pow 2 b
  have hp := powPos b
  have e : ref03_Wide F x b = ref03_Wide F v b := by
    unfold ref03_Wide
    rw [rpower_is hF hb.2]
    simp only [Option.bind_some]
    rw [rmod_is F ⟨hp, by omega⟩ hx, rmod_is F ⟨hp, by omega⟩ ⟨by omega, by omega⟩, h1, Int.emod_eq_of_lt (by omega) (by omega)]
  rw [e]
  unfold wideV
  rw [h3]
  exact (wide_fact hF hb h2).2.1

/-- What stands between two. -/
def mixV (a b k o add : Int) : Int := (a * (o - k) + b * k + add) / o

theorem tdiv_floor {x m : Int} (hm : 0 < m) : x.tdiv m = if x.tmod m < 0 then x / m + 1 else x / m := by
  have h3 := Int.tmod_add_mul_tdiv x m
  have h6 := Int.emod_add_mul_ediv x m
  have h1 := Int.emod_nonneg x (show m ≠ 0 by omega)
  have h2 := Int.emod_lt_of_pos x hm
  have h4 : -m < x.tmod m := by
    have := Int.tmod_lt_of_pos (-x) hm
    rw [Int.neg_tmod] at this
    omega
  have h5 := Int.tmod_lt_of_pos x hm
  split
  · rename_i hn
    have h7 : m * (x.tdiv m - (x / m + 1)) = x % m - m - x.tmod m := by rw [Int.mul_sub, Int.mul_add]; omega
    have h8 : -1 < x.tdiv m - (x / m + 1) ∧ x.tdiv m - (x / m + 1) < 1 := by
      constructor
      · apply Classical.byContradiction
        intro hc
        have : m * (x.tdiv m - (x / m + 1)) ≤ m * (-1) := Int.mul_le_mul_of_nonneg_left (by omega) (by omega)
        omega
      · apply Classical.byContradiction
        intro hc
        have : m * 1 ≤ m * (x.tdiv m - (x / m + 1)) := Int.mul_le_mul_of_nonneg_left (by omega) (by omega)
        omega
    omega
  · rename_i hn
    have h7 : m * (x.tdiv m - x / m) = x % m - x.tmod m := by rw [Int.mul_sub]; omega
    have h8 : -1 < x.tdiv m - x / m ∧ x.tdiv m - x / m < 1 := by
      constructor
      · apply Classical.byContradiction
        intro hc
        have : m * (x.tdiv m - x / m) ≤ m * (-1) := Int.mul_le_mul_of_nonneg_left (by omega) (by omega)
        omega
      · apply Classical.byContradiction
        intro hc
        have : m * 1 ≤ m * (x.tdiv m - x / m) := Int.mul_le_mul_of_nonneg_left (by omega) (by omega)
        omega
    omega

theorem Mix_is (F : Nat) {a b k o add : Int} (ha : -4096 ≤ a ∧ a ≤ 4096) (hb : -4096 ≤ b ∧ b ≤ 4096) (hk : 0 ≤ k ∧ k ≤ 4096) (ho : 1 ≤ o ∧ o ≤ 4096) (hko : 0 ≤ o - k) (hadd : -4096 ≤ add ∧ add ≤ 4096) :
    level_Mix F a b k o add = some (mixV a b k o add, ()) ∧ ref03_Mix F a b k o add = some (mixV a b k o add, ()) ∧ -100000000 ≤ mixV a b k o add ∧ mixV a b k o add ≤ 100000000 := by
  have m1 := mulB' (c := 4096) (d := 4096) ha ⟨hko, by omega⟩ (by decide)
  have m2 := mulB' (c := 4096) (d := 4096) hb hk (by decide)
  have e1 : IntKind.wrap .i64 (o - k) = o - k := w64 (by omega) (by omega)
  have e2 : IntKind.wrap .i64 (a * (o - k)) = a * (o - k) := w64 (by omega) (by omega)
  have e3 : IntKind.wrap .i64 (b * k) = b * k := w64 (by omega) (by omega)
  have e4 : IntKind.wrap .i64 (a * (o - k) + b * k) = a * (o - k) + b * k := w64 (by omega) (by omega)
  have e5 : IntKind.wrap .i64 (a * (o - k) + b * k + add) = a * (o - k) + b * k + add := w64 (by omega) (by omega)
  have hno : (!(o == (0 : Int))) = true := by simp; omega
  have h1 : ¬ o < 1 := by omega
  unfold level_Mix ref03_Mix mixV
  simp only [h1, decide_false, cond_false, e1, e2, e3, e4, e5, hno, cond_true]
  generalize hx : a * (o - k) + b * k + add = x at *
  have hxb : -40000000 ≤ x ∧ x ≤ 40000000 := by omega
  have hdiv : -40000001 ≤ x / o ∧ x / o ≤ 40000000 := by
    have h6 := Int.emod_add_mul_ediv x o
    have h7 := Int.emod_nonneg x (show o ≠ 0 by omega)
    have h8 := Int.emod_lt_of_pos x (show 0 < o by omega)
    constructor
    · apply Classical.byContradiction
      intro hc
      have : o * (x / o) ≤ o * (-40000002) := Int.mul_le_mul_of_nonneg_left (by omega) (by omega)
      omega
    · apply Classical.byContradiction
      intro hc
      have : o * 40000001 ≤ o * (x / o) := Int.mul_le_mul_of_nonneg_left (by omega) (by omega)
      omega
  have htd := tdiv_floor (x := x) (m := o) (by omega)
  refine ⟨?_, ?_, by omega, by omega⟩
  · by_cases hn : x.tmod o < 0
    · rw [if_pos hn] at htd
      rw [htd, w64 (x := x / o + 1) (by omega) (by omega), w64 (x := x / o + 1 - 1) (by omega) (by omega)]
      simp [hn]
    · rw [if_neg hn] at htd
      rw [htd, w64 (x := x / o) (by omega) (by omega)]
      simp [hn]
  · rw [rmod_is F ⟨by omega, by omega⟩ ⟨by omega, by omega⟩]
    have h6 := Int.emod_add_mul_ediv x o
    have h7 := Int.emod_nonneg x (show o ≠ 0 by omega)
    have h8 := Int.emod_lt_of_pos x (show 0 < o by omega)
    have e6 : x - x % o = o * (x / o) := by omega
    simp only [Option.bind_some]
    rw [w64 (x := x - x % o) (by omega) (by omega), e6, Int.mul_tdiv_cancel_left _ (show o ≠ 0 by omega), w64 (by omega) (by omega)]

end Go.AE.Gn

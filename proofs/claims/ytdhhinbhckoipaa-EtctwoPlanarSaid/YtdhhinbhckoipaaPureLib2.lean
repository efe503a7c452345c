/- Plain lemmas for all layers, part 2: shifts, parts of lists, numbers within bounds. -/
import Derived.Test.YtdhhinbhckoipaaPureLow
set_option linter.unusedSimpArgs false
set_option linter.unusedVariables false
namespace Go.AE.Gn
open Go Go.AE

theorem ishr64' {x : Int} {k : Nat} (hk : k ≤ 63) : ishr .i64 x (k : Int) = x / 2 ^ k := by
  unfold ishr
  have : min ((k : Int).toNat) (IntKind.bits .i64) = k := by
    show min ((k : Int).toNat) 64 = k
    simp
    omega
  rw [this, Int.fdiv_eq_ediv_of_nonneg _ (Int.le_of_lt (powPos k))]

theorem chunk_get (P l Q : List Int) {n j : Nat} (hn : P.length = n) (hj : j < l.length) : (P ++ l ++ Q).getD (n + j) 0 = l.getD j 0 := by
  subst hn
  simp only [List.getD_eq_getElem?_getD]
  rw [List.getElem?_append_left (by simp; omega), List.getElem?_append_right (by omega), Nat.add_sub_cancel_left]
theorem chunk_set (P l Q : List Int) {n j : Nat} (hn : P.length = n) (hj : j < l.length) (v : Int) : (P ++ l ++ Q).set (n + j) v = P ++ l.set j v ++ Q := by
  subst hn
  rw [List.set_append_left _ _ (by simp; omega), List.set_append_right _ _ (by omega), Nat.add_sub_cancel_left]

/-- What is left of a division, whatever the sign. -/
theorem tmod_fix {x m : Int} (hm : 0 < m) : (if x.tmod m < 0 then x.tmod m + m else x.tmod m) = x % m := by
  have h3 := Int.tmod_add_mul_tdiv x m
  have h1 := Int.emod_nonneg x (show m ≠ 0 by omega)
  have h2 := Int.emod_lt_of_pos x hm
  have h6 := Int.emod_add_mul_ediv x m
  have h4 : -m < x.tmod m := by
    have := Int.tmod_lt_of_pos (-x) hm
    rw [Int.neg_tmod] at this
    omega
  have h5 := Int.tmod_lt_of_pos x hm
  split
  · rename_i hn
    have h5 : (x.tmod m + m) % m = x % m := by
      rw [Int.add_emod_right]
      conv => rhs; rw [← h3]
      rw [Int.add_mul_emod_self_left]
    rw [Int.emod_eq_of_lt (by omega) (by omega)] at h5
    exact h5
  · rename_i hn
    have h7 : x.tmod m % m = x % m := by
      conv => rhs; rw [← h3]
      rw [Int.add_mul_emod_self_left]
    rw [Int.emod_eq_of_lt (by omega) (by omega)] at h7
    exact h7

/-- A part of a list that is laid by parts. -/
theorem flatMap_part {m : Nat} (f : Nat → List Int) : ∀ {N i : Nat}, (∀ i, i < N → (f i).length = m) → i < N → (((List.range N).flatMap f).drop (i * m)).take m = f i
  | 0, i, _, h => by omega
  | N + 1, i, hf, h => by
    have hlen : ∀ M, M ≤ N + 1 → ((List.range M).flatMap f).length = M * m := by
      intro M
      induction M with
      | zero => intro _; simp
      | succ M ih =>
        intro hM
        rw [List.range_succ, List.flatMap_append, List.length_append, ih (by omega), Nat.add_mul]
        simp [hf M (by omega)]
    rw [List.range_succ, List.flatMap_append]
    have hl := hlen N (by omega)
    by_cases hi : i < N
    · have him : (i + 1) * m ≤ N * m := Nat.mul_le_mul_right m (by omega)
      rw [Nat.add_mul, Nat.one_mul] at him
      rw [List.drop_append_of_le_length (by omega), List.take_append_of_le_length (by rw [List.length_drop, hl]; omega)]
      exact flatMap_part f (fun i h => hf i (by omega)) hi
    · have : i = N := by omega
      subst this
      rw [List.drop_append, List.drop_of_length_le (by omega), List.nil_append, hl, Nat.sub_self]
      simp [← hf i (by omega)]

theorem flatMap_len {m : Nat} (f : Nat → List Int) {N : Nat} (hf : ∀ i, i < N → (f i).length = m) : ((List.range N).flatMap f).length = N * m := by
  induction N with
  | zero => simp
  | succ M ih =>
    rw [List.range_succ, List.flatMap_append, List.length_append, ih (fun i h => hf i (by omega)), Nat.add_mul]
    simp [hf M (by omega)]

def clampV (x : Int) : Int := max 0 (min x 255)
theorem clampV_bound (x : Int) : 0 ≤ clampV x ∧ clampV x ≤ 255 := by unfold clampV; omega

end Go.AE.Gn

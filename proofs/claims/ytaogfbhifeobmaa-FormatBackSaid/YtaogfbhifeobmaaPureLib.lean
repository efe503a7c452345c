/- Plain lemmas for all layers: integers of a kind, bits, sums. -/
import Derived.Test.YtaogfbhifeobmaaFw21
import Derived.KernelRfl
set_option linter.unusedSimpArgs false
set_option linter.unusedVariables false
namespace Go.AE.Gn
open Go Go.AE

theorem w64 {x : Int} (h1 : -9223372036854775808 ≤ x) (h2 : x ≤ 9223372036854775807) : IntKind.wrap .i64 x = x := wrap_id (has_iff.2 ⟨h1, h2⟩)
theorem wu64 {x : Int} (h1 : 0 ≤ x) (h2 : x ≤ 18446744073709551615) : IntKind.wrap .u64 x = x := wrap_id (has_iff.2 ⟨h1, h2⟩)
theorem wu32 {x : Int} (h1 : 0 ≤ x) (h2 : x ≤ 4294967295) : IntKind.wrap .u32 x = x := wrap_id (has_iff.2 ⟨h1, h2⟩)
theorem wu16 {x : Int} (h1 : 0 ≤ x) (h2 : x ≤ 65535) : IntKind.wrap .u16 x = x := wrap_id (has_iff.2 ⟨h1, h2⟩)
theorem wu8 {x : Int} (h1 : 0 ≤ x) (h2 : x ≤ 255) : IntKind.wrap .u8 x = x := wrap_id (has_iff.2 ⟨h1, h2⟩)

theorem has64 {x : Int} (h : (Lit.int .i64 x).wf = true) : -9223372036854775808 ≤ x ∧ x ≤ 9223372036854775807 := has_iff.1 (has_wf h)
theorem hasu64 {x : Int} (h : (Lit.int .u64 x).wf = true) : 0 ≤ x ∧ x ≤ 18446744073709551615 := has_iff.1 (has_wf h)

theorem beqF {a b : Int} (h : a ≠ b) : (a == b) = false := by simpa using h
theorem bneT {a b : Int} (h : a ≠ b) : (a != b) = true := by simpa using h

/-- The integers of bytes. -/
def Bytes (b : List Int) : Prop := ∀ x ∈ b, 0 ≤ x ∧ x ≤ 255

theorem Bytes.getD {b : List Int} (h : Bytes b) (i : Nat) : 0 ≤ b.getD i 0 ∧ b.getD i 0 ≤ 255 := by
  rw [List.getD_eq_getElem?_getD]
  by_cases hi : i < b.length
  · rw [List.getElem?_eq_getElem hi]
    exact h _ (List.getElem_mem hi)
  · rw [List.getElem?_eq_none (by omega)]
    simp

theorem Bytes.set {b : List Int} (h : Bytes b) {i : Nat} {v : Int} (hv : 0 ≤ v ∧ v ≤ 255) : Bytes (b.set i v) := by
  intro x hx
  rcases List.mem_or_eq_of_mem_set hx with hx | rfl
  · exact h x hx
  · exact hv

theorem getD_set (b : List Int) (i j : Nat) (v : Int) (hi : i < b.length) : (b.set i v).getD j 0 = if i = j then v else b.getD j 0 := by
  simp only [List.getD_eq_getElem?_getD, List.getElem?_set]
  split
  · rename_i h
    simp [hi]
  · rfl

theorem pow63 {k : Nat} (hk : k ≤ 63) : (2 : Int) ^ k ≤ 9223372036854775808 := by
  have h : (2 : Nat) ^ k ≤ 9223372036854775808 := Nat.le_trans (Nat.pow_le_pow_right (by decide) hk) (by decide)
  have e : ((2 ^ k : Nat) : Int) = (2 : Int) ^ k := Int.natCast_pow 2 k
  omega
theorem powPos (k : Nat) : (0 : Int) < 2 ^ k := Int.pow_pos (by decide)

/-! ### sums of bits -/

def sumLo (f : Nat → Int) : Nat → Int
  | 0 => 0
  | n + 1 => sumLo f n + f n * 2 ^ n
def sumHi (f : Nat → Int) : Nat → Int
  | 0 => 0
  | n + 1 => 2 * sumHi f n + f n

def Bit (f : Nat → Int) (n : Nat) : Prop := ∀ i, i < n → f i = 0 ∨ f i = 1

theorem sumLo_congr {f g : Nat → Int} : ∀ {n : Nat}, (∀ i, i < n → f i = g i) → sumLo f n = sumLo g n
  | 0, _ => rfl
  | n + 1, h => by rw [sumLo, sumLo, sumLo_congr fun i hi => h i (by omega), h n (by omega)]
theorem sumHi_congr {f g : Nat → Int} : ∀ {n : Nat}, (∀ i, i < n → f i = g i) → sumHi f n = sumHi g n
  | 0, _ => rfl
  | n + 1, h => by rw [sumHi, sumHi, sumHi_congr fun i hi => h i (by omega), h n (by omega)]

theorem sumLo_bound {f : Nat → Int} : ∀ {n : Nat}, Bit f n → 0 ≤ sumLo f n ∧ sumLo f n < 2 ^ n
  | 0, _ => ⟨Int.le_refl _, by simp [sumLo]⟩
  | n + 1, h => by
    obtain ⟨h1, h2⟩ := sumLo_bound (n := n) fun i hi => h i (by omega)
    rw [sumLo, Int.pow_succ]
    rcases h n (by omega) with e | e <;> rw [e] <;> omega
theorem sumHi_bound {f : Nat → Int} : ∀ {n : Nat}, Bit f n → 0 ≤ sumHi f n ∧ sumHi f n < 2 ^ n
  | 0, _ => ⟨Int.le_refl _, by simp [sumHi]⟩
  | n + 1, h => by
    obtain ⟨h1, h2⟩ := sumHi_bound (n := n) fun i hi => h i (by omega)
    rw [sumHi, Int.pow_succ]
    rcases h n (by omega) with e | e <;> rw [e] <;> omega

theorem sumLo_shift (f : Nat → Int) : ∀ n, sumLo f (n + 1) = f 0 + 2 * sumLo (fun i => f (i + 1)) n
  | 0 => by simp [sumLo]
  | n + 1 => by
    rw [sumLo, sumLo_shift f n, sumLo, Int.pow_succ, Int.mul_add, ← Int.mul_assoc, ← Int.mul_assoc, Int.mul_comm (f (n + 1)) (2 ^ n), Int.mul_comm 2 (f (n + 1)), Int.mul_comm (2 ^ n) (f (n + 1))]
    have : f (n + 1) * 2 ^ n * 2 = f (n + 1) * 2 * 2 ^ n := by rw [Int.mul_assoc, Int.mul_assoc, Int.mul_comm (2 ^ n) 2]
    omega

theorem sumHi_rev (f : Nat → Int) (n : Nat) : sumHi (fun j => f (n - 1 - j)) n = sumLo f n := by
  induction n generalizing f with
  | zero => rfl
  | succ n ih =>
    rw [sumHi, sumLo_shift, ← ih (fun i => f (i + 1))]
    have : sumHi (fun j => f (n + 1 - 1 - j)) n = sumHi (fun j => f (n - 1 - j + 1)) n := sumHi_congr fun i hi => by
      congr 1
      omega
    rw [this]
    simp only [Nat.add_sub_cancel, Nat.sub_self]
    omega

/-- The bits of a number, and back. -/
theorem sumLo_bits (x : Int) (hx : 0 ≤ x) : ∀ n : Nat, sumLo (fun i => x / 2 ^ i % 2) n = x % 2 ^ n
  | 0 => by simp [sumLo]
  | n + 1 => by
    rw [sumLo, sumLo_bits x hx n, Int.pow_succ]
    have hp : (0 : Int) < 2 ^ n := Int.pow_pos (by decide)
    have h1 := Int.emod_add_mul_ediv x (2 ^ n)
    have h2 := Int.emod_add_mul_ediv (x / 2 ^ n) 2
    have h3 : x = x % 2 ^ n + 2 ^ n * (x / 2 ^ n % 2) + (2 ^ n * 2) * (x / 2 ^ n / 2) := by
      rw [Int.mul_assoc, Int.add_assoc, ← Int.mul_add, h2, h1]
    have h4 := Int.emod_nonneg x (Int.ne_of_gt hp)
    have h5 := Int.emod_lt_of_pos x hp
    have h6 : 0 ≤ x / 2 ^ n % 2 ∧ x / 2 ^ n % 2 ≤ 1 := by omega
    have h7 : 0 ≤ 2 ^ n * (x / 2 ^ n % 2) ∧ 2 ^ n * (x / 2 ^ n % 2) ≤ 2 ^ n := by
      rcases (show x / 2 ^ n % 2 = 0 ∨ x / 2 ^ n % 2 = 1 by omega) with e | e <;> rw [e] <;> omega
    have h8 : x % (2 ^ n * 2) = x % 2 ^ n + 2 ^ n * (x / 2 ^ n % 2) := by
      conv => lhs; rw [h3]
      rw [Int.add_mul_emod_self_left]
      apply Int.emod_eq_of_lt
      · omega
      · rcases (show x / 2 ^ n % 2 = 0 ∨ x / 2 ^ n % 2 = 1 by omega) with e | e <;> rw [e] <;> omega
    rw [h8, Int.mul_comm (x / 2 ^ n % 2)]

theorem tdiv_nonneg {x y : Int} (h : 0 ≤ x) : x.tdiv y = x / y := Int.tdiv_eq_ediv_of_nonneg h
theorem tmod_nonneg {x y : Int} (h : 0 ≤ x) : x.tmod y = x % y := Int.tmod_eq_emod_of_nonneg h

end Go.AE.Gn

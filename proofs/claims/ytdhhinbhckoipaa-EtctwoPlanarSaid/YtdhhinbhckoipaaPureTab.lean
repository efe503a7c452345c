/- Lists by a function of the place; rows of such lists; loops that fill them. -/
import Derived.Test.YtdhhinbhckoipaaPureBits
import Derived.Test.YtdhhinbhckoipaaPureLow
set_option linter.unusedSimpArgs false
set_option linter.unusedVariables false
namespace Go.AE.Gn
open Go Go.AE

/-! ### lists by a function -/

def tab (N : Nat) (g : Nat → Int) : List Int := (List.range N).map g
theorem tab_len (N : Nat) (g : Nat → Int) : (tab N g).length = N := by simp [tab]
theorem tab_get {N i : Nat} {g : Nat → Int} (h : i < N) : (tab N g).getD i 0 = g i := getD_range_map g h
theorem tab_congr {N : Nat} {g f : Nat → Int} (h : ∀ i, i < N → g i = f i) : tab N g = tab N f := by
  unfold tab
  exact List.map_congr_left fun i hi => h i (by simpa using hi)
theorem tab_set {N k : Nat} {g : Nat → Int} {v : Int} : (tab N g).set k v = tab N (fun j => if j = k then v else g j) := by
  apply List.ext_getElem
  · simp [tab]
  · intro i h1 h2
    simp only [tab, List.getElem_set, List.getElem_map, List.getElem_range]
    by_cases h : k = i
    · simp [h]
    · have : ¬ i = k := fun e => h e.symm
      simp [h, this]
theorem tab_rep (N : Nat) : List.replicate N (0 : Int) = tab N fun _ => 0 := by
  unfold tab
  rw [List.map_const']
  simp
theorem tab_part {N i m : Nat} {g : Nat → Int} (h : i * m + m ≤ N) : List.take m (List.drop (i * m) (tab N g)) = tab m fun c => g (i * m + c) := by
  apply List.ext_getElem
  · simp [tab]
    omega
  · intro j h1 h2
    simp [tab]
theorem tab_all {N : Nat} {l : List Int} (h : l.length = N) : l = tab N fun i => l.getD i 0 := by
  apply List.ext_getElem
  · simp [tab, h]
  · intro i h1 h2
    simp [tab, List.getD_eq_getElem?_getD, h1]

theorem mulS {i E n : Nat} (h : i < E) : (i + 1) * n ≤ E * n := Nat.mul_le_mul_right _ (by omega)

def upT (i : Nat) (g : Nat → Int) (j : Nat) : Int := if j < i then g j else 0
theorem upT_set {N i : Nat} (g : Nat → Int) : (tab N (upT i g)).set i (g i) = tab N (upT (i + 1) g) := by
  rw [tab_set]
  refine tab_congr fun j hj => ?_
  unfold upT
  by_cases h : j = i
  · rw [if_pos h, if_pos (by omega), h]
  · rw [if_neg h]
    by_cases h2 : j < i
    · rw [if_pos h2, if_pos (by omega)]
    · rw [if_neg h2, if_neg (by omega)]
theorem upT_all {N : Nat} (g : Nat → Int) : tab N (upT N g) = tab N g := tab_congr fun j hj => if_pos hj
theorem upT_zero {N : Nat} (g : Nat → Int) : tab N (upT 0 g) = tab N fun _ => 0 := tab_congr fun j hj => if_neg (by omega)

theorem mul4 (i c : Nat) (h : c < 4) : (i * 4 + c) / 4 = i ∧ (i * 4 + c) % 4 = c := by omega

theorem beqT {a b : Int} (h : a = b) : (a == b) = true := by simpa using h

theorem tab_row {N i : Nat} {g h : Nat → Int} (hN : i * 4 + 4 ≤ N) : (List.take (i * 4) (tab N g) ++ tab 4 h) ++ List.drop (i * 4 + 4) (tab N g) = tab N fun j => if j / 4 = i then h (j % 4) else g j := by
  apply List.ext_getElem
  · simp [tab]
    omega
  · intro j h1 h2
    have hj : j < N := by simpa [tab] using h2
    have l1 : (List.take (i * 4) (tab N g)).length = i * 4 := by simp [tab]; omega
    have l2 : (tab 4 h).length = 4 := tab_len _ _
    simp only [List.getElem_append, List.length_append, l1, l2]
    by_cases c1 : j < i * 4 + 4
    · rw [dif_pos c1]
      by_cases c2 : j < i * 4
      · rw [dif_pos c2]
        simp only [tab, List.getElem_take, List.getElem_map, List.getElem_range]
        rw [if_neg (by omega)]
      · rw [dif_neg c2]
        simp only [tab, List.getElem_map, List.getElem_range]
        rw [if_pos (by omega)]
        congr 1
        omega
    · rw [dif_neg c1]
      simp only [tab, List.getElem_drop, List.getElem_map, List.getElem_range]
      rw [if_neg (by omega)]
      congr 1
      omega

/-- A list that is filled up to a row and a place in it. -/
def upR (i c : Nat) (g : Nat → Int) (j : Nat) : Int := if j < i * 4 + c then g j else 0
theorem upR_set {N i c : Nat} (g : Nat → Int) : (tab N (upR i c g)).set (i * 4 + c) (g (i * 4 + c)) = tab N (upR i (c + 1) g) := by
  rw [tab_set]
  refine tab_congr fun j hj => ?_
  unfold upR
  by_cases h : j = i * 4 + c
  · rw [if_pos h, if_pos (by omega), h]
  · rw [if_neg h]
    by_cases h2 : j < i * 4 + c
    · rw [if_pos h2, if_pos (by omega)]
    · rw [if_neg h2, if_neg (by omega)]
theorem upR_next {N i : Nat} (g : Nat → Int) : tab N (upR i 4 g) = tab N (upR (i + 1) 0 g) := tab_congr fun j hj => by
  unfold upR
  by_cases h : j < i * 4 + 4
  · rw [if_pos h, if_pos (by omega)]
  · rw [if_neg h, if_neg (by omega)]
theorem upR_zero {N : Nat} (g : Nat → Int) : tab N (upR 0 0 g) = tab N fun _ => 0 := tab_congr fun j hj => if_neg (by omega)
theorem upR_all {N i : Nat} (g : Nat → Int) (h : N ≤ i * 4) : tab N (upR i 0 g) = tab N g := tab_congr fun j hj => if_pos (by omega)

theorem tab_row_of {l : List Int} {N i : Nat} (hl : l.length = N) (h : i * 4 + 4 ≤ N) : List.take 4 (List.drop (i * 4) l) = tab 4 fun c => l.getD (i * 4 + c) 0 := by
  conv => lhs; rw [tab_all hl]
  exact tab_part h
theorem tab_eq {N : Nat} {g f : Nat → Int} (h : tab N g = tab N f) {i : Nat} (hi : i < N) : g i = f i := by
  rw [← tab_get (g := g) hi, h, tab_get hi]

end Go.AE.Gn

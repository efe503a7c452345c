/- Layer 9: bcseven. The fields of a block, read by the program. -/
import Derived.Test.YtdhhinbhckoipaaC09defs
import Derived.Test.YtdhhinbhckoipaaPure03
import Derived.Test.YtdhhinbhckoipaaPureLow
import Derived.Test.YtdhhinbhckoipaaPureLib2
set_option linter.unusedVariables false
set_option linter.unusedSimpArgs false
namespace Go.AE.Gn
open Go Go.AE

/-! ### lists by a function -/

def tab (N : Nat) (g : Nat → Int) : List Int := (List.range N).map g
theorem tab_len (N : Nat) (g : Nat → Int) : (tab N g).length = N := by simp [tab]
theorem tab_get {N i : Nat} {g : Nat → Int} (h : i < N) : (tab N g).getD i 0 = g i := getD_range_map g h
theorem tab_congr {N : Nat} {g f : Nat → Int} (h : ∀ i, i < N → g i = f i) : tab N g = tab N f := by
  unfold tab
  exact List.map_congr_left fun i hi => h i (by simpa using hi)
theorem tab_set {N k : Nat} {g : Nat → Int} {v : Int} : (tab N g).set k v = tab N (fun j => if j = k then v else g j) := by
  apply List.ext_getElem
  · simp [tab]
  · intro i h1 h2
    simp only [tab, List.getElem_set, List.getElem_map, List.getElem_range]
    by_cases h : k = i
    · simp [h]
    · have : ¬ i = k := fun e => h e.symm
      simp [h, this]
theorem tab_rep (N : Nat) : List.replicate N (0 : Int) = tab N fun _ => 0 := by
  unfold tab
  rw [List.map_const']
  simp
theorem tab_part {N i m : Nat} {g : Nat → Int} (h : i * m + m ≤ N) : List.take m (List.drop (i * m) (tab N g)) = tab m fun c => g (i * m + c) := by
  apply List.ext_getElem
  · simp [tab]
    omega
  · intro j h1 h2
    simp [tab]
theorem tab_all {N : Nat} {l : List Int} (h : l.length = N) : l = tab N fun i => l.getD i 0 := by
  apply List.ext_getElem
  · simp [tab, h]
  · intro i h1 h2
    simp [tab, List.getD_eq_getElem?_getD, h1]

/-! ### a mode's numbers -/

structure BM where
  P : Nat
  W : Nat
  T : Nat
  H : Nat
  C : Nat
  A : Nat
  e : Nat
  o : Nat
  f : Nat
  s : Nat
  base : Nat

def bmOf (k : Nat) : BM :=
  let g := fun i => (bctable_ModesT298.getD (k * 10 + i) 0).toNat
  ⟨g 0, g 1, g 2, g 3, g 4, g 5, g 6, g 7, g 8, g 9, k + 1⟩

structure BM.Ok (m : BM) : Prop where
  P1 : 1 ≤ m.P
  P3 : m.P ≤ 3
  W6 : m.W ≤ 6
  T2 : m.T ≤ 2
  H1 : m.H ≤ 1
  C1 : 1 ≤ m.C
  C7 : m.C ≤ 7
  A8 : m.A ≤ 8
  e1 : m.e ≤ 1
  o1 : m.o ≤ 1
  eo : m.e + m.o ≤ 1
  Ce : m.C + m.e + m.o ≤ 8
  Ae : m.A + m.e + m.o ≤ 8
  f2 : 2 ≤ m.f
  f4 : m.f ≤ 4
  s3 : m.s ≤ 3
  s0 : m.s = 0 ∨ 2 ≤ m.s
  Hs : m.s = 0 → m.H = 0
  b8 : m.base ≤ 8
  all : m.base + m.W + m.T + m.H + 6 * m.P * m.C + 2 * m.P * m.A + 2 * m.P * m.e + m.P * m.o + (16 * m.f - m.P) + (if m.s = 0 then 0 else 16 * m.s - 1) ≤ 128

def BM.okB (m : BM) : Bool := decide (1 ≤ m.P) && (decide (m.P ≤ 3) && (decide (m.W ≤ 6) && (decide (m.T ≤ 2) && (decide (m.H ≤ 1) && (decide (1 ≤ m.C) && (decide (m.C ≤ 7) && (decide (m.A ≤ 8) && (decide (m.e ≤ 1) && (decide (m.o ≤ 1) && (decide (m.e + m.o ≤ 1) && (decide (m.C + m.e + m.o ≤ 8) && (decide (m.A + m.e + m.o ≤ 8) && (decide (2 ≤ m.f) && (decide (m.f ≤ 4) && (decide (m.s ≤ 3) && (decide (m.s = 0 ∨ 2 ≤ m.s) && (decide (m.s = 0 → m.H = 0) && (decide (m.base ≤ 8) && decide (m.base + m.W + m.T + m.H + 6 * m.P * m.C + 2 * m.P * m.A + 2 * m.P * m.e + m.P * m.o + (16 * m.f - m.P) + (if m.s = 0 then 0 else 16 * m.s - 1) ≤ 128)))))))))))))))))))

theorem BM.okB_ok {m : BM} (h : m.okB = true) : m.Ok := by
  simp only [BM.okB, Bool.and_eq_true, decide_eq_true_eq] at h
  obtain ⟨h1, h2, h3, h4, h5, h6, h7, h8, h9, h10, h11, h12, h13, h14, h15, h16, h17, h18, h19, h20⟩ := h
  exact ⟨h1, h2, h3, h4, h5, h6, h7, h8, h9, h10, h11, h12, h13, h14, h15, h16, h17, h18, h19, h20⟩

theorem bm_closed : ((List.range 8).all fun k => (bmOf k).okB) = true := by decide +kernel
theorem bm_ok {k : Nat} (h : k < 8) : (bmOf k).Ok := BM.okB_ok (List.all_eq_true.1 bm_closed k (by simpa using h))

def bmRow (m : BM) : List Int := [m.P, m.W, m.T, m.H, m.C, m.A, m.e, m.o, m.f, m.s]
theorem row_closed : ((List.range 8).all fun k => List.take 10 (List.drop (k * 10) bctable_ModesT298) == bmRow (bmOf k)) = true := by decide +kernel
theorem row_is {k : Nat} (h : k < 8) : List.take 10 (List.drop (k * 10) bctable_ModesT298) = bmRow (bmOf k) := by
  simpa using List.all_eq_true.1 row_closed k (by simpa using h)

/-! ### parts and anchors -/

def numOf (x : Option (Int × Unit)) : Int := match x with
  | some (n, _) => n
  | none => 0
def partV (P : Nat) (w i : Nat) : Nat := (numOf (ref08_Part 600 P w i)).toNat
def anchV (P : Nat) (w p : Nat) : Nat := (numOf (ref08_Anchor 600 P w p)).toNat

theorem part9_closed : ((List.range 3).all fun p => (List.range 64).all fun w => (List.range 16).all fun i =>
    (bctable_Part 600 ((p + 1 : Nat) : Int) w i == some ((partV (p + 1) w i : Int), ())) && ((ref08_Part 600 ((p + 1 : Nat) : Int) w i == some ((partV (p + 1) w i : Int), ())) && decide (partV (p + 1) w i < p + 1))) = true := by kernel_rfl
theorem part9 {P w i : Nat} (h1 : 1 ≤ P) (h3 : P ≤ 3) (hw : w < 64) (hi : i < 16) :
    bctable_Part 600 P w i = some ((partV P w i : Int), ()) ∧ ref08_Part 600 P w i = some ((partV P w i : Int), ()) ∧ partV P w i < P := by
  obtain ⟨p, rfl⟩ : ∃ p, P = p + 1 := ⟨P - 1, by omega⟩
  have := List.all_eq_true.1 (List.all_eq_true.1 (List.all_eq_true.1 part9_closed p (by simp; omega)) w (by simpa using hw)) i (by simpa using hi)
  simpa using this

theorem anch9_closed : ((List.range 4).all fun P => (List.range P).all fun p => decide (p = 0) || (List.range 64).all fun w =>
    (bctable_Anchor 600 (P : Int) w p == some ((anchV P w p : Int), ())) && (ref08_Anchor 600 (P : Int) w p == some ((anchV P w p : Int), ()))) = true := by kernel_rfl
theorem anch9 {P w p : Nat} (h3 : P ≤ 3) (hw : w < 64) (hp : 1 ≤ p) (hp2 : p < P) :
    bctable_Anchor 600 P w p = some ((anchV P w p : Int), ()) ∧ ref08_Anchor 600 P w p = some ((anchV P w p : Int), ()) := by
  have := List.all_eq_true.1 (List.all_eq_true.1 anch9_closed P (by simp; omega)) p (by simpa using hp2)
  rcases Bool.or_eq_true_iff.1 this with h | h
  · simp at h
    omega
  · simpa using List.all_eq_true.1 h w (by simpa using hw)

/-- Is a texel an anchor? -/
def ancB (P w i : Nat) : Bool := (i == 0) || ((List.range P).any fun p => decide (1 ≤ p) && (anchV P w p == i))
def lessV (P w i : Nat) : Nat := if ancB P w i then 1 else 0
def posF (P w f : Nat) (p2 : Nat) : Nat → Nat
  | 0 => p2
  | i + 1 => posF P w f p2 i + (f - lessV P w i)
theorem lessV_le (P w i : Nat) : lessV P w i ≤ 1 := by unfold lessV; split <;> omega
theorem posF_mono (P w f p2 : Nat) : ∀ {i j : Nat}, i ≤ j → posF P w f p2 i ≤ posF P w f p2 j := by
  intro i j h
  induction h with
  | refl => exact Nat.le_refl _
  | step h ih => exact Nat.le_trans ih (by simp only [posF]; omega)
theorem posF_add (P w f p2 : Nat) : ∀ i, posF P w f p2 i = p2 + posF P w f 0 i
  | 0 => by simp [posF]
  | i + 1 => by simp only [posF]; rw [posF_add P w f p2 i]; omega
theorem posF_closed : ((List.range 3).all fun P => (List.range 64).all fun w => (List.range 3).all fun f => posF (P + 1) w (f + 2) 0 16 == 16 * (f + 2) - (P + 1)) = true := by kernel_rfl
theorem posF_16 {P w f : Nat} (h1 : 1 ≤ P) (h3 : P ≤ 3) (hw : w < 64) (h2 : 2 ≤ f) (h4 : f ≤ 4) (p2 : Nat) : posF P w f p2 16 = p2 + (16 * f - P) := by
  rw [posF_add]
  obtain ⟨p, rfl⟩ : ∃ p, P = p + 1 := ⟨P - 1, by omega⟩
  obtain ⟨g, rfl⟩ : ∃ g, f = g + 2 := ⟨f - 2, by omega⟩
  have := List.all_eq_true.1 (List.all_eq_true.1 (List.all_eq_true.1 posF_closed p (by simp; omega)) w (by simpa using hw)) g (by simp; omega)
  simp only [beq_iff_eq] at this
  rw [this]

/-! ### single reads -/

theorem rd9 {b : List Int} (hb : Bytes b) (hl : b.length = 16) {a n : Nat} (hn : n ≤ 16) (h : a + n ≤ 128) : bcseven_read_c1 600 n b a = some (lv b a n, (((a + n : Nat) : Int), ())) := by
  unfold bcseven_read_c1
  have h1 := lv_bound b a n
  have h2 : (2 : Int) ^ n ≤ 2 ^ 16 := ipow_le hn
  rw [Low_lv (by omega) hb (by omega) (by omega) (by omega)]
  simp only [Option.bind_some]
  rw [w64 (by omega) (by omega), w64 (by omega) (by omega), Int.natCast_add]
theorem rField {b : List Int} (hb : Bytes b) (hl : b.length = 16) {a n : Nat} (hn : n ≤ 16) (h : a + n ≤ 128) : ref02_Field 600 b a n = some (lv b a n, ()) := by
  unfold ref02_Field
  have h1 := lv_bound b a n
  have h2 : (2 : Int) ^ n ≤ 2 ^ 16 := ipow_le hn
  rw [Get_is (by omega) hb (by omega)]
  simp only [Option.bind_some, Bool.false_eq_true, if_false]
  rw [lowV_lv (by omega) (by omega), w64 (by omega) (by omega)]
theorem rtake9 {b : List Int} (hb : Bytes b) (hl : b.length = 16) {a n : Nat} (hn : n ≤ 16) (h : a + n ≤ 128) : ref09_taker_take 600 b a n = some (lv b a n, (b, (((a + n : Nat) : Int), ()))) := by
  unfold ref09_taker_take
  rw [rField hb hl hn h]
  simp only [Option.bind_some]
  rw [w64 (by omega) (by omega), Int.natCast_add]

/-! ### ends -/

theorem mulS {i E n : Nat} (h : i < E) : (i + 1) * n ≤ E * n := Nat.mul_le_mul_right _ (by omega)

def colG (b : List Int) (a n c i : Nat) (g : Nat → Int) (j : Nat) : Int := if j % 4 = c ∧ j / 4 < i then lv b (a + j / 4 * n) n else g j

theorem colG_step {E : Nat} (b : List Int) (a n c i : Nat) (g : Nat → Int) (hc : c < 4) : (tab (E * 4) (colG b a n c i g)).set (i * 4 + c) (lv b (a + i * n) n) = tab (E * 4) (colG b a n c (i + 1) g) := by
  rw [tab_set]
  refine tab_congr fun j hj => ?_
  unfold colG
  by_cases h : j = i * 4 + c
  · have h1 : j % 4 = c := by omega
    have h2 : j / 4 = i := by omega
    simp only [h, if_true]
    rw [h] at h1 h2
    simp only [h1, h2, true_and]
    rw [if_pos (by omega)]
  · simp only [h, if_false]
    by_cases h1 : j % 4 = c ∧ j / 4 < i
    · rw [if_pos h1, if_pos ⟨h1.1, by omega⟩]
    · rw [if_neg h1, if_neg (by omega)]

theorem read_l2_all {b : List Int} (hb : Bytes b) (hl : b.length = 16) (x0 : List Int) (x1 : List Int) (x3 : Int) (x4 : Int) (x5 : Int) (x6 : Int) (x9 : Int) (x10 : Int) (x11 : Int) (x12 : Int) (x13 : Int) (x14 : Int) (x15 : Int) (x16 : List Int) (x17 : List Int) {C A E n c a : Nat} (g : Nat → Int) (hn : n ≤ 16) (hc : c < 4) (hE : E ≤ 100) (ha : a + E * n ≤ 128) (hd : n = if c = 3 then A else C) :
    ∀ (d i k : Nat), i + d = E → d < k → bcseven_read_l2 600 k x0 x1 (tab (E * 4) (colG b a n c i g)) x3 x4 x5 x6 ((C : Int)) ((A : Int)) x9 x10 x11 x12 x13 x14 x15 x16 x17 b (((a + i * n : Nat) : Int)) ((c : Int)) ((c : Int)) ((E : Int)) ((i : Int)) = some (x0, (x1, (tab (E * 4) (colG b a n c E g), (x3, (x4, (x5, (x6, ((C : Int), ((A : Int), (x9, (x10, (x11, (x12, (x13, (x14, (x15, (x16, (x17, (b, (((a + E * n : Nat) : Int), ((c : Int), ()))))))))))))))))))))) := by
  intro d
  induction d with
  | zero =>
    intro i k h1 h2
    obtain ⟨k, rfl⟩ : ∃ k', k = k' + 1 := ⟨k - 1, by omega⟩
    obtain rfl : i = E := by omega
    unfold bcseven_read_l2 bcseven_read_l2S
    simp only [Int.lt_irrefl, decide_false, cond_false]
  | succ d ih =>
    intro i k h1 h2
    obtain ⟨k, rfl⟩ : ∃ k', k = k' + 1 := ⟨k - 1, by omega⟩
    have hi : i < E := by omega
    have hm := mulS (n := n) hi
    have e1 : (i + 1) * n = i * n + n := Nat.succ_mul i n
    unfold bcseven_read_l2 bcseven_read_l2S
    have i1 : (i : Int) < (E : Int) := by omega
    have i2 : (E * 4) / 4 = E := by omega
    have i3 : (0 : Int) ≤ (c : Int) := by omega
    have i4 : (c : Int) < 4 := by omega
    have ed : bcseven_dealt 600 (x3, (x4, (x5, (x6, ((C : Int), ((A : Int), (x9, (x10, (x11, (x12, ())))))))))) (c : Int) = some ((n : Int), ()) := by
      unfold bcseven_dealt
      by_cases h3 : c = 3
      · subst h3
        simp only [if_true] at hd
        simp [hd]
      · have : ((c : Int) == 3) = false := by
          rw [beq_eq_false_iff_ne]
          omega
        simp only [h3, if_false] at hd
        simp [this, hd]
    simp only [tab_len, i2, i1, i3, i4, decide_true, cond_true, Int.natCast_nonneg, Bool.and_self, Int.toNat_natCast, ed, Option.bind_some]
    rw [rd9 hb hl hn (by omega)]
    simp only [Option.bind_some]
    rw [colG_step b a n c i g hc, nextI (by omega), Nat.add_assoc, ← e1]
    exact ih (i + 1) k (by omega) (by omega)

/-- The ends' numbers as they lie. -/
def e0 (b : List Int) (m : BM) (p0 : Nat) (j : Nat) : Int := if j % 4 = 3 then lv b (p0 + 6 * m.P * m.C + j / 4 * m.A) m.A else lv b (p0 + j % 4 * (2 * m.P * m.C) + j / 4 * m.C) m.C

theorem colG_four {b : List Int} (m : BM) (p0 : Nat) (j : Nat) (hj : j < 2 * m.P * 4) :
    colG b (p0 + 2 * m.P * m.C + 2 * m.P * m.C + 2 * m.P * m.C) m.A 3 (2 * m.P) (colG b (p0 + 2 * m.P * m.C + 2 * m.P * m.C) m.C 2 (2 * m.P) (colG b (p0 + 2 * m.P * m.C) m.C 1 (2 * m.P) (colG b p0 m.C 0 (2 * m.P) fun _ => 0))) j = e0 b m p0 j := by
  unfold colG e0
  have h : j / 4 < 2 * m.P := by omega
  have e6 : 6 * m.P * m.C = 2 * m.P * m.C + 2 * m.P * m.C + 2 * m.P * m.C := by
    rw [← Nat.add_mul, ← Nat.add_mul]
    congr 1
    omega
  have hc : j % 4 = 0 ∨ j % 4 = 1 ∨ j % 4 = 2 ∨ j % 4 = 3 := by omega
  rcases hc with h4 | h4 | h4 | h4 <;> simp only [h4, h, and_self, if_true, reduceCtorEq, if_false, false_and, Nat.reduceEqDiff, Nat.zero_mul, Nat.one_mul, Nat.add_zero]
  · congr 2
    omega
  · congr 2
    omega

theorem colG_zero (b : List Int) (a n c : Nat) (g : Nat → Int) : colG b a n c 0 g = g := by
  funext j
  simp [colG]

theorem read_l0_step {b : List Int} (hb : Bytes b) (hl : b.length = 16) (x0 : List Int) (x1 : List Int) (x3 : Int) (x4 : Int) (x5 : Int) (x6 : Int) (x9 : Int) (x10 : Int) (x11 : Int) (x12 : Int) (x13 : Int) (x14 : Int) (x15 : Int) (x16 : List Int) (x17 : List Int) {C A E n c a : Nat} (g : Nat → Int) (hn : n ≤ 16) (hc : c < 4) (hE : E ≤ 100) (ha : a + E * n ≤ 128) (hd : n = if c = 3 then A else C) (k : Nat) :
    bcseven_read_l0 600 (k + 1) x0 x1 (tab (E * 4) g) x3 x4 x5 x6 ((C : Int)) ((A : Int)) x9 x10 x11 x12 x13 x14 x15 x16 x17 b ((a : Int)) ((c : Int)) = bcseven_read_l0 600 k x0 x1 (tab (E * 4) (colG b a n c E g)) x3 x4 x5 x6 ((C : Int)) ((A : Int)) x9 x10 x11 x12 x13 x14 x15 x16 x17 b (((a + E * n : Nat) : Int)) (((c + 1 : Nat) : Int)) := by
  have i4 : (c : Int) < 4 := by omega
  have i2 : (E * 4) / 4 = E := by omega
  have h := read_l2_all hb hl x0 x1 x3 x4 x5 x6 x9 x10 x11 x12 x13 x14 x15 x16 x17 (C := C) (A := A) (c := c) (a := a) g hn hc hE ha hd E 0 600 (by omega) (by omega)
  simp only [colG_zero, Nat.zero_mul, Nat.add_zero, Int.natCast_zero] at h
  conv => lhs; unfold bcseven_read_l0 bcseven_read_l0S
  simp only [tab_len, i2, i4, decide_true, cond_true, h, Option.bind_some]
  rw [nextI (by omega)]

theorem read_l0_all {b : List Int} (hb : Bytes b) (hl : b.length = 16) (x0 : List Int) (x1 : List Int) (x3 : Int) (x4 : Int) (x5 : Int) (x6 : Int) (x9 : Int) (x10 : Int) (x11 : Int) (x12 : Int) (x13 : Int) (x14 : Int) (x15 : Int) (x16 : List Int) (x17 : List Int) {m : BM} (ok : m.Ok) {p0 : Nat} (hp : p0 + 6 * m.P * m.C + 2 * m.P * m.A ≤ 128) (k : Nat) :
    bcseven_read_l0 600 (k + 5) x0 x1 (tab (2 * m.P * 4) fun _ => 0) x3 x4 x5 x6 ((m.C : Int)) ((m.A : Int)) x9 x10 x11 x12 x13 x14 x15 x16 x17 b ((p0 : Int)) ((0 : Int)) = some (x0, (x1, (tab (2 * m.P * 4) (e0 b m p0), (x3, (x4, (x5, (x6, ((m.C : Int), ((m.A : Int), (x9, (x10, (x11, (x12, (x13, (x14, (x15, (x16, (x17, (b, (((p0 + 6 * m.P * m.C + 2 * m.P * m.A : Nat) : Int), ())))))))))))))))))))) := by
  have e6 : 6 * m.P * m.C = 2 * m.P * m.C + 2 * m.P * m.C + 2 * m.P * m.C := by
    rw [← Nat.add_mul, ← Nat.add_mul]
    congr 1
    omega
  have hC := ok.C7
  have hA := ok.A8
  have hP := ok.P3
  have s0 := read_l0_step hb hl x0 x1 x3 x4 x5 x6 x9 x10 x11 x12 x13 x14 x15 x16 x17 (C := m.C) (A := m.A) (E := 2 * m.P) (n := m.C) (c := 0) (a := p0) (fun _ => 0) (by omega) (by omega) (by omega) (by omega) (by simp) (k + 4)
  have s1 := read_l0_step hb hl x0 x1 x3 x4 x5 x6 x9 x10 x11 x12 x13 x14 x15 x16 x17 (C := m.C) (A := m.A) (E := 2 * m.P) (n := m.C) (c := 1) (a := p0 + 2 * m.P * m.C) (colG b p0 m.C 0 (2 * m.P) fun _ => 0) (by omega) (by omega) (by omega) (by omega) (by simp) (k + 3)
  have s2 := read_l0_step hb hl x0 x1 x3 x4 x5 x6 x9 x10 x11 x12 x13 x14 x15 x16 x17 (C := m.C) (A := m.A) (E := 2 * m.P) (n := m.C) (c := 2) (a := p0 + 2 * m.P * m.C + 2 * m.P * m.C) (colG b (p0 + 2 * m.P * m.C) m.C 1 (2 * m.P) (colG b p0 m.C 0 (2 * m.P) fun _ => 0)) (by omega) (by omega) (by omega) (by omega) (by simp) (k + 2)
  have s3 := read_l0_step hb hl x0 x1 x3 x4 x5 x6 x9 x10 x11 x12 x13 x14 x15 x16 x17 (C := m.C) (A := m.A) (E := 2 * m.P) (n := m.A) (c := 3) (a := p0 + 2 * m.P * m.C + 2 * m.P * m.C + 2 * m.P * m.C) (colG b (p0 + 2 * m.P * m.C + 2 * m.P * m.C) m.C 2 (2 * m.P) (colG b (p0 + 2 * m.P * m.C) m.C 1 (2 * m.P) (colG b p0 m.C 0 (2 * m.P) fun _ => 0))) (by omega) (by omega) (by omega) (by omega) (by simp) (k + 1)
  refine s0.trans (s1.trans (s2.trans (s3.trans ?_)))
  unfold bcseven_read_l0 bcseven_read_l0S
  have i4 : ¬ (((3 + 1 : Nat) : Int) < 4) := by omega
  simp only [i4, decide_false, cond_false]
  rw [tab_congr fun j hj => colG_four m p0 j hj, show p0 + 6 * m.P * m.C + 2 * m.P * m.A = p0 + 2 * m.P * m.C + 2 * m.P * m.C + 2 * m.P * m.C + 2 * m.P * m.A by omega]

/-! ### wide ends -/

theorem widen_l2_all (x1 : Int) (x2 : Int) (x3 : Int) (x4 : Int) (x7 : Int) (x8 : Int) (x9 : Int) (x10 : Int) (x11 : Int) (x12 : Int) (x13 : Int) (x14 : List Int) (x15 : List Int) (x16 : List Int) (x17 : Int) (x21 : Int) (x22 : Int) {C A E i : Nat} {ex : Nat} (bit : Int) (g q W : Nat → Int) (hi : i < E) (hE : E ≤ 100) (hCA : C ≤ 100 ∧ A ≤ 100 ∧ ex ≤ 100)
    (hW : ∀ c, c < 4 → level_Wide 600 (ior .i64 (ishl .i64 (q c) (ex : Int)) bit) (((if c = 3 then A else C) + ex : Nat) : Int) = some (W c, ())) :
    ∀ (d c k : Nat), c + d = 4 → d < k → bcseven_fields_widen_read_c1_l2 600 k (tab (E * 4) fun j => if j / 4 = i ∧ j % 4 < c then W (j % 4) else g j) x1 x2 x3 x4 ((C : Int)) ((A : Int)) x7 x8 x9 x10 x11 x12 x13 x14 x15 x16 x17 ((ex : Int)) bit ((i : Int)) x21 x22 (tab 4 q) ((c : Int)) = some (tab (E * 4) fun j => if j / 4 = i then W (j % 4) else g j, (x1, (x2, (x3, (x4, ((C : Int), ((A : Int), (x7, (x8, (x9, (x10, (x11, (x12, (x13, (x14, (x15, (x16, (x17, ((ex : Int), (bit, ((i : Int), (x21, (x22, ()))))))))))))))))))))))) := by
  intro d
  induction d with
  | zero =>
    intro c k h1 h2
    obtain ⟨k, rfl⟩ : ∃ k', k = k' + 1 := ⟨k - 1, by omega⟩
    obtain rfl : c = 4 := by omega
    unfold bcseven_fields_widen_read_c1_l2 bcseven_fields_widen_read_c1_l2S
    have i4 : ¬ (((4 : Nat) : Int) < 4) := by omega
    simp only [i4, decide_false, cond_false]
    rw [tab_congr fun j hj => show (if j / 4 = i ∧ j % 4 < 4 then W (j % 4) else g j) = if j / 4 = i then W (j % 4) else g j by
      have : j % 4 < 4 := Nat.mod_lt _ (by decide)
      simp only [this, and_true]]
  | succ d ih =>
    intro c k h1 h2
    obtain ⟨k, rfl⟩ : ∃ k', k = k' + 1 := ⟨k - 1, by omega⟩
    have hc : c < 4 := by omega
    unfold bcseven_fields_widen_read_c1_l2 bcseven_fields_widen_read_c1_l2S
    have i1 : (c : Int) < 4 := by omega
    have i2 : (E * 4) / 4 = E := by omega
    have i3 : (i : Int) < (E : Int) := by omega
    have ed : bcseven_dealt 600 (x1, (x2, (x3, (x4, ((C : Int), ((A : Int), (x7, (x8, (x9, (x10, ())))))))))) (c : Int) = some (((if c = 3 then A else C : Nat) : Int), ()) := by
      unfold bcseven_dealt
      by_cases h3 : c = 3
      · subst h3
        simp
      · have : ((c : Int) == 3) = false := by
          rw [beq_eq_false_iff_ne]
          omega
        simp [this, h3]
    have ew : IntKind.wrap .i64 (((if c = 3 then A else C : Nat) : Int) + (ex : Int)) = (((if c = 3 then A else C) + ex : Nat) : Int) := by
      have : (if c = 3 then A else C) ≤ 100 := by split <;> omega
      rw [w64 (by omega) (by omega), Int.natCast_add]
    simp only [tab_len, i2, i1, i3, decide_true, cond_true, Int.natCast_nonneg, Bool.and_self, Int.toNat_natCast, ed, Option.bind_some, tab_get hc, ew, hW c hc]
    rw [nextI (by omega), tab_set]
    rw [tab_congr fun j hj => show (if j = i * 4 + c then W c else if j / 4 = i ∧ j % 4 < c then W (j % 4) else g j) = if j / 4 = i ∧ j % 4 < c + 1 then W (j % 4) else g j by
      by_cases h : j = i * 4 + c
      · have h1 : j / 4 = i := by omega
        have h2 : j % 4 = c := by omega
        rw [if_pos h, if_pos (by omega), h2]
      · rw [if_neg h]
        by_cases h5 : j / 4 = i ∧ j % 4 < c
        · rw [if_pos h5, if_pos (by omega)]
        · rw [if_neg h5, if_neg (by omega)]]
    exact ih (c + 1) k (by omega) (by omega)

def bitV (b : List Int) (m : BM) (p1 i : Nat) : Int := if m.e = 1 then lv b (p1 + i) 1 else if m.o = 1 then lv b (p1 + i / 2) 1 else 0
def posB (m : BM) (p1 i : Nat) : Nat := p1 + (if m.e = 1 then i else if m.o = 1 then (i + 1) / 2 else 0)
def bitS (b : List Int) (m : BM) (p1 i : Nat) : Int := if i = 0 then 0 else bitV b m p1 (i - 1)
/-- The ends. -/
def eF (b : List Int) (m : BM) (p0 p1 j : Nat) : Int :=
  if j % 4 = 3 then (if m.A = 0 then 255 else wideV (m.A + (m.e + m.o)) (2 ^ (m.e + m.o) * e0 b m p0 j + bitV b m p1 (j / 4)))
  else wideV (m.C + (m.e + m.o)) (2 ^ (m.e + m.o) * e0 b m p0 j + bitV b m p1 (j / 4))
def wG (b : List Int) (m : BM) (p0 p1 i j : Nat) : Int := if j / 4 < i then eF b m p0 p1 j else e0 b m p0 j

theorem bitV_01 (b : List Int) (m : BM) (p1 i : Nat) : 0 ≤ bitV b m p1 i ∧ bitV b m p1 i ≤ 1 := by
  unfold bitV
  have h1 := lv_bound b (p1 + i) 1
  have h2 := lv_bound b (p1 + i / 2) 1
  split
  · omega
  · split <;> omega

theorem e0_bound (b : List Int) {m : BM} (ok : m.Ok) (p0 j : Nat) : 0 ≤ e0 b m p0 j ∧ e0 b m p0 j < 256 := by
  unfold e0
  have hA : (2 : Int) ^ m.A ≤ 2 ^ 8 := ipow_le ok.A8
  have hC : (2 : Int) ^ m.C ≤ 2 ^ 8 := ipow_le (by have := ok.C7; omega)
  split
  · have := lv_bound b (p0 + 6 * m.P * m.C + j / 4 * m.A) m.A
    omega
  · have := lv_bound b (p0 + j % 4 * (2 * m.P * m.C) + j / 4 * m.C) m.C
    omega

theorem orbit_closed : ((List.range 256).all fun n => (List.range 2).all fun v => (ior .i64 (ishl .i64 (n : Int) 1) v == 2 * (n : Int) + v) && (ior .i64 (ishl .i64 (n : Int) 0) 0 == (n : Int))) = true := by kernel_rfl

theorem orbit {n v : Int} {x : Nat} (hn : 0 ≤ n ∧ n < 256) (hv : 0 ≤ v ∧ v ≤ 1) (hx : x ≤ 1) (h0 : x = 0 → v = 0) : ior .i64 (ishl .i64 n (x : Int)) v = 2 ^ x * n + v := by
  obtain ⟨n, rfl⟩ := Int.eq_ofNat_of_zero_le hn.1
  obtain ⟨v, rfl⟩ := Int.eq_ofNat_of_zero_le hv.1
  have := List.all_eq_true.1 (List.all_eq_true.1 orbit_closed n (by simp; omega)) v (by simp; omega)
  simp only [Bool.and_eq_true, beq_iff_eq] at this
  rcases (by omega : x = 0 ∨ x = 1) with rfl | rfl
  · rw [h0 rfl]
    rw [show ((0 : Nat) : Int) = 0 from rfl, this.2]
    omega
  · rw [show ((1 : Nat) : Int) = 1 from rfl, this.1]
    omega

theorem wide00 : ∃ z, level_Wide 600 0 0 = some (z, ()) := by
  have : (level_Wide 600 0 0).isSome = true := by kernel_rfl
  obtain ⟨⟨z, ⟨⟩⟩, h⟩ := Option.isSome_iff_exists.1 this
  exact ⟨z, h⟩

theorem mul4 (i c : Nat) (h : c < 4) : (i * 4 + c) / 4 = i ∧ (i * 4 + c) % 4 = c := by omega

theorem wide_end (b : List Int) {m : BM} (ok : m.Ok) (p0 p1 i : Nat) : ∃ W : Nat → Int,
    (∀ c, c < 4 → level_Wide 600 (ior .i64 (ishl .i64 (e0 b m p0 (i * 4 + c)) ((m.e + m.o : Nat) : Int)) (bitV b m p1 i)) (((if c = 3 then m.A else m.C) + (m.e + m.o) : Nat) : Int) = some (W c, ())) ∧
    ∀ c, c < 4 → ¬ (c = 3 ∧ m.A = 0) → W c = eF b m p0 p1 (i * 4 + c) := by
  have hv := bitV_01 b m p1 i
  have h0 : m.e + m.o = 0 → bitV b m p1 i = 0 := fun h => by
    unfold bitV
    rw [if_neg (by omega), if_neg (by omega)]
  have hor : ∀ c, ior .i64 (ishl .i64 (e0 b m p0 (i * 4 + c)) ((m.e + m.o : Nat) : Int)) (bitV b m p1 i) = 2 ^ (m.e + m.o) * e0 b m p0 (i * 4 + c) + bitV b m p1 i :=
    fun c => orbit (e0_bound b ok _ _) hv ok.eo h0
  have ok1 := ok.Ce
  have ok2 := ok.Ae
  have ok3 := ok.C1
  by_cases hz : m.A + (m.e + m.o) = 0
  · obtain ⟨z, hz1⟩ := wide00
    have hA : m.A = 0 := by omega
    refine ⟨fun c => if c = 3 then z else eF b m p0 p1 (i * 4 + c), fun c hc => ?_, fun c hc h => ?_⟩
    · rw [hor]
      by_cases h3 : c = 3
      · subst h3
        have e1 : e0 b m p0 (i * 4 + 3) = 0 := by
          have := lv_bound b (p0 + 6 * m.P * m.C + (i * 4 + 3) / 4 * m.A) m.A
          unfold e0
          rw [if_pos (by omega)]
          rw [hA] at this ⊢
          simp only [Int.pow_zero] at this
          omega
        rw [e1, h0 (by omega)]
        simp only [if_true]
        rw [hz]
        simpa using hz1
      · rw [if_neg h3, Wide_is (by omega) (by omega)]
        unfold eF
        simp only [(mul4 i c hc).1, (mul4 i c hc).2, h3, if_false]
    · have h3 : ¬ c = 3 := fun e => h ⟨e, hA⟩
      simp only [h3, if_false]
  · refine ⟨fun c => if c = 3 then wideV (m.A + (m.e + m.o)) (2 ^ (m.e + m.o) * e0 b m p0 (i * 4 + c) + bitV b m p1 i) else eF b m p0 p1 (i * 4 + c), fun c hc => ?_, fun c hc h => ?_⟩
    · rw [hor]
      by_cases h3 : c = 3
      · subst h3
        simp only [if_true]
        rw [Wide_is (by omega) (by omega)]
      · simp only [h3, if_false]
        rw [Wide_is (by omega) (by omega)]
        unfold eF
        simp only [(mul4 i c hc).1, (mul4 i c hc).2, h3, if_false]
    · by_cases h3 : c = 3
      · subst h3
        unfold eF
        have hA : ¬ m.A = 0 := fun e => h ⟨rfl, e⟩
        simp only [(mul4 i 3 hc).1, (mul4 i 3 hc).2, if_true, hA, if_false]
      · simp only [h3, if_false]

theorem beqT {a b : Int} (h : a = b) : (a == b) = true := by simpa using h

theorem wG_row {b : List Int} {m : BM} {p0 p1 i : Nat} {W : Nat → Int} (hW : ∀ c, c < 4 → ¬ (c = 3 ∧ m.A = 0) → W c = eF b m p0 p1 (i * 4 + c)) {E : Nat} (hA : ¬ m.A = 0) :
    (tab (E * 4) fun j => if j / 4 = i then W (j % 4) else wG b m p0 p1 i j) = tab (E * 4) (wG b m p0 p1 (i + 1)) := by
  refine tab_congr fun j hj => ?_
  unfold wG
  have h4 : j % 4 < 4 := Nat.mod_lt _ (by decide)
  by_cases h : j / 4 = i
  · rw [if_pos h, if_pos (by omega), hW _ h4 (by omega)]
    congr 1
    omega
  · rw [if_neg h]
    by_cases h5 : j / 4 < i
    · rw [if_pos h5, if_pos (by omega)]
    · rw [if_neg h5, if_neg (by omega)]
theorem wG_row0 {b : List Int} {m : BM} {p0 p1 i : Nat} {W : Nat → Int} (hW : ∀ c, c < 4 → ¬ (c = 3 ∧ m.A = 0) → W c = eF b m p0 p1 (i * 4 + c)) {E : Nat} (hA : m.A = 0) :
    (tab (E * 4) fun j => if j = 3 + i * 4 then 255 else if j / 4 = i then W (j % 4) else wG b m p0 p1 i j) = tab (E * 4) (wG b m p0 p1 (i + 1)) := by
  refine tab_congr fun j hj => ?_
  unfold wG
  have h4 : j % 4 < 4 := Nat.mod_lt _ (by decide)
  by_cases h3 : j = 3 + i * 4
  · rw [if_pos h3, if_pos (by omega)]
    unfold eF
    rw [if_pos (by omega), if_pos hA]
  · rw [if_neg h3]
    by_cases h : j / 4 = i
    · rw [if_pos h, if_pos (by omega), hW _ h4 (by omega)]
      congr 1
      omega
    · rw [if_neg h]
      by_cases h5 : j / 4 < i
      · rw [if_pos h5, if_pos (by omega)]
      · rw [if_neg h5, if_neg (by omega)]

theorem widen_l0_all {b : List Int} (hb : Bytes b) (hl : b.length = 16) (x1 : Int) (x2 : Int) (x3 : Int) (x4 : Int) (x9 : Int) (x10 : Int) (x11 : Int) (x12 : Int) (x13 : Int) (x14 : List Int) (x15 : List Int) {m : BM} (ok : m.Ok) (p0 p1 : Nat) (hp : p1 + 2 * m.P * m.e + m.P * m.o ≤ 128) :
    ∀ (d i k : Nat), i + d = 2 * m.P → d < k → bcseven_fields_widen_read_c1_l0 600 k (tab (2 * m.P * 4) (wG b m p0 p1 i)) x1 x2 x3 x4 ((m.C : Int)) ((m.A : Int)) ((m.e : Int)) ((m.o : Int)) x9 x10 x11 x12 x13 x14 x15 b (((posB m p1 i : Nat) : Int)) (((m.e + m.o : Nat) : Int)) (bitS b m p1 i) (((2 * m.P : Nat) : Int)) ((i : Int)) = some (tab (2 * m.P * 4) (wG b m p0 p1 (2 * m.P)), (x1, (x2, (x3, (x4, ((m.C : Int), ((m.A : Int), ((m.e : Int), ((m.o : Int), (x9, (x10, (x11, (x12, (x13, (x14, (x15, (b, (((posB m p1 (2 * m.P) : Nat) : Int), ())))))))))))))))))) := by
  intro d
  induction d with
  | zero =>
    intro i k h1 h2
    obtain ⟨k, rfl⟩ : ∃ k', k = k' + 1 := ⟨k - 1, by omega⟩
    obtain rfl : i = 2 * m.P := by omega
    unfold bcseven_fields_widen_read_c1_l0 bcseven_fields_widen_read_c1_l0S
    simp only [Int.lt_irrefl, decide_false, cond_false]
  | succ d ih =>
    intro i k h1 h2
    obtain ⟨k, rfl⟩ : ∃ k', k = k' + 1 := ⟨k - 1, by omega⟩
    have hP3 := ok.P3
    have he1 := ok.e1
    have ho1 := ok.o1
    have heo := ok.eo
    have hC7 := ok.C7
    have hA8 := ok.A8
    have hi : i < 2 * m.P := by omega
    have i1 : (i : Int) < ((2 * m.P : Nat) : Int) := by omega
    have i2 : (2 * m.P * 4) / 4 = 2 * m.P := by omega
    have i3 : (i : Int) < ((2 * m.P : Nat) : Int) := by omega
    have i3' : (decide ((0 : Int) ≤ (i : Int)) && decide ((i : Int) < ((2 * m.P : Nat) : Int))) = true := by simp; omega
    obtain ⟨W, hW1, hW2⟩ := wide_end b ok p0 p1 i
    have hrow : List.take 4 (List.drop (i * 4) (tab (2 * m.P * 4) (wG b m p0 p1 i))) = tab 4 fun c => e0 b m p0 (i * 4 + c) := by
      rw [tab_part (by omega)]
      refine tab_congr fun c hc => ?_
      unfold wG
      rw [if_neg (by omega)]
    have key := fun a : Int => widen_l2_all x1 x2 x3 x4 ((m.e : Int)) ((m.o : Int)) x9 x10 x11 x12 x13 x14 x15 b a (((2 * m.P : Nat) : Int)) ((i : Int)) (C := m.C) (A := m.A) (E := 2 * m.P) (i := i) (ex := m.e + m.o) (bitV b m p1 i) (wG b m p0 p1 i) (fun c => e0 b m p0 (i * 4 + c)) W hi (by omega) (by omega) hW1 4 0 600 (by omega) (by omega)
    simp only [Nat.not_lt_zero, and_false, if_false, Int.natCast_zero] at key
    have fin : ∀ (a bt : Int), a = ((posB m p1 (i + 1) : Nat) : Int) → bt = bitS b m p1 (i + 1) → bcseven_fields_widen_read_c1_l0 600 k (tab (2 * m.P * 4) (wG b m p0 p1 (i + 1))) x1 x2 x3 x4 ((m.C : Int)) ((m.A : Int)) ((m.e : Int)) ((m.o : Int)) x9 x10 x11 x12 x13 x14 x15 b a (((m.e + m.o : Nat) : Int)) bt (((2 * m.P : Nat) : Int)) (((i + 1 : Nat) : Int)) = some (tab (2 * m.P * 4) (wG b m p0 p1 (2 * m.P)), (x1, (x2, (x3, (x4, ((m.C : Int), ((m.A : Int), ((m.e : Int), ((m.o : Int), (x9, (x10, (x11, (x12, (x13, (x14, (x15, (b, (((posB m p1 (2 * m.P) : Nat) : Int), ())))))))))))))))))) := by
      intro a bt e1 e2
      rw [e1, e2]
      exact ih (i + 1) k (by omega) (by omega)
    have hs : bitS b m p1 (i + 1) = bitV b m p1 i := by simp [bitS]
    unfold bcseven_fields_widen_read_c1_l0 bcseven_fields_widen_read_c1_l0S
    by_cases he : m.e = 1
    · have hPe : 2 * m.P * m.e = 2 * m.P := by rw [he, Nat.mul_one]
      have hpb : posB m p1 i + 1 ≤ 128 := by
        unfold posB
        rw [if_pos he]
        omega
      have re : bcseven_read_c1 600 (1 : Int) b ((posB m p1 i : Nat) : Int) = some (lv b (posB m p1 i) 1, (((posB m p1 i + 1 : Nat) : Int), ())) := rd9 (n := 1) hb hl (by omega) hpb
      have e2 : lv b (posB m p1 i) 1 = bitV b m p1 i := by
        unfold posB bitV
        rw [if_pos he, if_pos he]
      have e3 : posB m p1 (i + 1) = posB m p1 i + 1 := by
        unfold posB
        rw [if_pos he, if_pos he]
        omega
      have he' := beqT (show ((m.e : Nat) : Int) = 1 by omega)
      -- each
      simp only [tab_len, i2, i1, i3, decide_true, cond_true, Int.natCast_nonneg, Bool.and_self, Int.toNat_natCast, he', re, e2, cond_false, Option.bind_some, hrow, key]
      by_cases hA : m.A = 0
      · simp only [beqT (show ((m.A : Nat) : Int) = 0 by omega), i3', cond_true, tab_set]
        rw [nextI (by omega), wG_row0 hW2 hA]
        exact fin _ _ (by rw [e3]) (hs.symm)
      · simp only [beqF (show ((m.A : Nat) : Int) ≠ 0 by omega), cond_false]
        rw [nextI (by omega), wG_row hW2 hA]
        exact fin _ _ (by rw [e3]) (hs.symm)
    · have he' := beqF (show ((m.e : Nat) : Int) ≠ 1 by omega)
      by_cases ho : m.o = 1
      · have ho' := beqT (show ((m.o : Nat) : Int) = 1 by omega)
        have hm : Int.tmod (i : Int) 2 = ((i % 2 : Nat) : Int) := by rw [tmod_nonneg (by omega)]; omega
        have hPo : m.P * m.o = m.P := by rw [ho, Nat.mul_one]
        by_cases hev : i % 2 = 0
        · have hpb : posB m p1 i + 1 ≤ 128 := by
            unfold posB
            rw [if_neg he, if_pos ho]
            omega
          have re : bcseven_read_c1 600 (1 : Int) b ((posB m p1 i : Nat) : Int) = some (lv b (posB m p1 i) 1, (((posB m p1 i + 1 : Nat) : Int), ())) := rd9 (n := 1) hb hl (by omega) hpb
          have e2 : lv b (posB m p1 i) 1 = bitV b m p1 i := by
            unfold posB bitV
            rw [if_neg he, if_pos ho, if_neg he, if_pos ho]
            congr 2
            omega
          have e3 : posB m p1 (i + 1) = posB m p1 i + 1 := by
            unfold posB
            rw [if_neg he, if_pos ho, if_neg he, if_pos ho]
            omega
          have hm' := beqT (show Int.tmod (i : Int) 2 = 0 by omega)
          -- both, even
          simp only [tab_len, i2, i1, i3, decide_true, cond_true, Int.natCast_nonneg, Bool.and_self, Int.toNat_natCast, he', ho', hm', re, e2, cond_false, Option.bind_some, hrow, key]
          by_cases hA : m.A = 0
          · simp only [beqT (show ((m.A : Nat) : Int) = 0 by omega), i3', cond_true, tab_set]
            rw [nextI (by omega), wG_row0 hW2 hA]
            exact fin _ _ (by rw [e3]) (hs.symm)
          · simp only [beqF (show ((m.A : Nat) : Int) ≠ 0 by omega), cond_false]
            rw [nextI (by omega), wG_row hW2 hA]
            exact fin _ _ (by rw [e3]) (hs.symm)
        · have e2 : bitS b m p1 i = bitV b m p1 i := by
            unfold bitS bitV
            rw [if_neg (by omega), if_neg he, if_pos ho, if_neg he, if_pos ho]
            congr 2
            omega
          have e3 : posB m p1 (i + 1) = posB m p1 i := by
            unfold posB
            rw [if_neg he, if_pos ho, if_neg he, if_pos ho]
            omega
          have hm' := beqF (show Int.tmod (i : Int) 2 ≠ 0 by omega)
          -- both, odd
          simp only [tab_len, i2, i1, i3, decide_true, cond_true, Int.natCast_nonneg, Bool.and_self, Int.toNat_natCast, he', ho', hm', e2, cond_false, Option.bind_some, hrow, key]
          by_cases hA : m.A = 0
          · simp only [beqT (show ((m.A : Nat) : Int) = 0 by omega), i3', cond_true, tab_set]
            rw [nextI (by omega), wG_row0 hW2 hA]
            exact fin _ _ (by rw [e3]) (hs.symm)
          · simp only [beqF (show ((m.A : Nat) : Int) ≠ 0 by omega), cond_false]
            rw [nextI (by omega), wG_row hW2 hA]
            exact fin _ _ (by rw [e3]) (hs.symm)
      · have ho' := beqF (show ((m.o : Nat) : Int) ≠ 1 by omega)
        have e2 : bitS b m p1 i = bitV b m p1 i := by
          unfold bitS bitV
          rw [if_neg he, if_neg ho, if_neg he, if_neg ho]
          split <;> rfl
        have e3 : posB m p1 (i + 1) = posB m p1 i := by
          unfold posB
          rw [if_neg he, if_neg ho, if_neg he, if_neg ho]
        -- none
        simp only [tab_len, i2, i1, i3, decide_true, cond_true, Int.natCast_nonneg, Bool.and_self, Int.toNat_natCast, he', ho', e2, cond_false, Option.bind_some, hrow, key]
        by_cases hA : m.A = 0
        · simp only [beqT (show ((m.A : Nat) : Int) = 0 by omega), i3', cond_true, tab_set]
          rw [nextI (by omega), wG_row0 hW2 hA]
          exact fin _ _ (by rw [e3]) (hs.symm)
        · simp only [beqF (show ((m.A : Nat) : Int) ≠ 0 by omega), cond_false]
          rw [nextI (by omega), wG_row hW2 hA]
          exact fin _ _ (by rw [e3]) (hs.symm)

/-! ### places -/

def ancUp (P w i p : Nat) : Bool := (i == 0) || ((List.range p).any fun q => decide (1 ≤ q) && (anchV P w q == i))
theorem ancUp_succ {P w i p : Nat} (hp : 1 ≤ p) : ancUp P w i (p + 1) = (ancUp P w i p || (anchV P w p == i)) := by
  unfold ancUp
  rw [List.range_succ, List.any_append]
  simp [hp, Bool.or_assoc]
theorem ancUp_one (P w i : Nat) : ancUp P w i 1 = (i == 0) := by
  simp [ancUp]
theorem beqN (a i : Nat) : (((a : Nat) : Int) == (i : Int)) = (a == i) := by
  by_cases h : a = i
  · subst h; simp
  · have : ((a : Nat) : Int) ≠ (i : Int) := by omega
    rw [beqF this]
    simp [h]

theorem lacks_l0_all (x0 : List Int) (x2 : Int) (x3 : Int) (x4 : Int) (x5 : Int) (x6 : Int) (x7 : Int) (x8 : Int) (x9 : Int) (x10 : Int) (x12 : Int) (x13 : Int) (x14 : List Int) (x15 : List Int) {P w i : Nat} (h3 : P ≤ 3) (hw : w < 64) :
    ∀ (d p k : Nat), p + d = P → 1 ≤ p → d < k → bcseven_fields_lacks_l0 600 k x0 ((P : Int)) x2 x3 x4 x5 x6 x7 x8 x9 x10 ((w : Int)) x12 x13 x14 x15 ((i : Int)) (ancUp P w i p) ((p : Int)) = some (ancUp P w i P, ()) := by
  intro d
  induction d with
  | zero =>
    intro p k h1 hp h2
    obtain ⟨k, rfl⟩ : ∃ k', k = k' + 1 := ⟨k - 1, by omega⟩
    obtain rfl : p = P := by omega
    unfold bcseven_fields_lacks_l0 bcseven_fields_lacks_l0S
    simp only [Int.lt_irrefl, decide_false, cond_false]
  | succ d ih =>
    intro p k h1 hp h2
    obtain ⟨k, rfl⟩ : ∃ k', k = k' + 1 := ⟨k - 1, by omega⟩
    have i1 : (p : Int) < (P : Int) := by omega
    have fin := ih (p + 1) k (by omega) (by omega) (by omega)
    rw [ancUp_succ hp] at fin
    unfold bcseven_fields_lacks_l0 bcseven_fields_lacks_l0S
    simp only [i1, decide_true, cond_true]
    rw [nextI (by omega)]
    cases h : ancUp P w i p
    · rw [h, Bool.false_or] at fin
      simp only [cond_false]
      rw [(anch9 h3 hw hp (by omega)).1]
      simp only [Option.bind_some, beqN]
      exact fin
    · rw [h, Bool.true_or] at fin
      simp only [cond_true]
      exact fin

theorem lacks_is (x0 : List Int) (x2 : Int) (x3 : Int) (x4 : Int) (x5 : Int) (x6 : Int) (x7 : Int) (x8 : Int) (x9 : Int) (x10 : Int) (x12 : Int) (x13 : Int) (x14 : List Int) (x15 : List Int) {P w i : Nat} (h1 : 1 ≤ P) (h3 : P ≤ 3) (hw : w < 64) : bcseven_fields_lacks 600 x0 (P : Int) x2 x3 x4 x5 x6 x7 x8 x9 x10 (w : Int) x12 x13 x14 x15 (i : Int) = some ((lessV P w i : Int), ()) := by
  unfold bcseven_fields_lacks
  have h := lacks_l0_all x0 x2 x3 x4 x5 x6 x7 x8 x9 x10 x12 x13 x14 x15 (i := i) h3 hw (P - 1) 1 600 (by omega) (by omega) (by omega)
  rw [ancUp_one, ← beqN i 0] at h
  have e1 : ((1 : Nat) : Int) = 1 := rfl
  have e0 : ((0 : Nat) : Int) = 0 := rfl
  rw [e1, e0] at h
  rw [h]
  simp only [Option.bind_some]
  unfold lessV ancB
  rw [show ((i == 0) || ((List.range P).any fun p => decide (1 ≤ p) && (anchV P w p == i))) = ancUp P w i P from rfl]
  cases ancUp P w i P <;> rfl

def upT (i : Nat) (g : Nat → Int) (j : Nat) : Int := if j < i then g j else 0
theorem upT_set {N i : Nat} (g : Nat → Int) : (tab N (upT i g)).set i (g i) = tab N (upT (i + 1) g) := by
  rw [tab_set]
  refine tab_congr fun j hj => ?_
  unfold upT
  by_cases h : j = i
  · rw [if_pos h, if_pos (by omega), h]
  · rw [if_neg h]
    by_cases h2 : j < i
    · rw [if_pos h2, if_pos (by omega)]
    · rw [if_neg h2, if_neg (by omega)]
theorem upT_all {N : Nat} (g : Nat → Int) : tab N (upT N g) = tab N g := tab_congr fun j hj => if_pos hj
theorem upT_zero {N : Nat} (g : Nat → Int) : tab N (upT 0 g) = tab N fun _ => 0 := tab_congr fun j hj => if_neg (by omega)

def firstV (b : List Int) (P w f p2 j : Nat) : Int := lv b (posF P w f p2 j) (f - lessV P w j)

theorem read_l4_all {b : List Int} (hb : Bytes b) (hl : b.length = 16) (x0 : List Int) (x1 : List Int) (x2 : List Int) (x4 : Int) (x5 : Int) (x6 : Int) (x7 : Int) (x8 : Int) (x9 : Int) (x10 : Int) (x12 : Int) (x14 : Int) (x15 : Int) (x17 : List Int) {P w f p2 : Nat} (hP1 : 1 ≤ P) (h3 : P ≤ 3) (hw : w < 64) (hf : 2 ≤ f ∧ f ≤ 4) (hp : posF P w f p2 16 ≤ 128) :
    ∀ (d i k : Nat), i + d = 16 → d < k → bcseven_read_l4 600 k x0 x1 x2 ((P : Int)) x4 x5 x6 x7 x8 x9 x10 ((f : Int)) x12 ((w : Int)) x14 x15 (tab 16 (upT i (firstV b P w f p2))) x17 b (((posF P w f p2 i : Nat) : Int)) ((i : Int)) = some (x0, (x1, (x2, ((P : Int), (x4, (x5, (x6, (x7, (x8, (x9, (x10, ((f : Int), (x12, ((w : Int), (x14, (x15, (tab 16 (firstV b P w f p2), (x17, (b, (((posF P w f p2 16 : Nat) : Int), ())))))))))))))))))))) := by
  intro d
  induction d with
  | zero =>
    intro i k h1 h2
    obtain ⟨k, rfl⟩ : ∃ k', k = k' + 1 := ⟨k - 1, by omega⟩
    obtain rfl : i = 16 := by omega
    unfold bcseven_read_l4 bcseven_read_l4S
    have : ¬ (((16 : Nat) : Int) < 16) := by omega
    simp only [this, decide_false, cond_false, upT_all]
  | succ d ih =>
    intro i k h1 h2
    obtain ⟨k, rfl⟩ : ∃ k', k = k' + 1 := ⟨k - 1, by omega⟩
    have i1 : (i : Int) < 16 := by omega
    have hm := posF_mono P w f p2 (show i + 1 ≤ 16 by omega)
    have hle := lessV_le P w i
    have en : IntKind.wrap .i64 ((f : Int) - (lessV P w i : Int)) = ((f - lessV P w i : Nat) : Int) := by
      rw [w64 (by omega) (by omega)]
      omega
    have e1 : posF P w f p2 (i + 1) = posF P w f p2 i + (f - lessV P w i) := rfl
    unfold bcseven_read_l4 bcseven_read_l4S
    simp only [i1, decide_true, cond_true, Int.natCast_nonneg, Bool.and_self, Int.toNat_natCast, lacks_is _ _ _ _ _ _ _ _ _ _ _ _ _ _ hP1 h3 hw, Option.bind_some, en]
    rw [rd9 hb hl (by omega) (by omega)]
    simp only [Option.bind_some]
    rw [nextI (by omega), ← e1, show lv b (posF P w f p2 i) (f - lessV P w i) = firstV b P w f p2 i from rfl, upT_set]
    exact ih (i + 1) k (by omega) (by omega)

def posS (s p3 i : Nat) : Nat := p3 + (if i = 0 then 0 else i * s - 1)
def secV (b : List Int) (s p3 i : Nat) : Int := if s = 0 then 0 else lv b (posS s p3 i) (s - if i = 0 then 1 else 0)

theorem tdiv_one (i : Nat) : Int.tdiv 1 ((i + 1 : Nat) : Int) = ((if i = 0 then 1 else 0 : Nat) : Int) := by
  by_cases h : i = 0
  · subst h; rfl
  · rw [tdiv_nonneg (by omega), if_neg h, Int.ediv_eq_zero_of_lt (by omega) (by omega)]
    rfl

theorem posS_succ {s p3 i : Nat} (hs : 2 ≤ s) : posS s p3 (i + 1) = posS s p3 i + (s - if i = 0 then 1 else 0) := by
  unfold posS
  rw [if_neg (by omega), Nat.succ_mul]
  by_cases h : i = 0
  · subst h
    simp
  · rw [if_neg h, if_neg h]
    have : 1 * 1 ≤ i * s := Nat.mul_le_mul (by omega) (by omega)
    omega

theorem read_l6_all {b : List Int} (hb : Bytes b) (hl : b.length = 16) (x0 : List Int) (x1 : List Int) (x2 : List Int) (x3 : Int) (x4 : Int) (x5 : Int) (x6 : Int) (x7 : Int) (x8 : Int) (x9 : Int) (x10 : Int) (x11 : Int) (x13 : Int) (x14 : Int) (x15 : Int) (x16 : List Int) {s p3 : Nat} (hs : 2 ≤ s ∧ s ≤ 3) (hp : p3 + (16 * s - 1) ≤ 128) :
    ∀ (d i k : Nat), i + d = 16 → d < k → bcseven_read_l6 600 k x0 x1 x2 x3 x4 x5 x6 x7 x8 x9 x10 x11 ((s : Int)) x13 x14 x15 x16 (tab 16 (upT i (secV b s p3))) b (((posS s p3 i : Nat) : Int)) ((i : Int)) = some (x0, (x1, (x2, (x3, (x4, (x5, (x6, (x7, (x8, (x9, (x10, (x11, ((s : Int), (x13, (x14, (x15, (x16, (tab 16 (secV b s p3), ())))))))))))))))))) := by
  intro d
  induction d with
  | zero =>
    intro i k h1 h2
    obtain ⟨k, rfl⟩ : ∃ k', k = k' + 1 := ⟨k - 1, by omega⟩
    obtain rfl : i = 16 := by omega
    unfold bcseven_read_l6 bcseven_read_l6S
    have : ¬ (((16 : Nat) : Int) < 16) := by omega
    simp only [this, decide_false, cond_false, upT_all]
  | succ d ih =>
    intro i k h1 h2
    obtain ⟨k, rfl⟩ : ∃ k', k = k' + 1 := ⟨k - 1, by omega⟩
    have i1 : (i : Int) < 16 := by omega
    have hle : (if i = 0 then 1 else 0 : Nat) ≤ 1 := by split <;> omega
    have e1 := posS_succ (p3 := p3) (i := i) hs.1
    have hm : posS s p3 (i + 1) ≤ 128 := by
      unfold posS
      rw [if_neg (by omega)]
      have := Nat.mul_le_mul_right s (show i + 1 ≤ 16 by omega)
      omega
    have hz : (!(((i + 1 : Nat) : Int) == 0)) = true := by
      rw [beqF (by omega)]
      rfl
    have ew : IntKind.wrap .i64 (((if i = 0 then 1 else 0 : Nat) : Int)) = ((if i = 0 then 1 else 0 : Nat) : Int) := w64 (by omega) (by omega)
    have en : IntKind.wrap .i64 ((s : Int) - ((if i = 0 then 1 else 0 : Nat) : Int)) = ((s - (if i = 0 then 1 else 0) : Nat) : Int) := by
      rw [w64 (by omega) (by omega)]
      omega
    unfold bcseven_read_l6 bcseven_read_l6S
    simp only [i1, decide_true, cond_true, Int.natCast_nonneg, Bool.and_self, Int.toNat_natCast]
    rw [nextI (by omega)]
    simp only [hz, cond_true, tdiv_one, ew, en]
    rw [rd9 hb hl (by omega) (by omega)]
    simp only [Option.bind_some]
    have es : secV b s p3 i = lv b (posS s p3 i) (s - (if i = 0 then 1 else 0)) := by
      unfold secV
      exact if_neg (by omega)
    rw [← e1, ← es, upT_set]
    exact ih (i + 1) k (by omega) (by omega)
end Go.AE.Gn

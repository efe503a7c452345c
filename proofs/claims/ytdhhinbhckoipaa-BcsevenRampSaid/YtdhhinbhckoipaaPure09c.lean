/- Layer 9: bcseven. Blocks, by the document. -/
import Derived.Test.YtdhhinbhckoipaaPure09b
set_option linter.unusedVariables false
set_option linter.unusedSimpArgs false
namespace Go.AE.Gn
open Go Go.AE

theorem lv_one (b : List Int) (a : Nat) : lv b a 1 = lowBit b a := by
  simp [lv, sumLo]
theorem low_first (b : List Int) {i : Nat} (h : i < 8) : lowBit b i = bitL (b.getD 0 0) i := by
  unfold lowBit
  rw [show i / 8 = 0 by omega, show i % 8 = i by omega]

theorem rMode_l0_all {b : List Int} (hb : Bytes b) (hl : b.length = 16) : ∀ (d i k : Nat), i + d = modeV (b.getD 0 0) → d < k → ref09_Mode_l0 600 k b (i : Int) = some (if modeV (b.getD 0 0) = 8 then .inr () else .inl ((modeV (b.getD 0 0) : Int), ())) := by
  obtain ⟨_, h8, hz, h1⟩ := mode_fact (hb.getD 0)
  intro d
  induction d with
  | zero =>
    intro i k e hk
    obtain ⟨k, rfl⟩ : ∃ k', k = k' + 1 := ⟨k - 1, by omega⟩
    obtain rfl : i = modeV (b.getD 0 0) := by omega
    unfold ref09_Mode_l0 ref09_Mode_l0S
    by_cases h : modeV (b.getD 0 0) = 8
    · rw [h]
      have : ¬ ((8 : Nat) : Int) < 8 := by omega
      simp only [this, decide_false, cond_false, if_true]
    · have i1 : ((modeV (b.getD 0 0) : Nat) : Int) < 8 := by omega
      have r : ref02_Field 600 b ((modeV (b.getD 0 0) : Nat) : Int) (1 : Int) = _ := rField (n := 1) hb hl (by omega) (by omega)
      rw [lv_one, low_first b (by omega), h1 (by omega)] at r
      simp only [i1, decide_true, cond_true, r, Option.bind_some, beqT, h, if_false]
  | succ d ih =>
    intro i k e hk
    obtain ⟨k, rfl⟩ : ∃ k', k = k' + 1 := ⟨k - 1, by omega⟩
    unfold ref09_Mode_l0 ref09_Mode_l0S
    have i1 : (i : Int) < 8 := by omega
    have r : ref02_Field 600 b (i : Int) (1 : Int) = _ := rField (n := 1) hb hl (by omega) (by omega)
    rw [lv_one, low_first b (by omega), hz i (by omega)] at r
    have z1 : ((0 : Int) == 1) = false := rfl
    simp only [i1, decide_true, cond_true, r, Option.bind_some, z1, cond_false]
    rw [nextI (by omega)]
    exact ih (i + 1) k (by omega) (by omega)

theorem rMode_is {b : List Int} (hb : Bytes b) (hl : b.length = 16) : ref09_Mode 600 b = some ((modeV (b.getD 0 0) : Int), ()) := by
  have h := mode_fact (hb.getD 0)
  have hn : (((b.length : Nat) : Int) != 16) = false := by rw [hl]; rfl
  unfold ref09_Mode
  rw [hn]
  simp only [cond_false]
  have r : ref09_Mode_l0 600 600 b (0 : Int) = _ := rMode_l0_all hb hl (modeV (b.getD 0 0)) 0 600 (by omega) (by omega)
  rw [r]
  by_cases h8 : modeV (b.getD 0 0) = 8
  · rw [if_pos h8, h8]
    rfl
  · rw [if_neg h8]
    rfl
theorem rMode_none {b : List Int} (hl : b.length ≠ 16) : ref09_Mode 600 b = some (8, ()) := by
  unfold ref09_Mode
  rw [bneT (by omega)]
  rfl

/-! ### ends -/

theorem rl2_all {b : List Int} (hb : Bytes b) (hl : b.length = 16) (x0 : List Int) (x1 : List Int) (x2 : Int) (x3 : Int) (x4 : Int) (x5 : Int) (x6 : Int) (x7 : Int) (x8 : Int) (x9 : Int) (x10 : Int) (x11 : Int) (x14 : Int) (x15 : Int) (x16 : Int) {E n c a : Nat} (g : Nat → Int) (hn : n ≤ 16) (hc : c < 4) (hE : E ≤ 100) (ha : a + E * n ≤ 128) :
    ∀ (d i k : Nat), i + d = E → d < k → ref09_Decode_l2 600 k x0 x1 x2 x3 x4 x5 x6 x7 x8 x9 x10 x11 b (((a + i * n : Nat) : Int)) x14 x15 x16 (tab (E * 4) (colG b a n c i g)) ((c : Int)) ((n : Int)) ((i : Int)) = some (x0, (x1, (x2, (x3, (x4, (x5, (x6, (x7, (x8, (x9, (x10, (x11, (b, (((a + E * n : Nat) : Int), (x14, (x15, (x16, (tab (E * 4) (colG b a n c E g), ((c : Int), ()))))))))))))))))))) := by
  intro d
  induction d with
  | zero =>
    intro i k h1 h2
    obtain ⟨k, rfl⟩ : ∃ k', k = k' + 1 := ⟨k - 1, by omega⟩
    obtain rfl : i = E := by omega
    have i2 : (i * 4) / 4 = i := by omega
    unfold ref09_Decode_l2 ref09_Decode_l2S
    simp only [tab_len, i2, Int.lt_irrefl, decide_false, cond_false]
  | succ d ih =>
    intro i k h1 h2
    obtain ⟨k, rfl⟩ : ∃ k', k = k' + 1 := ⟨k - 1, by omega⟩
    have hi : i < E := by omega
    have hm := mulS (n := n) hi
    have e1 : (i + 1) * n = i * n + n := Nat.succ_mul i n
    unfold ref09_Decode_l2 ref09_Decode_l2S
    have i1 : (i : Int) < (E : Int) := by omega
    have i2 : (E * 4) / 4 = E := by omega
    have i4 : (c : Int) < 4 := by omega
    simp only [tab_len, i2, i1, i4, decide_true, cond_true, Int.natCast_nonneg, Bool.and_self, Int.toNat_natCast, Option.bind_some]
    rw [rtake9 hb hl hn (by omega)]
    simp only [Option.bind_some]
    rw [colG_step b a n c i g hc, nextI (by omega), Nat.add_assoc, ← e1]
    exact ih (i + 1) k (by omega) (by omega)

theorem rl0_step {b : List Int} (hb : Bytes b) (hl : b.length = 16) (x0 : List Int) (x1 : List Int) (x2 : Int) (x3 : Int) (x4 : Int) (x5 : Int) (x8 : Int) (x9 : Int) (x10 : Int) (x11 : Int) (x14 : Int) (x15 : Int) (x16 : Int) {C A E n c a : Nat} (g : Nat → Int) (hn : n ≤ 16) (hc : c < 4) (hE : E ≤ 100) (ha : a + E * n ≤ 128) (hd : n = if c = 3 then A else C) (k : Nat) :
    ref09_Decode_l0 600 (k + 1) x0 x1 x2 x3 x4 x5 ((C : Int)) ((A : Int)) x8 x9 x10 x11 b ((a : Int)) x14 x15 x16 (tab (E * 4) g) ((c : Int)) = ref09_Decode_l0 600 k x0 x1 x2 x3 x4 x5 ((C : Int)) ((A : Int)) x8 x9 x10 x11 b (((a + E * n : Nat) : Int)) x14 x15 x16 (tab (E * 4) (colG b a n c E g)) (((c + 1 : Nat) : Int)) := by
  have i4 : (c : Int) < 4 := by omega
  have h := rl2_all hb hl x0 x1 x2 x3 x4 x5 (C : Int) (A : Int) x8 x9 x10 x11 x14 x15 x16 (c := c) (a := a) g hn hc hE ha E 0 600 (by omega) (by omega)
  simp only [colG_zero, Nat.zero_mul, Nat.add_zero, Int.natCast_zero] at h
  conv => lhs; unfold ref09_Decode_l0 ref09_Decode_l0S
  by_cases h3 : c = 3
  · rw [if_pos h3] at hd
    subst hd
    simp only [i4, decide_true, cond_true, beqT (show ((c : Nat) : Int) = 3 by omega), h, Option.bind_some]
    rw [nextI (by omega)]
  · rw [if_neg h3] at hd
    subst hd
    simp only [i4, decide_true, cond_true, beqF (show ((c : Nat) : Int) ≠ 3 by omega), cond_false, h, Option.bind_some]
    rw [nextI (by omega)]

theorem rl0_all {b : List Int} (hb : Bytes b) (hl : b.length = 16) (x0 : List Int) (x1 : List Int) (x2 : Int) (x3 : Int) (x4 : Int) (x5 : Int) (x8 : Int) (x9 : Int) (x10 : Int) (x11 : Int) (x14 : Int) (x15 : Int) (x16 : Int) {m : BM} (ok : m.Ok) {p0 : Nat} (hp : p0 + 6 * m.P * m.C + 2 * m.P * m.A ≤ 128) (k : Nat) :
    ref09_Decode_l0 600 (k + 5) x0 x1 x2 x3 x4 x5 ((m.C : Int)) ((m.A : Int)) x8 x9 x10 x11 b ((p0 : Int)) x14 x15 x16 (tab (2 * m.P * 4) fun _ => 0) ((0 : Int)) = some (x0, (x1, (x2, (x3, (x4, (x5, ((m.C : Int), ((m.A : Int), (x8, (x9, (x10, (x11, (b, (((p0 + 6 * m.P * m.C + 2 * m.P * m.A : Nat) : Int), (x14, (x15, (x16, (tab (2 * m.P * 4) (e0 b m p0), ())))))))))))))))))) := by
  have e6 : 6 * m.P * m.C = 2 * m.P * m.C + 2 * m.P * m.C + 2 * m.P * m.C := by
    rw [← Nat.add_mul, ← Nat.add_mul]
    congr 1
    omega
  have hC := ok.C7
  have hA := ok.A8
  have hP := ok.P3
  have s0 := rl0_step hb hl x0 x1 x2 x3 x4 x5 x8 x9 x10 x11 x14 x15 x16 (C := m.C) (A := m.A) (E := 2 * m.P) (n := m.C) (c := 0) (a := p0) (fun _ => 0) (by omega) (by omega) (by omega) (by omega) (by simp) (k + 4)
  have s1 := rl0_step hb hl x0 x1 x2 x3 x4 x5 x8 x9 x10 x11 x14 x15 x16 (C := m.C) (A := m.A) (E := 2 * m.P) (n := m.C) (c := 1) (a := p0 + 2 * m.P * m.C) (colG b p0 m.C 0 (2 * m.P) fun _ => 0) (by omega) (by omega) (by omega) (by omega) (by simp) (k + 3)
  have s2 := rl0_step hb hl x0 x1 x2 x3 x4 x5 x8 x9 x10 x11 x14 x15 x16 (C := m.C) (A := m.A) (E := 2 * m.P) (n := m.C) (c := 2) (a := p0 + 2 * m.P * m.C + 2 * m.P * m.C) (colG b (p0 + 2 * m.P * m.C) m.C 1 (2 * m.P) (colG b p0 m.C 0 (2 * m.P) fun _ => 0)) (by omega) (by omega) (by omega) (by omega) (by simp) (k + 2)
  have s3 := rl0_step hb hl x0 x1 x2 x3 x4 x5 x8 x9 x10 x11 x14 x15 x16 (C := m.C) (A := m.A) (E := 2 * m.P) (n := m.A) (c := 3) (a := p0 + 2 * m.P * m.C + 2 * m.P * m.C + 2 * m.P * m.C) (colG b (p0 + 2 * m.P * m.C + 2 * m.P * m.C) m.C 2 (2 * m.P) (colG b (p0 + 2 * m.P * m.C) m.C 1 (2 * m.P) (colG b p0 m.C 0 (2 * m.P) fun _ => 0))) (by omega) (by omega) (by omega) (by omega) (by simp) (k + 1)
  refine s0.trans (s1.trans (s2.trans (s3.trans ?_)))
  unfold ref09_Decode_l0 ref09_Decode_l0S
  have i4 : ¬ (((3 + 1 : Nat) : Int) < 4) := by omega
  simp only [i4, decide_false, cond_false]
  rw [tab_congr fun j hj => colG_four m p0 j hj, show p0 + 6 * m.P * m.C + 2 * m.P * m.A = p0 + 2 * m.P * m.C + 2 * m.P * m.C + 2 * m.P * m.C + 2 * m.P * m.A by omega]

/-! ### bits more -/

theorem wrap2 {x v : Int} (hx : 0 ≤ x ∧ x < 1000) (hv : 0 ≤ v ∧ v ≤ 1) : IntKind.wrap .i64 (IntKind.wrap .i64 (2 * x) + v) = 2 * x + v := by
  rw [w64 (x := 2 * x) (by omega) (by omega), w64 (by omega) (by omega)]

theorem rl6_all (x0 : List Int) (x1 : List Int) (x2 : Int) (x3 : Int) (x4 : Int) (x5 : Int) (x6 : Int) (x7 : Int) (x8 : Int) (x9 : Int) (x10 : Int) (x11 : Int) (x12 : List Int) (x13 : Int) (x14 : Int) (x15 : Int) (x16 : Int) {E i : Nat} (g : Nat → Int) (v : Int) (hg : ∀ j, 0 ≤ g j ∧ g j < 1000) (hv : 0 ≤ v ∧ v ≤ 1) (hi : i < E) (hE : E ≤ 100) :
    ∀ (d c k : Nat), c + d = 4 → d < k → ref09_Decode_l6 600 k x0 x1 x2 x3 x4 x5 x6 x7 x8 x9 x10 x11 x12 x13 x14 x15 x16 (tab (E * 4) fun j => if j / 4 = i ∧ j % 4 < c then 2 * g j + v else g j) ((i : Int)) v ((c : Int)) = some (x0, (x1, (x2, (x3, (x4, (x5, (x6, (x7, (x8, (x9, (x10, (x11, (x12, (x13, (x14, (x15, (x16, (tab (E * 4) fun j => if j / 4 = i then 2 * g j + v else g j, ((i : Int), ()))))))))))))))))))) := by
  intro d
  induction d with
  | zero =>
    intro c k h1 h2
    obtain ⟨k, rfl⟩ : ∃ k', k = k' + 1 := ⟨k - 1, by omega⟩
    obtain rfl : c = 4 := by omega
    unfold ref09_Decode_l6 ref09_Decode_l6S
    have i4 : ¬ (((4 : Nat) : Int) < 4) := by omega
    simp only [i4, decide_false, cond_false]
    rw [tab_congr fun j hj => show (if j / 4 = i ∧ j % 4 < 4 then 2 * g j + v else g j) = if j / 4 = i then 2 * g j + v else g j by
      have : j % 4 < 4 := Nat.mod_lt _ (by decide)
      simp only [this, and_true]]
  | succ d ih =>
    intro c k h1 h2
    obtain ⟨k, rfl⟩ : ∃ k', k = k' + 1 := ⟨k - 1, by omega⟩
    have hc : c < 4 := by omega
    have i1 : (c : Int) < 4 := by omega
    have i2 : (E * 4) / 4 = E := by omega
    have i3 : (i : Int) < (E : Int) := by omega
    unfold ref09_Decode_l6 ref09_Decode_l6S
    simp only [tab_len, i2, i1, i3, decide_true, cond_true, Int.natCast_nonneg, Bool.and_self, Int.toNat_natCast, tab_get (show i * 4 + c < E * 4 by omega), (mul4 i c hc).1, (mul4 i c hc).2, Nat.lt_irrefl, and_false, if_false, wrap2 (x := g (i * 4 + c)) (v := v) (by have := hg (i * 4 + c); omega) hv]
    rw [nextI (by omega), tab_set]
    rw [tab_congr fun j hj => show (if j = i * 4 + c then 2 * g (i * 4 + c) + v else if j / 4 = i ∧ j % 4 < c then 2 * g j + v else g j) = if j / 4 = i ∧ j % 4 < c + 1 then 2 * g j + v else g j by
      by_cases h : j = i * 4 + c
      · rw [if_pos h, if_pos (by omega), h]
      · rw [if_neg h]
        by_cases h5 : j / 4 = i ∧ j % 4 < c
        · rw [if_pos h5, if_pos (by omega)]
        · rw [if_neg h5, if_neg (by omega)]]
    exact ih (c + 1) k (by omega) (by omega)

def bG (b : List Int) (m : BM) (p0 p1 i j : Nat) : Int := if j / 4 < i then 2 * e0 b m p0 j + bitV b m p1 (j / 4) else e0 b m p0 j

theorem rl4_all {b : List Int} (hb : Bytes b) (hl : b.length = 16) (x0 : List Int) (x1 : List Int) (x2 : Int) (x3 : Int) (x4 : Int) (x5 : Int) (x6 : Int) (x7 : Int) (x8 : Int) (x9 : Int) (x10 : Int) (x11 : Int) (x14 : Int) (x15 : Int) (x16 : Int) {m : BM} (ok : m.Ok) (he : m.e = 1) (p0 p1 : Nat) (hp : p1 + 2 * m.P ≤ 128) :
    ∀ (d i k : Nat), i + d = 2 * m.P → d < k → ref09_Decode_l4 600 k x0 x1 x2 x3 x4 x5 x6 x7 x8 x9 x10 x11 b (((p1 + i : Nat) : Int)) x14 x15 x16 (tab (2 * m.P * 4) (bG b m p0 p1 i)) ((i : Int)) = some (x0, (x1, (x2, (x3, (x4, (x5, (x6, (x7, (x8, (x9, (x10, (x11, (b, (((p1 + 2 * m.P : Nat) : Int), (x14, (x15, (x16, (tab (2 * m.P * 4) (bG b m p0 p1 (2 * m.P)), ())))))))))))))))))) := by
  intro d
  induction d with
  | zero =>
    intro i k h1 h2
    obtain ⟨k, rfl⟩ : ∃ k', k = k' + 1 := ⟨k - 1, by omega⟩
    obtain rfl : i = 2 * m.P := by omega
    have i2 : (2 * m.P * 4) / 4 = 2 * m.P := by omega
    unfold ref09_Decode_l4 ref09_Decode_l4S
    simp only [tab_len, i2, Int.lt_irrefl, decide_false, cond_false]
  | succ d ih =>
    intro i k h1 h2
    obtain ⟨k, rfl⟩ : ∃ k', k = k' + 1 := ⟨k - 1, by omega⟩
    have hP3 := ok.P3
    have i2 : (2 * m.P * 4) / 4 = 2 * m.P := by omega
    have i1 : (i : Int) < ((2 * m.P : Nat) : Int) := by omega
    have r : ref09_taker_take 600 b ((p1 + i : Nat) : Int) (1 : Int) = _ := rtake9 (n := 1) hb hl (by omega) (by omega)
    have hv : lv b (p1 + i) 1 = bitV b m p1 i := by
      unfold bitV
      rw [if_pos he]
    rw [hv] at r
    have hg : ∀ j, 0 ≤ bG b m p0 p1 i j ∧ bG b m p0 p1 i j < 1000 := fun j => by
      have h1 := e0_bound b ok p0 j
      have h2 := bitV_01 b m p1 (j / 4)
      unfold bG
      split <;> omega
    have h6 := rl6_all x0 x1 x2 x3 x4 x5 x6 x7 x8 x9 x10 x11 b (((p1 + i + 1 : Nat)) : Int) x14 x15 x16 (E := 2 * m.P) (i := i) (bG b m p0 p1 i) (bitV b m p1 i) hg (bitV_01 b m p1 i) (by omega) (by omega) 4 0 600 (by omega) (by omega)
    simp only [Nat.not_lt_zero, and_false, if_false, Int.natCast_zero] at h6
    change ref09_Decode_l6 600 600 x0 x1 x2 x3 x4 x5 x6 x7 x8 x9 x10 x11 b (((p1 + i + 1 : Nat) : Int)) x14 x15 x16 (tab (2 * m.P * 4) (bG b m p0 p1 i)) ((i : Int)) (bitV b m p1 i) 0 = _ at h6
    unfold ref09_Decode_l4 ref09_Decode_l4S
    simp only [tab_len, i2, i1, decide_true, cond_true, r, Option.bind_some, h6]
    rw [nextI (by omega), tab_congr fun j hj => show (if j / 4 = i then 2 * bG b m p0 p1 i j + bitV b m p1 i else bG b m p0 p1 i j) = bG b m p0 p1 (i + 1) j by
      unfold bG
      by_cases h : j / 4 = i
      · rw [if_pos h, if_neg (by omega), if_pos (by omega), h]
      · rw [if_neg h]
        by_cases h2 : j / 4 < i
        · rw [if_pos h2, if_pos (by omega)]
        · rw [if_neg h2, if_neg (by omega)]]
    exact ih (i + 1) k (by omega) (by omega)

theorem rl10_all (x0 : List Int) (x1 : List Int) (x2 : Int) (x3 : Int) (x4 : Int) (x5 : Int) (x6 : Int) (x7 : Int) (x8 : Int) (x9 : Int) (x10 : Int) (x11 : Int) (x12 : List Int) (x13 : Int) (x14 : Int) (x15 : Int) (x16 : Int) {E i : Nat} (g : Nat → Int) (v : Int) (hg : ∀ j, 0 ≤ g j ∧ g j < 1000) (hv : 0 ≤ v ∧ v ≤ 1) (hi : i + 1 < E) (hE : E ≤ 100) :
    ∀ (d c k : Nat), c + d = 4 → d < k → ref09_Decode_l10 600 k x0 x1 x2 x3 x4 x5 x6 x7 x8 x9 x10 x11 x12 x13 x14 x15 x16 (tab (E * 4) fun j => if (j / 4 = i ∨ j / 4 = i + 1) ∧ j % 4 < c then 2 * g j + v else g j) ((i : Int)) v ((c : Int)) = some (x0, (x1, (x2, (x3, (x4, (x5, (x6, (x7, (x8, (x9, (x10, (x11, (x12, (x13, (x14, (x15, (x16, (tab (E * 4) fun j => if j / 4 = i ∨ j / 4 = i + 1 then 2 * g j + v else g j, ((i : Int), ()))))))))))))))))))) := by
  intro d
  induction d with
  | zero =>
    intro c k h1 h2
    obtain ⟨k, rfl⟩ : ∃ k', k = k' + 1 := ⟨k - 1, by omega⟩
    obtain rfl : c = 4 := by omega
    unfold ref09_Decode_l10 ref09_Decode_l10S
    have i4 : ¬ (((4 : Nat) : Int) < 4) := by omega
    simp only [i4, decide_false, cond_false]
    rw [tab_congr fun j hj => show (if (j / 4 = i ∨ j / 4 = i + 1) ∧ j % 4 < 4 then 2 * g j + v else g j) = if j / 4 = i ∨ j / 4 = i + 1 then 2 * g j + v else g j by
      have : j % 4 < 4 := Nat.mod_lt _ (by decide)
      simp only [this, and_true]]
  | succ d ih =>
    intro c k h1 h2
    obtain ⟨k, rfl⟩ : ∃ k', k = k' + 1 := ⟨k - 1, by omega⟩
    have hc : c < 4 := by omega
    have i1 : (c : Int) < 4 := by omega
    have i2 : (E * 4) / 4 = E := by omega
    have i3 : (i : Int) < (E : Int) := by omega
    have i4 : ((i + 1 : Nat) : Int) < (E : Int) := by omega
    have e1 : IntKind.wrap .i64 ((i : Int) + 1) = ((i + 1 : Nat) : Int) := nextI (by omega)
    have e2 : IntKind.wrap .i64 ((c : Int) + 1) = ((c + 1 : Nat) : Int) := nextI (by omega)
    have n1 : ¬ (i + 1) * 4 + c = i * 4 + c := by omega
    have n2 : ¬ (((i * 4 + c) / 4 = i ∨ (i * 4 + c) / 4 = i + 1) ∧ (i * 4 + c) % 4 < c) := by omega
    have n3 : ¬ ((((i + 1) * 4 + c) / 4 = i ∨ ((i + 1) * 4 + c) / 4 = i + 1) ∧ ((i + 1) * 4 + c) % 4 < c) := by omega
    unfold ref09_Decode_l10 ref09_Decode_l10S
    simp only [tab_len, i2, i1, i3, e1, e2, i4, decide_true, cond_true, Int.natCast_nonneg, Bool.and_self, Int.toNat_natCast, tab_get (show i * 4 + c < E * 4 by omega), tab_set, tab_get (show (i + 1) * 4 + c < E * 4 by omega), n1, n2, n3, if_false, wrap2 (x := g (i * 4 + c)) (v := v) (by have := hg (i * 4 + c); omega) hv, wrap2 (x := g ((i + 1) * 4 + c)) (v := v) (by have := hg ((i + 1) * 4 + c); omega) hv]
    rw [tab_congr fun j hj => show (if j = (i + 1) * 4 + c then 2 * g ((i + 1) * 4 + c) + v else if j = i * 4 + c then 2 * g (i * 4 + c) + v else if (j / 4 = i ∨ j / 4 = i + 1) ∧ j % 4 < c then 2 * g j + v else g j) = if (j / 4 = i ∨ j / 4 = i + 1) ∧ j % 4 < c + 1 then 2 * g j + v else g j by
      by_cases h0 : j = (i + 1) * 4 + c
      · rw [if_pos h0, if_pos (by omega), h0]
      · rw [if_neg h0]
        by_cases h : j = i * 4 + c
        · rw [if_pos h, if_pos (by omega), h]
        · rw [if_neg h]
          by_cases h5 : (j / 4 = i ∨ j / 4 = i + 1) ∧ j % 4 < c
          · rw [if_pos h5, if_pos (by omega)]
          · rw [if_neg h5, if_neg (by omega)]]
    exact ih (c + 1) k (by omega) (by omega)

theorem rl8_all {b : List Int} (hb : Bytes b) (hl : b.length = 16) (x0 : List Int) (x1 : List Int) (x2 : Int) (x3 : Int) (x4 : Int) (x5 : Int) (x6 : Int) (x7 : Int) (x8 : Int) (x9 : Int) (x10 : Int) (x11 : Int) (x14 : Int) (x15 : Int) (x16 : Int) {m : BM} (ok : m.Ok) (ho : m.o = 1) (p0 p1 : Nat) (hp : p1 + m.P ≤ 128) :
    ∀ (d t k : Nat), t + d = m.P → d < k → ref09_Decode_l8 600 k x0 x1 x2 x3 x4 x5 x6 x7 x8 x9 x10 x11 b (((p1 + t : Nat) : Int)) x14 x15 x16 (tab (2 * m.P * 4) (bG b m p0 p1 (2 * t))) (((2 * t : Nat) : Int)) = some (x0, (x1, (x2, (x3, (x4, (x5, (x6, (x7, (x8, (x9, (x10, (x11, (b, (((p1 + m.P : Nat) : Int), (x14, (x15, (x16, (tab (2 * m.P * 4) (bG b m p0 p1 (2 * m.P)), ())))))))))))))))))) := by
  intro d
  induction d with
  | zero =>
    intro t k h1 h2
    obtain ⟨k, rfl⟩ : ∃ k', k = k' + 1 := ⟨k - 1, by omega⟩
    obtain rfl : t = m.P := by omega
    have i2 : (2 * m.P * 4) / 4 = 2 * m.P := by omega
    unfold ref09_Decode_l8 ref09_Decode_l8S
    simp only [tab_len, i2, Int.lt_irrefl, decide_false, cond_false]
  | succ d ih =>
    intro t k h1 h2
    obtain ⟨k, rfl⟩ : ∃ k', k = k' + 1 := ⟨k - 1, by omega⟩
    have hP3 := ok.P3
    have heo := ok.eo
    have i2 : (2 * m.P * 4) / 4 = 2 * m.P := by omega
    have i1 : ((2 * t : Nat) : Int) < ((2 * m.P : Nat) : Int) := by omega
    have r : ref09_taker_take 600 b ((p1 + t : Nat) : Int) (1 : Int) = _ := rtake9 (n := 1) hb hl (by omega) (by omega)
    have hv : lv b (p1 + t) 1 = bitV b m p1 (2 * t) := by
      unfold bitV
      rw [if_neg (by omega), if_pos ho, show 2 * t / 2 = t by omega]
    have hv2 : bitV b m p1 (2 * t + 1) = bitV b m p1 (2 * t) := by
      unfold bitV
      rw [if_neg (by omega), if_pos ho, if_neg (by omega), if_pos ho, show (2 * t + 1) / 2 = 2 * t / 2 by omega]
    rw [hv] at r
    have hg : ∀ j, 0 ≤ bG b m p0 p1 (2 * t) j ∧ bG b m p0 p1 (2 * t) j < 1000 := fun j => by
      have h1 := e0_bound b ok p0 j
      have h2 := bitV_01 b m p1 (j / 4)
      unfold bG
      split <;> omega
    have h6 := rl10_all x0 x1 x2 x3 x4 x5 x6 x7 x8 x9 x10 x11 b (((p1 + t + 1 : Nat)) : Int) x14 x15 x16 (E := 2 * m.P) (i := 2 * t) (bG b m p0 p1 (2 * t)) (bitV b m p1 (2 * t)) hg (bitV_01 b m p1 (2 * t)) (by omega) (by omega) 4 0 600 (by omega) (by omega)
    simp only [Nat.not_lt_zero, and_false, if_false, show ((0 : Nat) : Int) = 0 from rfl] at h6
    change ref09_Decode_l10 600 600 x0 x1 x2 x3 x4 x5 x6 x7 x8 x9 x10 x11 b (((p1 + t + 1 : Nat) : Int)) x14 x15 x16 (tab (2 * m.P * 4) (bG b m p0 p1 (2 * t))) (((2 * t : Nat) : Int)) (bitV b m p1 (2 * t)) 0 = _ at h6
    have e2 : IntKind.wrap .i64 (((2 * t : Nat) : Int) + 2) = ((2 * (t + 1) : Nat) : Int) := by rw [w64 (by omega) (by omega)]; omega
    unfold ref09_Decode_l8 ref09_Decode_l8S
    simp only [tab_len, i2, i1, decide_true, cond_true, r, Option.bind_some, h6, e2]
    rw [tab_congr fun j hj => show (if j / 4 = 2 * t ∨ j / 4 = 2 * t + 1 then 2 * bG b m p0 p1 (2 * t) j + bitV b m p1 (2 * t) else bG b m p0 p1 (2 * t) j) = bG b m p0 p1 (2 * (t + 1)) j by
      unfold bG
      by_cases h : j / 4 = 2 * t ∨ j / 4 = 2 * t + 1
      · rw [if_pos h, if_neg (by omega), if_pos (by omega)]
        rcases h with h | h
        · rw [h]
        · rw [h, hv2]
      · rw [if_neg h]
        by_cases h2 : j / 4 < 2 * t
        · rw [if_pos h2, if_pos (by omega)]
        · rw [if_neg h2, if_neg (by omega)]]
    exact ih (t + 1) k (by omega) (by omega)

/-! ### wide ends -/

/-- The ends' numbers with their bits more. -/
def g1 (b : List Int) (m : BM) (p0 p1 j : Nat) : Int := 2 ^ (m.e + m.o) * e0 b m p0 j + bitV b m p1 (j / 4)

theorem g1_bound (b : List Int) {m : BM} (ok : m.Ok) (p0 p1 j : Nat) : 0 ≤ g1 b m p0 p1 j ∧ g1 b m p0 p1 j < 1000 := by
  have h1 := e0_bound b ok p0 j
  have h2 := bitV_01 b m p1 (j / 4)
  have h3 := ok.eo
  unfold g1
  rcases (by omega : m.e + m.o = 0 ∨ m.e + m.o = 1) with h | h <;> rw [h] <;> omega

def vG (b : List Int) (m : BM) (p0 p1 i j : Nat) : Int := if j / 4 < i then eF b m p0 p1 j else g1 b m p0 p1 j

theorem rl14_all (b : List Int) (x0 : List Int) (x1 : List Int) (x2 : Int) (x3 : Int) (x4 : Int) (x5 : Int) (x7 : Int) (x8 : Int) (x9 : Int) (x10 : Int) (x11 : Int) (x12 : List Int) (x13 : Int) (x14 : Int) (x15 : Int) (x16 : Int) {m : BM} (ok : m.Ok) (p0 p1 : Nat) {i : Nat} (hi : i < 2 * m.P) :
    ∀ (d c k : Nat), c + d = 3 → d < k → ref09_Decode_l14 600 k x0 x1 x2 x3 x4 x5 ((m.C : Int)) x7 x8 x9 x10 x11 x12 x13 x14 x15 x16 (tab (2 * m.P * 4) fun j => if j / 4 = i ∧ j % 4 < c then eF b m p0 p1 j else vG b m p0 p1 i j) (((m.e + m.o : Nat) : Int)) ((i : Int)) ((c : Int)) = some (x0, (x1, (x2, (x3, (x4, (x5, ((m.C : Int), (x7, (x8, (x9, (x10, (x11, (x12, (x13, (x14, (x15, (x16, (tab (2 * m.P * 4) fun j => if j / 4 = i ∧ j % 4 < 3 then eF b m p0 p1 j else vG b m p0 p1 i j, (((m.e + m.o : Nat) : Int), ((i : Int), ())))))))))))))))))))) := by
  intro d
  induction d with
  | zero =>
    intro c k h1 h2
    obtain ⟨k, rfl⟩ : ∃ k', k = k' + 1 := ⟨k - 1, by omega⟩
    obtain rfl : c = 3 := by omega
    unfold ref09_Decode_l14 ref09_Decode_l14S
    have i4 : ¬ (((3 : Nat) : Int) < 3) := by omega
    simp only [i4, decide_false, cond_false]
  | succ d ih =>
    intro c k h1 h2
    obtain ⟨k, rfl⟩ : ∃ k', k = k' + 1 := ⟨k - 1, by omega⟩
    have hc : c < 4 := by omega
    have hP3 := ok.P3
    have hC1 := ok.C1
    have hCe := ok.Ce
    have hb1 := g1_bound b ok p0 p1 (i * 4 + c)
    have i1 : (c : Int) < 3 := by omega
    have i1' : (c : Int) < 4 := by omega
    have i2 : (2 * m.P * 4) / 4 = 2 * m.P := by omega
    have i3 : (i : Int) < ((2 * m.P : Nat) : Int) := by omega
    have ew : IntKind.wrap .i64 ((m.C : Int) + ((m.e + m.o : Nat) : Int)) = ((m.C + (m.e + m.o) : Nat) : Int) := by rw [w64 (by omega) (by omega)]; omega
    have ev : (if (i * 4 + c) / 4 = i ∧ (i * 4 + c) % 4 < c then eF b m p0 p1 (i * 4 + c) else vG b m p0 p1 i (i * 4 + c)) = g1 b m p0 p1 (i * 4 + c) := by
      rw [if_neg (by omega)]
      unfold vG
      rw [if_neg (by omega)]
    have ee : wideV (m.C + (m.e + m.o)) (g1 b m p0 p1 (i * 4 + c)) = eF b m p0 p1 (i * 4 + c) := by
      unfold eF g1
      rw [if_neg (by omega)]
    unfold ref09_Decode_l14 ref09_Decode_l14S
    simp only [tab_len, i2, i1, i1', i3, decide_true, cond_true, Int.natCast_nonneg, Bool.and_self, Int.toNat_natCast, tab_get (show i * 4 + c < 2 * m.P * 4 by omega), ev, ew]
    rw [rWide_is (by omega) (by omega) (by omega), ee]
    simp only [Option.bind_some]
    rw [nextI (by omega), tab_set]
    rw [tab_congr fun j hj => show (if j = i * 4 + c then eF b m p0 p1 (i * 4 + c) else if j / 4 = i ∧ j % 4 < c then eF b m p0 p1 j else vG b m p0 p1 i j) = if j / 4 = i ∧ j % 4 < c + 1 then eF b m p0 p1 j else vG b m p0 p1 i j by
      by_cases h : j = i * 4 + c
      · rw [if_pos h, if_pos (by omega), h]
      · rw [if_neg h]
        by_cases h5 : j / 4 = i ∧ j % 4 < c
        · rw [if_pos h5, if_pos (by omega)]
        · rw [if_neg h5, if_neg (by omega)]]
    exact ih (c + 1) k (by omega) (by omega)

theorem rl12_all (b : List Int) (x0 : List Int) (x1 : List Int) (x2 : Int) (x3 : Int) (x4 : Int) (x5 : Int) (x8 : Int) (x9 : Int) (x10 : Int) (x11 : Int) (x12 : List Int) (x13 : Int) (x14 : Int) (x15 : Int) (x16 : Int) {m : BM} (ok : m.Ok) (p0 p1 : Nat) :
    ∀ (d i k : Nat), i + d = 2 * m.P → d < k → ref09_Decode_l12 600 k x0 x1 x2 x3 x4 x5 ((m.C : Int)) ((m.A : Int)) x8 x9 x10 x11 x12 x13 x14 x15 x16 (tab (2 * m.P * 4) (vG b m p0 p1 i)) (((m.e + m.o : Nat) : Int)) ((i : Int)) = some (x0, (x1, (x2, (x3, (x4, (x5, ((m.C : Int), ((m.A : Int), (x8, (x9, (x10, (x11, (x12, (x13, (x14, (x15, (x16, (tab (2 * m.P * 4) (eF b m p0 p1), ())))))))))))))))))) := by
  intro d
  induction d with
  | zero =>
    intro i k h1 h2
    obtain ⟨k, rfl⟩ : ∃ k', k = k' + 1 := ⟨k - 1, by omega⟩
    obtain rfl : i = 2 * m.P := by omega
    have i2 : (2 * m.P * 4) / 4 = 2 * m.P := by omega
    unfold ref09_Decode_l12 ref09_Decode_l12S
    simp only [tab_len, i2, Int.lt_irrefl, decide_false, cond_false]
    rw [tab_congr fun j hj => show vG b m p0 p1 (2 * m.P) j = eF b m p0 p1 j by
      unfold vG
      rw [if_pos (by omega)]]
  | succ d ih =>
    intro i k h1 h2
    obtain ⟨k, rfl⟩ : ∃ k', k = k' + 1 := ⟨k - 1, by omega⟩
    have hi : i < 2 * m.P := by omega
    have hP3 := ok.P3
    have hA8 := ok.A8
    have hAe := ok.Ae
    have i2 : (2 * m.P * 4) / 4 = 2 * m.P := by omega
    have i3 : (i : Int) < ((2 * m.P : Nat) : Int) := by omega
    have h14 := rl14_all b x0 x1 x2 x3 x4 x5 (m.A : Int) x8 x9 x10 x11 x12 x13 x14 x15 x16 ok p0 p1 hi 3 0 600 (by omega) (by omega)
    simp only [Nat.not_lt_zero, and_false, if_false, Int.natCast_zero] at h14
    change ref09_Decode_l14 600 600 x0 x1 x2 x3 x4 x5 ((m.C : Int)) ((m.A : Int)) x8 x9 x10 x11 x12 x13 x14 x15 x16 (tab (2 * m.P * 4) (vG b m p0 p1 i)) (((m.e + m.o : Nat) : Int)) ((i : Int)) 0 = _ at h14
    unfold ref09_Decode_l12 ref09_Decode_l12S
    simp only [tab_len, i2, i3, decide_true, cond_true, Int.natCast_nonneg, Bool.and_self, Int.toNat_natCast, Option.bind_some, h14]
    by_cases hA : m.A = 0
    · simp only [beqT (show ((m.A : Nat) : Int) = 0 by omega), cond_true, tab_set]
      rw [nextI (by omega), tab_congr fun j hj => show (if j = 3 + i * 4 then 255 else if j / 4 = i ∧ j % 4 < 3 then eF b m p0 p1 j else vG b m p0 p1 i j) = vG b m p0 p1 (i + 1) j by
        unfold vG
        by_cases h3 : j = 3 + i * 4
        · rw [if_pos h3, if_pos (by omega)]
          unfold eF
          rw [if_pos (by omega), if_pos hA]
        · rw [if_neg h3]
          by_cases h : j / 4 = i ∧ j % 4 < 3
          · rw [if_pos h, if_pos (by omega)]
          · rw [if_neg h]
            by_cases h2 : j / 4 < i
            · rw [if_pos h2, if_pos (by omega)]
            · rw [if_neg h2, if_neg (by omega)]]
      exact ih (i + 1) k (by omega) (by omega)
    · have hb1 := g1_bound b ok p0 p1 (3 + i * 4)
      have ew : IntKind.wrap .i64 ((m.A : Int) + ((m.e + m.o : Nat) : Int)) = ((m.A + (m.e + m.o) : Nat) : Int) := by rw [w64 (by omega) (by omega)]; omega
      have ev : (if (3 + i * 4) / 4 = i ∧ (3 + i * 4) % 4 < 3 then eF b m p0 p1 (3 + i * 4) else vG b m p0 p1 i (3 + i * 4)) = g1 b m p0 p1 (3 + i * 4) := by
        rw [if_neg (by omega)]
        unfold vG
        rw [if_neg (by omega)]
      have ee : wideV (m.A + (m.e + m.o)) (g1 b m p0 p1 (3 + i * 4)) = eF b m p0 p1 (3 + i * 4) := by
        unfold eF g1
        rw [if_pos (by omega), if_neg hA]
      simp only [beqF (show ((m.A : Nat) : Int) ≠ 0 by omega), cond_false, tab_get (show 3 + i * 4 < 2 * m.P * 4 by omega), ev, ew]
      rw [rWide_is (by omega) (by omega) (by omega), ee]
      simp only [Option.bind_some]
      rw [nextI (by omega), tab_set, tab_congr fun j hj => show (if j = 3 + i * 4 then eF b m p0 p1 (3 + i * 4) else if j / 4 = i ∧ j % 4 < 3 then eF b m p0 p1 j else vG b m p0 p1 i j) = vG b m p0 p1 (i + 1) j by
        unfold vG
        by_cases h3 : j = 3 + i * 4
        · rw [if_pos h3, if_pos (by omega), h3]
        · rw [if_neg h3]
          by_cases h : j / 4 = i ∧ j % 4 < 3
          · rw [if_pos h, if_pos (by omega)]
          · rw [if_neg h]
            by_cases h2 : j / 4 < i
            · rw [if_pos h2, if_pos (by omega)]
            · rw [if_neg h2, if_neg (by omega)]]
      exact ih (i + 1) k (by omega) (by omega)

/-! ### places -/

theorem rl18_all (x0 : List Int) (x1 : List Int) (x3 : Int) (x4 : Int) (x5 : Int) (x6 : Int) (x7 : Int) (x8 : Int) (x9 : Int) (x10 : Int) (x11 : Int) (x12 : List Int) (x13 : Int) (x15 : Int) (x16 : Int) (x17 : List Int) (x18 : List Int) (x19 : List Int) {P w i : Nat} (h3 : P ≤ 3) (hw : w < 64) :
    ∀ (d p k : Nat), p + d = P → 1 ≤ p → d < k → ref09_Decode_l18 600 k x0 x1 ((P : Int)) x3 x4 x5 x6 x7 x8 x9 x10 x11 x12 x13 ((w : Int)) x15 x16 x17 x18 x19 ((i : Int)) (if ancUp P w i p then 1 else 0) ((p : Int)) = some (x0, (x1, ((P : Int), (x3, (x4, (x5, (x6, (x7, (x8, (x9, (x10, (x11, (x12, (x13, ((w : Int), (x15, (x16, (x17, (x18, (x19, ((i : Int), (if ancUp P w i P then 1 else 0, ())))))))))))))))))))))) := by
  intro d
  induction d with
  | zero =>
    intro p k h1 hp h2
    obtain ⟨k, rfl⟩ : ∃ k', k = k' + 1 := ⟨k - 1, by omega⟩
    obtain rfl : p = P := by omega
    unfold ref09_Decode_l18 ref09_Decode_l18S
    simp only [Int.lt_irrefl, decide_false, cond_false]
  | succ d ih =>
    intro p k h1 hp h2
    obtain ⟨k, rfl⟩ : ∃ k', k = k' + 1 := ⟨k - 1, by omega⟩
    have i1 : (p : Int) < (P : Int) := by omega
    have fin := ih (p + 1) k (by omega) (by omega) (by omega)
    rw [ancUp_succ hp] at fin
    unfold ref09_Decode_l18 ref09_Decode_l18S
    simp only [i1, decide_true, cond_true]
    rw [nextI (by omega), (anch9 h3 hw hp (by omega)).2]
    simp only [Option.bind_some, beqN]
    cases h : (anchV P w p == i)
    · rw [h, Bool.or_false] at fin
      simp only [cond_false]
      exact fin
    · rw [h, Bool.or_true] at fin
      simp only [cond_true]
      exact fin

theorem less_cast (P w i : Nat) : (if ancUp P w i P then (1 : Int) else 0) = (lessV P w i : Int) := by
  unfold lessV ancB
  rw [show ((i == 0) || ((List.range P).any fun p => decide (1 ≤ p) && (anchV P w p == i))) = ancUp P w i P from rfl]
  cases ancUp P w i P <;> rfl

theorem rl16_all {b : List Int} (hb : Bytes b) (hl : b.length = 16) (x0 : List Int) (x1 : List Int) (x3 : Int) (x4 : Int) (x5 : Int) (x6 : Int) (x7 : Int) (x8 : Int) (x9 : Int) (x11 : Int) (x15 : Int) (x16 : Int) (x17 : List Int) (x19 : List Int) {P w f p2 : Nat} (hP1 : 1 ≤ P) (h3 : P ≤ 3) (hw : w < 64) (hf : 2 ≤ f ∧ f ≤ 4) (hp : posF P w f p2 16 ≤ 128) :
    ∀ (d i k : Nat), i + d = 16 → d < k → ref09_Decode_l16 600 k x0 x1 ((P : Int)) x3 x4 x5 x6 x7 x8 x9 ((f : Int)) x11 b (((posF P w f p2 i : Nat) : Int)) ((w : Int)) x15 x16 x17 (tab 16 (upT i (firstV b P w f p2))) x19 ((i : Int)) = some (x0, (x1, ((P : Int), (x3, (x4, (x5, (x6, (x7, (x8, (x9, ((f : Int), (x11, (b, (((posF P w f p2 16 : Nat) : Int), ((w : Int), (x15, (x16, (x17, (tab 16 (firstV b P w f p2), (x19, ())))))))))))))))))))) := by
  intro d
  induction d with
  | zero =>
    intro i k h1 h2
    obtain ⟨k, rfl⟩ : ∃ k', k = k' + 1 := ⟨k - 1, by omega⟩
    obtain rfl : i = 16 := by omega
    unfold ref09_Decode_l16 ref09_Decode_l16S
    have : ¬ (((16 : Nat) : Int) < 16) := by omega
    simp only [this, decide_false, cond_false, upT_all]
  | succ d ih =>
    intro i k h1 h2
    obtain ⟨k, rfl⟩ : ∃ k', k = k' + 1 := ⟨k - 1, by omega⟩
    have i1 : (i : Int) < 16 := by omega
    have hm := posF_mono P w f p2 (show i + 1 ≤ 16 by omega)
    have hle := lessV_le P w i
    have en : IntKind.wrap .i64 ((f : Int) - (lessV P w i : Int)) = ((f - lessV P w i : Nat) : Int) := by
      rw [w64 (by omega) (by omega)]
      omega
    have e1 : posF P w f p2 (i + 1) = posF P w f p2 i + (f - lessV P w i) := rfl
    have r := rtake9 hb hl (a := posF P w f p2 i) (n := f - lessV P w i) (by omega) (by omega)
    rw [← e1, show lv b (posF P w f p2 i) (f - lessV P w i) = firstV b P w f p2 i from rfl] at r
    have h18 := rl18_all x0 x1 x3 x4 x5 x6 x7 x8 x9 ((f : Int)) x11 b (((posF P w f p2 i : Nat) : Int)) x15 x16 x17 (tab 16 (upT i (firstV b P w f p2))) x19 (i := i) h3 hw (P - 1) 1 600 (by omega) (by omega) (by omega)
    rw [ancUp_one, less_cast] at h18
    have fin := ih (i + 1) k (by omega) (by omega)
    unfold ref09_Decode_l16 ref09_Decode_l16S
    by_cases h0 : i = 0
    · subst h0
      have h18' : ref09_Decode_l18 600 600 x0 x1 ((P : Int)) x3 x4 x5 x6 x7 x8 x9 ((f : Int)) x11 b (((posF P w f p2 0 : Nat) : Int)) ((w : Int)) x15 x16 x17 (tab 16 (upT 0 (firstV b P w f p2))) x19 (((0 : Nat) : Int)) 1 1 = some (x0, (x1, ((P : Int), (x3, (x4, (x5, (x6, (x7, (x8, (x9, ((f : Int), (x11, (b, (((posF P w f p2 0 : Nat) : Int), ((w : Int), (x15, (x16, (x17, (tab 16 (upT 0 (firstV b P w f p2)), (x19, (((0 : Nat) : Int), ((lessV P w 0 : Int), ())))))))))))))))))))))) := h18
      simp only [i1, decide_true, cond_true, beqT (show ((0 : Nat) : Int) = 0 from rfl), Int.natCast_nonneg, Bool.and_self, Int.toNat_natCast, h18', Option.bind_some, en, r]
      rw [nextI (by omega), upT_set]
      exact fin
    · have h18' : ref09_Decode_l18 600 600 x0 x1 ((P : Int)) x3 x4 x5 x6 x7 x8 x9 ((f : Int)) x11 b (((posF P w f p2 i : Nat) : Int)) ((w : Int)) x15 x16 x17 (tab 16 (upT i (firstV b P w f p2))) x19 (((i : Nat) : Int)) 0 1 = some (x0, (x1, ((P : Int), (x3, (x4, (x5, (x6, (x7, (x8, (x9, ((f : Int), (x11, (b, (((posF P w f p2 i : Nat) : Int), ((w : Int), (x15, (x16, (x17, (tab 16 (upT i (firstV b P w f p2)), (x19, (((i : Nat) : Int), ((lessV P w i : Int), ())))))))))))))))))))))) := by
        have hz : (i == 0) = false := by simp [h0]
        rw [hz] at h18
        exact h18
      simp only [i1, decide_true, cond_true, beqF (show ((i : Nat) : Int) ≠ 0 by omega), cond_false, Int.natCast_nonneg, Bool.and_self, Int.toNat_natCast, h18', Option.bind_some, en, r]
      rw [nextI (by omega), upT_set]
      exact fin

theorem rl20_none (x0 : List Int) (x1 : List Int) (x2 : Int) (x3 : Int) (x4 : Int) (x5 : Int) (x6 : Int) (x7 : Int) (x8 : Int) (x9 : Int) (x10 : Int) (x12 : List Int) (x13 : Int) (x14 : Int) (x15 : Int) (x16 : Int) (x17 : List Int) (x18 : List Int) (x19 : List Int) (k : Nat) : ref09_Decode_l20 600 (k + 1) x0 x1 x2 x3 x4 x5 x6 x7 x8 x9 x10 (((0 : Nat) : Int)) x12 x13 x14 x15 x16 x17 x18 x19 0 = some (x0, (x1, (x2, (x3, (x4, (x5, (x6, (x7, (x8, (x9, (x10, (((0 : Nat) : Int), (x14, (x15, (x16, (x17, (x18, (x19, ())))))))))))))))))) := by
  unfold ref09_Decode_l20 ref09_Decode_l20S
  have : ¬ (0 : Int) < ((0 : Nat) : Int) := by omega
  simp only [this, decide_false, cond_false]
  cases decide ((0 : Int) < 16) <;> rfl

theorem rl20_all {b : List Int} (hb : Bytes b) (hl : b.length = 16) (x0 : List Int) (x1 : List Int) (x2 : Int) (x3 : Int) (x4 : Int) (x5 : Int) (x6 : Int) (x7 : Int) (x8 : Int) (x9 : Int) (x10 : Int) (x14 : Int) (x15 : Int) (x16 : Int) (x17 : List Int) (x18 : List Int) {s p3 : Nat} (hs : 2 ≤ s ∧ s ≤ 3) (hp : p3 + (16 * s - 1) ≤ 128) :
    ∀ (d i k : Nat), i + d = 16 → d < k → ref09_Decode_l20 600 k x0 x1 x2 x3 x4 x5 x6 x7 x8 x9 x10 ((s : Int)) b (((posS s p3 i : Nat) : Int)) x14 x15 x16 x17 x18 (tab 16 (upT i (secV b s p3))) ((i : Int)) = some (x0, (x1, (x2, (x3, (x4, (x5, (x6, (x7, (x8, (x9, (x10, ((s : Int), (x14, (x15, (x16, (x17, (x18, (tab 16 (secV b s p3), ())))))))))))))))))) := by
  intro d
  induction d with
  | zero =>
    intro i k h1 h2
    obtain ⟨k, rfl⟩ : ∃ k', k = k' + 1 := ⟨k - 1, by omega⟩
    obtain rfl : i = 16 := by omega
    unfold ref09_Decode_l20 ref09_Decode_l20S
    have : ¬ (((16 : Nat) : Int) < 16) := by omega
    simp only [this, decide_false, cond_false, upT_all]
  | succ d ih =>
    intro i k h1 h2
    obtain ⟨k, rfl⟩ : ∃ k', k = k' + 1 := ⟨k - 1, by omega⟩
    have i1 : (i : Int) < 16 := by omega
    have hle : (if i = 0 then 1 else 0 : Nat) ≤ 1 := by split <;> omega
    have e1 := posS_succ (p3 := p3) (i := i) hs.1
    have hm : posS s p3 (i + 1) ≤ 128 := by
      unfold posS
      rw [if_neg (by omega)]
      have := Nat.mul_le_mul_right s (show i + 1 ≤ 16 by omega)
      omega
    have es : secV b s p3 i = lv b (posS s p3 i) (s - (if i = 0 then 1 else 0)) := by
      unfold secV
      exact if_neg (by omega)
    have r := rtake9 hb hl (a := posS s p3 i) (n := s - (if i = 0 then 1 else 0)) (by omega) (by omega)
    rw [← e1, ← es] at r
    have is : (0 : Int) < (s : Int) := by omega
    have fin := ih (i + 1) k (by omega) (by omega)
    unfold ref09_Decode_l20 ref09_Decode_l20S
    by_cases h0 : i = 0
    · subst h0
      have ew : IntKind.wrap .i64 ((s : Int) - 1) = ((s - 1 : Nat) : Int) := by rw [w64 (by omega) (by omega)]; omega
      rw [if_pos rfl] at r
      simp only [i1, is, decide_true, cond_true, beqT (show ((0 : Nat) : Int) = 0 from rfl), Int.natCast_nonneg, Bool.and_self, Int.toNat_natCast, ew, r, Option.bind_some]
      rw [nextI (by omega), upT_set]
      exact fin
    · have ew : IntKind.wrap .i64 ((s : Int) - 0) = ((s - 0 : Nat) : Int) := by rw [w64 (by omega) (by omega)]; omega
      rw [if_neg h0] at r
      simp only [i1, is, decide_true, cond_true, beqF (show ((i : Nat) : Int) ≠ 0 by omega), cond_false, Int.natCast_nonneg, Bool.and_self, Int.toNat_natCast, ew, r, Option.bind_some]
      rw [nextI (by omega), upT_set]
      exact fin

/-! ### texels -/

theorem rl24_all (x0 : List Int) (x2 : Int) (x3 : Int) (x4 : Int) (x5 : Int) (x6 : Int) (x7 : Int) (x8 : Int) (x9 : Int) (x10 : Int) (x11 : Int) (x12 : Int) (x13 : Int) (x14 : Int) (x15 : List Int) (x16 : List Int) (x17 : List Int) (x23 : Int) (x24 : Int) {a z g q : Nat → Int} {p : Int} {n i : Nat} (hi : i < 16) (hg : ∀ c, c < 3 → ref09_mix 600 (a c) (z c) p (n : Int) = some (g c, ())) :
    ∀ (d c k : Nat), c + d = 3 → d < k → ref09_Decode_l24 600 k x0 (tab 64 fun j => if j / 4 = i ∧ j % 4 < c then g (j % 4) else q j) x2 x3 x4 x5 x6 x7 x8 x9 x10 x11 x12 x13 x14 x15 x16 x17 ((i : Int)) (tab 4 a) (tab 4 z) p ((n : Int)) x23 x24 ((c : Int)) = some (x0, (tab 64 fun j => if j / 4 = i ∧ j % 4 < 3 then g (j % 4) else q j, (x2, (x3, (x4, (x5, (x6, (x7, (x8, (x9, (x10, (x11, (x12, (x13, (x14, (x15, (x16, (x17, ((i : Int), (tab 4 a, (tab 4 z, (x23, (x24, ()))))))))))))))))))))))) := by
  intro d
  induction d with
  | zero =>
    intro c k h1 h2
    obtain ⟨k, rfl⟩ : ∃ k', k = k' + 1 := ⟨k - 1, by omega⟩
    obtain rfl : c = 3 := by omega
    unfold ref09_Decode_l24 ref09_Decode_l24S
    have : ¬ (((3 : Nat) : Int) < 3) := by omega
    simp only [this, decide_false, cond_false]
  | succ d ih =>
    intro c k h1 h2
    obtain ⟨k, rfl⟩ : ∃ k', k = k' + 1 := ⟨k - 1, by omega⟩
    have i1 : (c : Int) < 3 := by omega
    have i2 : (c : Int) < 4 := by omega
    have i3 : (i : Int) < 16 := by omega
    unfold ref09_Decode_l24 ref09_Decode_l24S
    simp only [i1, i2, i3, decide_true, cond_true, Int.natCast_nonneg, Bool.and_self, Int.toNat_natCast, tab_get (show c < 4 by omega), hg c (by omega), Option.bind_some, tab_set]
    rw [nextI (by omega), tab_congr fun j hj => show (if j = i * 4 + c then g c else if j / 4 = i ∧ j % 4 < c then g (j % 4) else q j) = if j / 4 = i ∧ j % 4 < c + 1 then g (j % 4) else q j by
      by_cases h : j = i * 4 + c
      · rw [if_pos h, if_pos (by omega), show j % 4 = c by omega]
      · rw [if_neg h]
        by_cases h5 : j / 4 = i ∧ j % 4 < c
        · rw [if_pos h5, if_pos (by omega)]
        · rw [if_neg h5, if_neg (by omega)]]
    exact ih (c + 1) k (by omega) (by omega)

theorem out3 {q : Nat → Int} (g : Nat → Int) {i : Nat} (hi : i < 16) : (tab 64 fun j => if j / 4 = i ∧ j % 4 < 3 then g (j % 4) else q j).set (3 + i * 4) (g 3) = tab 64 fun j => if j / 4 = i then g (j % 4) else q j := by
  rw [tab_set]
  refine tab_congr fun j hj => ?_
  by_cases h3 : j = 3 + i * 4
  · rw [if_pos h3, if_pos (by omega), show j % 4 = 3 by omega]
  · rw [if_neg h3]
    by_cases h : j / 4 = i ∧ j % 4 < 3
    · rw [if_pos h, if_pos h.1]
    · rw [if_neg h, if_neg (by omega)]

theorem out_turn {q : Nat → Int} (g : Nat → Int) {i : Nat} (hi : i < 16) {t : Int} (ht : 0 ≤ t ∧ t < 4) (h : 0 < t) :
    List.set (List.set (tab 64 fun j => if j / 4 = i then g (j % 4) else q j) (3 + i * 4) (List.getD (tab 64 fun j => if j / 4 = i then g (j % 4) else q j) (i * 4 + (t - 1).toNat) 0)) (i * 4 + (t - 1).toNat) (List.getD (tab 64 fun j => if j / 4 = i then g (j % 4) else q j) (3 + i * 4) 0)
      = tab 64 fun j => if j / 4 = i then turnV t g (j % 4) else q j := by
  have e : (t - 1).toNat = t.toNat - 1 := by omega
  have ht3 : t.toNat - 1 < 3 := by omega
  rw [e, tab_get (by omega), tab_get (by omega), tab_set, tab_set]
  refine tab_congr fun j hj => ?_
  rw [show (i * 4 + (t.toNat - 1)) % 4 = t.toNat - 1 by omega, show (3 + i * 4) % 4 = 3 by omega, show (i * 4 + (t.toNat - 1)) / 4 = i by omega, show (3 + i * 4) / 4 = i by omega, if_pos rfl, if_pos rfl]
  unfold turnV
  rw [if_pos h]
  by_cases h1 : j / 4 = i
  · rw [if_pos h1, if_pos h1]
    by_cases h2 : j = i * 4 + (t.toNat - 1)
    · rw [if_pos h2, if_pos (by omega)]
    · rw [if_neg h2]
      by_cases h3 : j = 3 + i * 4
      · rw [if_pos h3, if_neg (by omega), if_pos (by omega)]
      · rw [if_neg h3, if_neg (by omega), if_neg (by omega)]
  · rw [if_neg h1, if_neg h1, if_neg (by omega), if_neg (by omega)]

theorem out_next (b : List Int) (m : BM) {i : Nat} (hi : i < 16) : (tab 64 fun j => if j / 4 = i then texV b m i (j % 4) else upT (i * 4) (decF b m) j) = tab 64 (upT ((i + 1) * 4) (decF b m)) := by
  refine tab_congr fun j hj => ?_
  unfold upT decF
  by_cases h : j / 4 = i
  · rw [if_pos h, if_pos (by omega), h]
  · rw [if_neg h]
    by_cases h2 : j < i * 4
    · rw [if_pos h2, if_pos (by omega)]
    · rw [if_neg h2, if_neg (by omega)]

theorem rl22_all (b : List Int) {m : BM} (ok : m.Ok) (x0 : List Int) :
    ∀ (d i k : Nat), i + d = 16 → d < k → ref09_Decode_l22 600 k x0 (tab 64 (upT (i * 4) (decF b m))) ((m.P : Int)) ((m.W : Int)) ((m.T : Int)) ((m.H : Int)) ((m.C : Int)) ((m.A : Int)) ((m.e : Int)) ((m.o : Int)) ((m.f : Int)) ((m.s : Int)) ((wN b m : Int)) (tN b m) (cN b m) (tab (2 * m.P * 4) (endF b m)) (tab 16 (firF b m)) (tab 16 (secF b m)) ((i : Int)) = some (x0, (tab 64 (decF b m), ())) := by
  intro d
  induction d with
  | zero =>
    intro i k h1 h2
    obtain ⟨k, rfl⟩ : ∃ k', k = k' + 1 := ⟨k - 1, by omega⟩
    obtain rfl : i = 16 := by omega
    unfold ref09_Decode_l22 ref09_Decode_l22S
    have : ¬ (((16 : Nat) : Int) < 16) := by omega
    simp only [this, decide_false, cond_false]
    rw [show 16 * 4 = 64 from rfl, upT_all]
  | succ d ih =>
    intro i k h1 h2
    obtain ⟨k, rfl⟩ : ∃ k', k = k' + 1 := ⟨k - 1, by omega⟩
    have hi : i < 16 := by omega
    have fin := ih (i + 1) k (by omega) (by omega)
    obtain ⟨_, q2, q3⟩ := part9 ok.P1 ok.P3 (wN_is b ok).2 hi
    have hP3 := ok.P3
    have ht := tN_bound b ok
    have hcol := colP_ok b ok i
    have halp := alpP_ok b ok i
    have i2 : (2 * m.P * 4) / 4 = 2 * m.P := by omega
    have e1 : IntKind.wrap .i64 (2 * ((partV m.P (wN b m) i : Nat) : Int)) = ((2 * partV m.P (wN b m) i : Nat) : Int) := by rw [w64 (by omega) (by omega)]; omega
    have e2 : IntKind.wrap .i64 (((2 * partV m.P (wN b m) i : Nat) : Int) + 1) = ((2 * partV m.P (wN b m) i + 1 : Nat) : Int) := nextI (by omega)
    have i3 : ((2 * partV m.P (wN b m) i : Nat) : Int) < ((2 * m.P : Nat) : Int) := by omega
    have i4 : ((2 * partV m.P (wN b m) i + 1 : Nat) : Int) < ((2 * m.P : Nat) : Int) := by omega
    have i5 : (i : Int) < 16 := by omega
    have r1 : List.take 4 (List.drop (2 * partV m.P (wN b m) i * 4) (tab (2 * m.P * 4) (endF b m))) = tab 4 (aF b m i) := tab_part (by omega)
    have r2 : List.take 4 (List.drop ((2 * partV m.P (wN b m) i + 1) * 4) (tab (2 * m.P * 4) (endF b m))) = tab 4 (zF b m i) := tab_part (by omega)
    unfold ref09_Decode_l22 ref09_Decode_l22S
    simp only [q2, Option.bind_some, tab_len, i2, e1, e2, i3, i4, i5, r1, r2, decide_true, cond_true, Int.natCast_nonneg, Bool.and_self, Int.toNat_natCast, tab_get hi]
    by_cases hs : m.s = 0
    · have g1 : ¬ (0 : Int) < (m.s : Int) := by omega
      have hc1 : colP b m i = (firF b m i, m.f) := if_neg (by omega)
      have ha1 : alpP b m i = (firF b m i, m.f) := if_neg (by omega)
      rw [hc1] at hcol
      rw [ha1] at halp
      have g2 := beqF (show cN b m ≠ 1 by
        have := lv_bound b (m.base + m.W + m.T) m.H
        rw [ok.Hs hs] at this
        unfold cN
        rw [ok.Hs hs]
        omega)
      have h24 := rl24_all x0 ((m.P : Int)) ((m.W : Int)) ((m.T : Int)) ((m.H : Int)) ((m.C : Int)) ((m.A : Int)) ((m.e : Int)) ((m.o : Int)) ((m.f : Int)) ((m.s : Int)) ((wN b m : Int)) (tN b m) (cN b m) (tab (2 * m.P * 4) (endF b m)) (tab 16 (firF b m)) (tab 16 (secF b m)) (firF b m i) ((m.f : Int)) (a := aF b m i) (z := zF b m i) (g := preV b m i) (q := upT (i * 4) (decF b m)) (p := firF b m i) (n := m.f) hi (fun c hc => by
        have := (mix9 (endF_bound b ok (2 * partV m.P (wN b m) i * 4 + c)) (endF_bound b ok ((2 * partV m.P (wN b m) i + 1) * 4 + c)) hcol.1 hcol.2).2
        unfold preV
        rw [if_neg (by omega), hc1]
        exact this) 3 0 600 (by omega) (by omega)
      have m3 := (mix9 (endF_bound b ok (2 * partV m.P (wN b m) i * 4 + 3)) (endF_bound b ok ((2 * partV m.P (wN b m) i + 1) * 4 + 3)) halp.1 halp.2).2
      have p3 : mx (aF b m i 3) (zF b m i 3) (firF b m i) (m.f) = preV b m i 3 := by
        unfold preV
        rw [if_pos rfl, ha1]
      change ref09_mix 600 (aF b m i 3) (zF b m i 3) (firF b m i) (m.f : Int) = some (mx (aF b m i 3) (zF b m i 3) (firF b m i) (m.f), ()) at m3
      rw [p3] at m3
      simp only [Nat.not_lt_zero, and_false, if_false, show ((0 : Nat) : Int) = 0 from rfl] at h24
      change ref09_Decode_l24 600 600 x0 (tab 64 (upT (i * 4) (decF b m))) ((m.P : Int)) ((m.W : Int)) ((m.T : Int)) ((m.H : Int)) ((m.C : Int)) ((m.A : Int)) ((m.e : Int)) ((m.o : Int)) ((m.f : Int)) ((m.s : Int)) ((wN b m : Int)) (tN b m) (cN b m) (tab (2 * m.P * 4) (endF b m)) (tab 16 (firF b m)) (tab 16 (secF b m)) ((i : Int)) (tab 4 (aF b m i)) (tab 4 (zF b m i)) (firF b m i) ((m.f : Int)) (firF b m i) ((m.f : Int)) 0 = _ at h24
      simp only [g1, g2, i5, decide_true, decide_false, cond_true, cond_false, Int.natCast_nonneg, Bool.and_self, h24, Option.bind_some, tab_get (show 3 < 4 by omega), m3, Int.toNat_natCast, out3 (preV b m i) hi]
      by_cases h : 0 < tN b m
      · have ew : IntKind.wrap .i64 (tN b m - 1) = tN b m - 1 := w64 (by omega) (by omega)
        have j1 : (0 : Int) ≤ tN b m - 1 := by omega
        have j2 : tN b m - 1 < 4 := by omega
        simp only [h, decide_true, cond_true, ew, j1, j2, Bool.and_self]
        rw [out_turn (preV b m i) hi ht h, nextI (by omega), show (tab 64 fun j => if j / 4 = i then turnV (tN b m) (preV b m i) (j % 4) else upT (i * 4) (decF b m) j) = tab 64 (upT ((i + 1) * 4) (decF b m)) from out_next b m hi]
        exact fin
      · simp only [h, decide_false, cond_false]
        rw [nextI (by omega), tab_congr fun j hj => show (if j / 4 = i then preV b m i (j % 4) else upT (i * 4) (decF b m) j) = if j / 4 = i then texV b m i (j % 4) else upT (i * 4) (decF b m) j by
          unfold texV turnV
          rw [if_neg h], out_next b m hi]
        exact fin
    · have g1 : (0 : Int) < (m.s : Int) := by omega
      by_cases hch : cN b m = 1
      · have g2 := beqT hch
        have hc1 : colP b m i = (secF b m i, m.s) := if_pos ⟨hs, hch⟩
        have ha1 : alpP b m i = (firF b m i, m.f) := if_neg (fun h => h.2 hch)
        rw [hc1] at hcol
        rw [ha1] at halp
        have h24 := rl24_all x0 ((m.P : Int)) ((m.W : Int)) ((m.T : Int)) ((m.H : Int)) ((m.C : Int)) ((m.A : Int)) ((m.e : Int)) ((m.o : Int)) ((m.f : Int)) ((m.s : Int)) ((wN b m : Int)) (tN b m) (cN b m) (tab (2 * m.P * 4) (endF b m)) (tab 16 (firF b m)) (tab 16 (secF b m)) (firF b m i) ((m.f : Int)) (a := aF b m i) (z := zF b m i) (g := preV b m i) (q := upT (i * 4) (decF b m)) (p := secF b m i) (n := m.s) hi (fun c hc => by
          have := (mix9 (endF_bound b ok (2 * partV m.P (wN b m) i * 4 + c)) (endF_bound b ok ((2 * partV m.P (wN b m) i + 1) * 4 + c)) hcol.1 hcol.2).2
          unfold preV
          rw [if_neg (by omega), hc1]
          exact this) 3 0 600 (by omega) (by omega)
        have m3 := (mix9 (endF_bound b ok (2 * partV m.P (wN b m) i * 4 + 3)) (endF_bound b ok ((2 * partV m.P (wN b m) i + 1) * 4 + 3)) halp.1 halp.2).2
        have p3 : mx (aF b m i 3) (zF b m i 3) (firF b m i) (m.f) = preV b m i 3 := by
          unfold preV
          rw [if_pos rfl, ha1]
        change ref09_mix 600 (aF b m i 3) (zF b m i 3) (firF b m i) (m.f : Int) = some (mx (aF b m i 3) (zF b m i 3) (firF b m i) (m.f), ()) at m3
        rw [p3] at m3
        simp only [Nat.not_lt_zero, and_false, if_false, show ((0 : Nat) : Int) = 0 from rfl] at h24
        change ref09_Decode_l24 600 600 x0 (tab 64 (upT (i * 4) (decF b m))) ((m.P : Int)) ((m.W : Int)) ((m.T : Int)) ((m.H : Int)) ((m.C : Int)) ((m.A : Int)) ((m.e : Int)) ((m.o : Int)) ((m.f : Int)) ((m.s : Int)) ((wN b m : Int)) (tN b m) (cN b m) (tab (2 * m.P * 4) (endF b m)) (tab 16 (firF b m)) (tab 16 (secF b m)) ((i : Int)) (tab 4 (aF b m i)) (tab 4 (zF b m i)) (secF b m i) ((m.s : Int)) (firF b m i) ((m.f : Int)) 0 = _ at h24
        simp only [g1, g2, i5, decide_true, decide_false, cond_true, cond_false, Int.natCast_nonneg, Bool.and_self, h24, Option.bind_some, tab_get (show 3 < 4 by omega), m3, Int.toNat_natCast, out3 (preV b m i) hi]
        by_cases h : 0 < tN b m
        · have ew : IntKind.wrap .i64 (tN b m - 1) = tN b m - 1 := w64 (by omega) (by omega)
          have j1 : (0 : Int) ≤ tN b m - 1 := by omega
          have j2 : tN b m - 1 < 4 := by omega
          simp only [h, decide_true, cond_true, ew, j1, j2, Bool.and_self]
          rw [out_turn (preV b m i) hi ht h, nextI (by omega), show (tab 64 fun j => if j / 4 = i then turnV (tN b m) (preV b m i) (j % 4) else upT (i * 4) (decF b m) j) = tab 64 (upT ((i + 1) * 4) (decF b m)) from out_next b m hi]
          exact fin
        · simp only [h, decide_false, cond_false]
          rw [nextI (by omega), tab_congr fun j hj => show (if j / 4 = i then preV b m i (j % 4) else upT (i * 4) (decF b m) j) = if j / 4 = i then texV b m i (j % 4) else upT (i * 4) (decF b m) j by
            unfold texV turnV
            rw [if_neg h], out_next b m hi]
          exact fin
      · have g2 := beqF hch
        have hc1 : colP b m i = (firF b m i, m.f) := if_neg (fun h => hch h.2)
        have ha1 : alpP b m i = (secF b m i, m.s) := if_pos ⟨hs, hch⟩
        rw [hc1] at hcol
        rw [ha1] at halp
        have h24 := rl24_all x0 ((m.P : Int)) ((m.W : Int)) ((m.T : Int)) ((m.H : Int)) ((m.C : Int)) ((m.A : Int)) ((m.e : Int)) ((m.o : Int)) ((m.f : Int)) ((m.s : Int)) ((wN b m : Int)) (tN b m) (cN b m) (tab (2 * m.P * 4) (endF b m)) (tab 16 (firF b m)) (tab 16 (secF b m)) (secF b m i) ((m.s : Int)) (a := aF b m i) (z := zF b m i) (g := preV b m i) (q := upT (i * 4) (decF b m)) (p := firF b m i) (n := m.f) hi (fun c hc => by
          have := (mix9 (endF_bound b ok (2 * partV m.P (wN b m) i * 4 + c)) (endF_bound b ok ((2 * partV m.P (wN b m) i + 1) * 4 + c)) hcol.1 hcol.2).2
          unfold preV
          rw [if_neg (by omega), hc1]
          exact this) 3 0 600 (by omega) (by omega)
        have m3 := (mix9 (endF_bound b ok (2 * partV m.P (wN b m) i * 4 + 3)) (endF_bound b ok ((2 * partV m.P (wN b m) i + 1) * 4 + 3)) halp.1 halp.2).2
        have p3 : mx (aF b m i 3) (zF b m i 3) (secF b m i) (m.s) = preV b m i 3 := by
          unfold preV
          rw [if_pos rfl, ha1]
        change ref09_mix 600 (aF b m i 3) (zF b m i 3) (secF b m i) (m.s : Int) = some (mx (aF b m i 3) (zF b m i 3) (secF b m i) (m.s), ()) at m3
        rw [p3] at m3
        simp only [Nat.not_lt_zero, and_false, if_false, show ((0 : Nat) : Int) = 0 from rfl] at h24
        change ref09_Decode_l24 600 600 x0 (tab 64 (upT (i * 4) (decF b m))) ((m.P : Int)) ((m.W : Int)) ((m.T : Int)) ((m.H : Int)) ((m.C : Int)) ((m.A : Int)) ((m.e : Int)) ((m.o : Int)) ((m.f : Int)) ((m.s : Int)) ((wN b m : Int)) (tN b m) (cN b m) (tab (2 * m.P * 4) (endF b m)) (tab 16 (firF b m)) (tab 16 (secF b m)) ((i : Int)) (tab 4 (aF b m i)) (tab 4 (zF b m i)) (firF b m i) ((m.f : Int)) (secF b m i) ((m.s : Int)) 0 = _ at h24
        simp only [g1, g2, i5, decide_true, decide_false, cond_true, cond_false, Int.natCast_nonneg, Bool.and_self, h24, Option.bind_some, tab_get (show 3 < 4 by omega), m3, Int.toNat_natCast, out3 (preV b m i) hi]
        by_cases h : 0 < tN b m
        · have ew : IntKind.wrap .i64 (tN b m - 1) = tN b m - 1 := w64 (by omega) (by omega)
          have j1 : (0 : Int) ≤ tN b m - 1 := by omega
          have j2 : tN b m - 1 < 4 := by omega
          simp only [h, decide_true, cond_true, ew, j1, j2, Bool.and_self]
          rw [out_turn (preV b m i) hi ht h, nextI (by omega), show (tab 64 fun j => if j / 4 = i then turnV (tN b m) (preV b m i) (j % 4) else upT (i * 4) (decF b m) j) = tab 64 (upT ((i + 1) * 4) (decF b m)) from out_next b m hi]
          exact fin
        · simp only [h, decide_false, cond_false]
          rw [nextI (by omega), tab_congr fun j hj => show (if j / 4 = i then preV b m i (j % 4) else upT (i * 4) (decF b m) j) = if j / 4 = i then texV b m i (j % 4) else upT (i * 4) (decF b m) j by
            unfold texV turnV
            rw [if_neg h], out_next b m hi]
          exact fin

/-! ### blocks -/

def g1' (b : List Int) (m : BM) (j : Nat) : Int := g1 b m (bp0 m) (bp1 m) j

theorem rDecode_is {b : List Int} (hb : Bytes b) (hl : b.length = 16) : ref09_Decode 600 b = some (decAll b, (0, ())) := by
  have hmd := mode_fact (hb.getD 0)
  have hn : (((b.length : Nat) : Int) != 16) = false := by rw [hl]; rfl
  unfold ref09_Decode decAll
  rw [hn, rMode_is hb hl]
  simp only [cond_false, Option.bind_some]
  by_cases h8 : modeV (b.getD 0 0) = 8
  · rw [h8, if_pos rfl]
    rfl
  rw [if_neg h8, beqF (by omega)]
  have hk : modeV (b.getD 0 0) < 8 := by omega
  generalize modeV (b.getD 0 0) = k at hk
  have ok := bm_ok hk
  have hbase : (bmOf k).base = k + 1 := rfl
  have hrow := row_is hk
  generalize bmOf k = m at ok hbase hrow
  obtain ⟨hP1, hP3, hW6, hT2, hH1, hC1, hC7, hA8, he1, ho1, heo, hCe, hAe, hf2, hf4, hs3, hs0, hHs, hb8, hall⟩ := ok
  have ok : m.Ok := ⟨hP1, hP3, hW6, hT2, hH1, hC1, hC7, hA8, he1, ho1, heo, hCe, hAe, hf2, hf4, hs3, hs0, hHs, hb8, hall⟩
  obtain ⟨hw, hw64⟩ := wN_is b ok
  obtain ⟨h3e, h3⟩ := bp3_le b ok
  have n8 : bctable_ModesT298.length / 10 = 8 := rfl
  have i1 : (k : Int) < ((8 : Nat) : Int) := by omega
  have g0 : (bmRow m).getD 0 0 = (m.P : Int) := rfl
  have g1 : (bmRow m).getD 1 0 = (m.W : Int) := rfl
  have g2 : (bmRow m).getD 2 0 = (m.T : Int) := rfl
  have g3 : (bmRow m).getD 3 0 = (m.H : Int) := rfl
  have g4 : (bmRow m).getD 4 0 = (m.C : Int) := rfl
  have g5 : (bmRow m).getD 5 0 = (m.A : Int) := rfl
  have g6 : (bmRow m).getD 6 0 = (m.e : Int) := rfl
  have g7 : (bmRow m).getD 7 0 = (m.o : Int) := rfl
  have g8 : (bmRow m).getD 8 0 = (m.f : Int) := rfl
  have g9 : (bmRow m).getD 9 0 = (m.s : Int) := rfl
  have e2 : IntKind.wrap .i64 (2 * (m.P : Int)) = ((2 * m.P : Nat) : Int) := by rw [w64 (by omega) (by omega)]; omega
  have r1 := rtake9 hb hl (a := m.base) (n := m.W) (by omega) (by omega)
  have r2 := rtake9 hb hl (a := m.base + m.W) (n := m.T) (by omega) (by omega)
  have r3 := rtake9 hb hl (a := m.base + m.W + m.T) (n := m.H) (by omega) (by omega)
  rw [hw] at r1
  rw [show lv b (m.base + m.W) m.T = tN b m from rfl] at r2
  rw [show lv b (m.base + m.W + m.T) m.H = cN b m from rfl, show m.base + m.W + m.T + m.H = bp0 m from rfl] at r3
  have i2 : ((2 * m.P : Nat) : Int) ≤ 1099511627776 := by omega
  have l0 := rl0_all hb hl bcseven_DecodeT283 bcseven_DecodeT283 ((m.P : Int)) ((m.W : Int)) ((m.T : Int)) ((m.H : Int)) ((m.e : Int)) ((m.o : Int)) ((m.f : Int)) ((m.s : Int)) ((wN b m : Int)) (tN b m) (cN b m) ok (p0 := bp0 m) (by unfold bp0; omega) 595
  rw [show (595 + 5 : Nat) = 600 from rfl, show bp0 m + 6 * m.P * m.C + 2 * m.P * m.A = bp1 m from rfl] at l0
  have l12 := rl12_all b bcseven_DecodeT283 bcseven_DecodeT283 ((m.P : Int)) ((m.W : Int)) ((m.T : Int)) ((m.H : Int)) ((m.e : Int)) ((m.o : Int)) ((m.f : Int)) ((m.s : Int)) b (((bp2 m : Nat) : Int)) ((wN b m : Int)) (tN b m) (cN b m) ok (bp0 m) (bp1 m) (2 * m.P) 0 600 (by omega) (by omega)
  rw [show tab (2 * m.P * 4) (vG b m (bp0 m) (bp1 m) 0) = tab (2 * m.P * 4) (g1' b m) from tab_congr fun j hj => if_neg (by omega), show ((0 : Nat) : Int) = 0 from rfl, show tab (2 * m.P * 4) (eF b m (bp0 m) (bp1 m)) = tab (2 * m.P * 4) (endF b m) from rfl] at l12
  have l16 := rl16_all hb hl bcseven_DecodeT283 bcseven_DecodeT283 ((m.W : Int)) ((m.T : Int)) ((m.H : Int)) ((m.C : Int)) ((m.A : Int)) ((m.e : Int)) ((m.o : Int)) ((m.s : Int)) (tN b m) (cN b m) (tab (2 * m.P * 4) (endF b m)) bcseven_SixT4 (P := m.P) (w := wN b m) (f := m.f) (p2 := bp2 m) hP1 hP3 hw64 ⟨hf2, hf4⟩ (by have := h3; unfold bp3 at this; omega) 16 0 600 (by omega) (by omega)
  rw [upT_zero, ← sq0, show posF m.P (wN b m) m.f (bp2 m) 0 = bp2 m from rfl, show ((0 : Nat) : Int) = 0 from rfl, show tab 16 (firstV b m.P (wN b m) m.f (bp2 m)) = tab 16 (firF b m) from rfl] at l16
  have l20 : ref09_Decode_l20 600 600 bcseven_DecodeT283 bcseven_DecodeT283 ((m.P : Int)) ((m.W : Int)) ((m.T : Int)) ((m.H : Int)) ((m.C : Int)) ((m.A : Int)) ((m.e : Int)) ((m.o : Int)) ((m.f : Int)) ((m.s : Int)) b (((posF m.P (wN b m) m.f (bp2 m) 16 : Nat) : Int)) ((wN b m : Int)) (tN b m) (cN b m) (tab (2 * m.P * 4) (endF b m)) (tab 16 (firF b m)) bcseven_SixT4 0 = some (bcseven_DecodeT283, (bcseven_DecodeT283, ((m.P : Int), ((m.W : Int), ((m.T : Int), ((m.H : Int), ((m.C : Int), ((m.A : Int), ((m.e : Int), ((m.o : Int), ((m.f : Int), ((m.s : Int), ((wN b m : Int), (tN b m, (cN b m, (tab (2 * m.P * 4) (endF b m), (tab 16 (firF b m), (tab 16 (secF b m), ())))))))))))))))))) := by
    by_cases hs : m.s = 0
    · have q : bcseven_SixT4 = tab 16 (secF b m) := sq0.trans (tab_congr fun j hj => by
        unfold secF secV
        rw [if_pos hs])
      rw [← q, hs]
      exact rl20_none bcseven_DecodeT283 bcseven_DecodeT283 ((m.P : Int)) ((m.W : Int)) ((m.T : Int)) ((m.H : Int)) ((m.C : Int)) ((m.A : Int)) ((m.e : Int)) ((m.o : Int)) ((m.f : Int)) b (((posF m.P (wN b m) m.f (bp2 m) 16 : Nat) : Int)) ((wN b m : Int)) (tN b m) (cN b m) (tab (2 * m.P * 4) (endF b m)) (tab 16 (firF b m)) bcseven_SixT4 599
    · have l := rl20_all hb hl bcseven_DecodeT283 bcseven_DecodeT283 ((m.P : Int)) ((m.W : Int)) ((m.T : Int)) ((m.H : Int)) ((m.C : Int)) ((m.A : Int)) ((m.e : Int)) ((m.o : Int)) ((m.f : Int)) ((wN b m : Int)) (tN b m) (cN b m) (tab (2 * m.P * 4) (endF b m)) (tab 16 (firF b m)) (s := m.s) (p3 := bp3 b m) (by omega) (by rw [if_neg hs] at h3; exact h3) 16 0 600 (by omega) (by omega)
      rw [upT_zero, ← sq0, show posS m.s (bp3 b m) 0 = posF m.P (wN b m) m.f (bp2 m) 16 from rfl, show ((0 : Nat) : Int) = 0 from rfl] at l
      exact l
  have l22 := rl22_all b ok bcseven_DecodeT283 16 0 600 (by omega) (by omega)
  rw [Nat.zero_mul, upT_zero, ← zero64, show ((0 : Nat) : Int) = 0 from rfl] at l22
  unfold ref08_Modes
  simp only [cond_false, n8, i1, decide_true, cond_true, Int.natCast_nonneg, Bool.and_self, Int.toNat_natCast, Option.bind_some, hrow, g0, g1, g2, g3, g4, g5, g6, g7, g8, g9]
  rw [nextI (by omega), ← hbase]
  simp only [r1, r2, r3, Option.bind_some, e2, i2, decide_true, Int.natCast_nonneg, Bool.and_self, cond_true, Int.toNat_natCast, tab_rep, l0]
  by_cases he : m.e = 1
  · have ho : m.o = 0 := by omega
    have l4 := rl4_all hb hl bcseven_DecodeT283 bcseven_DecodeT283 ((m.P : Int)) ((m.W : Int)) ((m.T : Int)) ((m.H : Int)) ((m.C : Int)) ((m.A : Int)) ((m.e : Int)) ((m.o : Int)) ((m.f : Int)) ((m.s : Int)) ((wN b m : Int)) (tN b m) (cN b m) ok he (bp0 m) (bp1 m) (by have := h3; unfold bp2 at h3e; rw [he, Nat.mul_one] at h3e; omega) (2 * m.P) 0 600 (by omega) (by omega)
    rw [show tab (2 * m.P * 4) (bG b m (bp0 m) (bp1 m) 0) = tab (2 * m.P * 4) (e0 b m (bp0 m)) from tab_congr fun j hj => if_neg (by omega), show ((0 : Nat) : Int) = 0 from rfl, Nat.add_zero,
      show tab (2 * m.P * 4) (bG b m (bp0 m) (bp1 m) (2 * m.P)) = tab (2 * m.P * 4) (g1' b m) from tab_congr fun j hj => by
        unfold bG g1' Gn.g1
        rw [if_pos (by omega), he, ho]
        rfl, show bp1 m + 2 * m.P = bp2 m by unfold bp2; rw [he, ho]; omega] at l4
    rw [show ((m.e + m.o : Nat) : Int) = 1 by omega] at l12
    simp only [beqT (show ((m.e : Nat) : Int) = 1 by omega), beqF (show ((m.o : Nat) : Int) ≠ 1 by omega), cond_true, cond_false, l4, l12, l16, l20, l22, Option.bind_some]
  · by_cases ho : m.o = 1
    · have he0 : m.e = 0 := by omega
      have l8 := rl8_all hb hl bcseven_DecodeT283 bcseven_DecodeT283 ((m.P : Int)) ((m.W : Int)) ((m.T : Int)) ((m.H : Int)) ((m.C : Int)) ((m.A : Int)) ((m.e : Int)) ((m.o : Int)) ((m.f : Int)) ((m.s : Int)) ((wN b m : Int)) (tN b m) (cN b m) ok ho (bp0 m) (bp1 m) (by have := h3; unfold bp2 at h3e; rw [ho, Nat.mul_one] at h3e; omega) m.P 0 600 (by omega) (by omega)
      rw [Nat.mul_zero, show tab (2 * m.P * 4) (bG b m (bp0 m) (bp1 m) 0) = tab (2 * m.P * 4) (e0 b m (bp0 m)) from tab_congr fun j hj => if_neg (by omega), show ((0 : Nat) : Int) = 0 from rfl, Nat.add_zero,
        show tab (2 * m.P * 4) (bG b m (bp0 m) (bp1 m) (2 * m.P)) = tab (2 * m.P * 4) (g1' b m) from tab_congr fun j hj => by
          unfold bG g1' Gn.g1
          rw [if_pos (by omega), he0, ho]
          rfl, show bp1 m + m.P = bp2 m by unfold bp2; rw [he0, ho]; omega] at l8
      rw [show ((m.e + m.o : Nat) : Int) = 1 by omega] at l12
      simp only [beqF (show ((m.e : Nat) : Int) ≠ 1 by omega), beqT (show ((m.o : Nat) : Int) = 1 by omega), cond_true, cond_false, l8, l12, l16, l20, l22, Option.bind_some]
    · have he0 : m.e = 0 := by omega
      have ho0 : m.o = 0 := by omega
      have hg : tab (2 * m.P * 4) (e0 b m (bp0 m)) = tab (2 * m.P * 4) (g1' b m) := tab_congr fun j hj => by
        unfold g1' Gn.g1 bitV
        rw [if_neg he, if_neg ho, he0, ho0]
        omega
      rw [show ((m.e + m.o : Nat) : Int) = 0 by omega, ← hg, show bp2 m = bp1 m by unfold bp2; rw [he0, ho0]; omega] at l12
      rw [show bp2 m = bp1 m by unfold bp2; rw [he0, ho0]; omega] at l16 l20
      simp only [beqF (show ((m.e : Nat) : Int) ≠ 1 by omega), beqF (show ((m.o : Nat) : Int) ≠ 1 by omega), cond_true, cond_false, l12, l16, l20, l22, Option.bind_some]

theorem rDecode_none {b : List Int} (hl : b.length ≠ 16) : ref09_Decode 600 b = some (bcseven_DecodeT283, (1, ())) := by
  unfold ref09_Decode
  rw [bneT (by omega)]
  rfl

end Go.AE.Gn

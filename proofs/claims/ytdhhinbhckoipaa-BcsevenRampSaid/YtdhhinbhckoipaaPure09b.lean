/- Layer 9: bcseven. What is read; texels; blocks, by the program. -/
import Derived.Test.YtdhhinbhckoipaaPure09
set_option linter.unusedVariables false
set_option linter.unusedSimpArgs false
namespace Go.AE.Gn
open Go Go.AE

def bp0 (m : BM) : Nat := m.base + m.W + m.T + m.H
def bp1 (m : BM) : Nat := bp0 m + 6 * m.P * m.C + 2 * m.P * m.A
def bp2 (m : BM) : Nat := bp1 m + 2 * m.P * m.e + m.P * m.o
def wN (b : List Int) (m : BM) : Nat := (lv b m.base m.W).toNat
def tN (b : List Int) (m : BM) : Int := lv b (m.base + m.W) m.T
def cN (b : List Int) (m : BM) : Int := lv b (m.base + m.W + m.T) m.H
def bp3 (b : List Int) (m : BM) : Nat := posF m.P (wN b m) m.f (bp2 m) 16
def endF (b : List Int) (m : BM) (j : Nat) : Int := eF b m (bp0 m) (bp1 m) j
def firF (b : List Int) (m : BM) (j : Nat) : Int := firstV b m.P (wN b m) m.f (bp2 m) j
def secF (b : List Int) (m : BM) (j : Nat) : Int := secV b m.s (bp3 b m) j

theorem wN_is (b : List Int) {m : BM} (ok : m.Ok) : lv b m.base m.W = (wN b m : Int) ∧ wN b m < 64 := by
  have h := lv_bound b m.base m.W
  have h2 : (2 : Int) ^ m.W ≤ 2 ^ 6 := ipow_le ok.W6
  unfold wN
  omega

theorem bp3_le (b : List Int) {m : BM} (ok : m.Ok) : bp3 b m = bp2 m + (16 * m.f - m.P) ∧ bp3 b m + (if m.s = 0 then 0 else 16 * m.s - 1) ≤ 128 := by
  have h := posF_16 ok.P1 ok.P3 (wN_is b ok).2 ok.f2 ok.f4 (bp2 m)
  have ha := ok.all
  refine ⟨h, ?_⟩
  unfold bp3
  rw [h]
  unfold bp2 bp1 bp0
  omega

theorem sq0 : bcseven_SixT4 = tab 16 fun _ => 0 := by decide +kernel

theorem posB_end {m : BM} (ok : m.Ok) (p1 : Nat) : posB m p1 (2 * m.P) = p1 + 2 * m.P * m.e + m.P * m.o := by
  unfold posB
  have h1 := ok.e1
  have h2 := ok.o1
  have h3 := ok.eo
  by_cases he : m.e = 1
  · have ho : m.o = 0 := by omega
    rw [if_pos he, he, ho]
    omega
  · rw [if_neg he]
    have he0 : m.e = 0 := by omega
    rw [he0]
    by_cases ho : m.o = 1
    · rw [if_pos ho, ho]
      omega
    · have ho0 : m.o = 0 := by omega
      rw [if_neg ho, ho0]
      omega

theorem widen_is {b : List Int} (hb : Bytes b) (hl : b.length = 16) (x1 x2 x3 x4 x9 x10 x11 x12 x13 : Int) (x14 x15 : List Int) {m : BM} (ok : m.Ok) (p0 p1 : Nat) (hp : p1 + 2 * m.P * m.e + m.P * m.o ≤ 128) :
    bcseven_fields_widen_read_c1 600 (tab (2 * m.P * 4) (e0 b m p0)) x1 x2 x3 x4 (m.C : Int) (m.A : Int) (m.e : Int) (m.o : Int) x9 x10 x11 x12 x13 x14 x15 b ((p1 : Nat) : Int) = some (tab (2 * m.P * 4) (eF b m p0 p1), (((p1 + 2 * m.P * m.e + m.P * m.o : Nat) : Int), ())) := by
  unfold bcseven_fields_widen_read_c1
  have h1 := ok.e1
  have h2 := ok.o1
  have h3 := ok.P3
  have e1 : IntKind.wrap .i64 ((m.e : Int) + (m.o : Int)) = ((m.e + m.o : Nat) : Int) := by rw [w64 (by omega) (by omega), Int.natCast_add]
  have i2 : (2 * m.P * 4) / 4 = 2 * m.P := by omega
  have h := widen_l0_all hb hl x1 x2 x3 x4 x9 x10 x11 x12 x13 x14 x15 ok p0 p1 hp (2 * m.P) 0 600 (by omega) (by omega)
  have s1 : tab (2 * m.P * 4) (wG b m p0 p1 0) = tab (2 * m.P * 4) (e0 b m p0) := tab_congr fun j hj => if_neg (by omega)
  have s2 : posB m p1 0 = p1 := by
    unfold posB
    split
    · rfl
    · split <;> rfl
  have s3 : bitS b m p1 0 = 0 := rfl
  have s4 : tab (2 * m.P * 4) (wG b m p0 p1 (2 * m.P)) = tab (2 * m.P * 4) (eF b m p0 p1) := tab_congr fun j hj => if_pos (by omega)
  rw [s1, s2, s3, s4, posB_end ok] at h
  simp only [tab_len, i2, e1]
  rw [show (0 : Int) = ((0 : Nat) : Int) from rfl] at h ⊢
  rw [h]
  rfl

theorem read_is {b : List Int} (hb : Bytes b) (hl : b.length = 16) {k : Nat} (hk : k < 8) {m : BM} (hm : bmOf k = m) :
    bcseven_read 600 b (k : Int) = some ((m.P : Int), ((m.W : Int), ((m.T : Int), ((m.H : Int), ((m.C : Int), ((m.A : Int), ((m.e : Int), ((m.o : Int), ((m.f : Int), ((m.s : Int), ((wN b m : Int), (tN b m, (cN b m, (tab (2 * m.P * 4) (endF b m), (tab 16 (firF b m), (tab 16 (secF b m), ())))))))))))))))) := by
  have ok : m.Ok := by rw [← hm]; exact bm_ok hk
  have hbase : m.base = k + 1 := by rw [← hm]; rfl
  obtain ⟨hP1, hP3, hW6, hT2, hH1, hC1, hC7, hA8, he1, ho1, heo, hCe, hAe, hf2, hf4, hs3, hs0, hHs, hb8, hall⟩ := ok
  have ok : m.Ok := ⟨hP1, hP3, hW6, hT2, hH1, hC1, hC7, hA8, he1, ho1, heo, hCe, hAe, hf2, hf4, hs3, hs0, hHs, hb8, hall⟩
  obtain ⟨hw, hw64⟩ := wN_is b ok
  obtain ⟨h3e, h3⟩ := bp3_le b ok
  unfold bcseven_read bctable_Modes
  have n8 : bctable_ModesT298.length / 10 = 8 := rfl
  have i1 : (k : Int) < ((8 : Nat) : Int) := by omega
  have g0 : (bmRow m).getD 0 0 = (m.P : Int) := rfl
  have g1 : (bmRow m).getD 1 0 = (m.W : Int) := rfl
  have g2 : (bmRow m).getD 2 0 = (m.T : Int) := rfl
  have g3 : (bmRow m).getD 3 0 = (m.H : Int) := rfl
  have g4 : (bmRow m).getD 4 0 = (m.C : Int) := rfl
  have g5 : (bmRow m).getD 5 0 = (m.A : Int) := rfl
  have g6 : (bmRow m).getD 6 0 = (m.e : Int) := rfl
  have g7 : (bmRow m).getD 7 0 = (m.o : Int) := rfl
  have g8 : (bmRow m).getD 8 0 = (m.f : Int) := rfl
  have g9 : (bmRow m).getD 9 0 = (m.s : Int) := rfl
  have e2 : IntKind.wrap .i64 (2 * (m.P : Int)) = ((2 * m.P : Nat) : Int) := by rw [w64 (by omega) (by omega)]; omega
  have r1 := rd9 hb hl (a := m.base) (n := m.W) (by omega) (by omega)
  have r2 := rd9 hb hl (a := m.base + m.W) (n := m.T) (by omega) (by omega)
  have r3 := rd9 hb hl (a := m.base + m.W + m.T) (n := m.H) (by omega) (by omega)
  have i2 : ((2 * m.P : Nat) : Int) ≤ 1099511627776 := by omega
  have l0 := fun x0 x1 x16 x17 x3 x4 x5 x6 x9 x10 x11 x12 x13 x14 x15 => read_l0_all hb hl x0 x1 x3 x4 x5 x6 x9 x10 x11 x12 x13 x14 x15 x16 x17 ok (p0 := bp0 m) (by unfold bp0; omega) 595
  have l1 := fun x1 x2 x3 x4 x9 x10 x11 x12 x13 x14 x15 => widen_is hb hl x1 x2 x3 x4 x9 x10 x11 x12 x13 x14 x15 ok (bp0 m) (bp1 m) (by unfold bp1 bp0; omega)
  have l4 := read_l4_all hb hl bcseven_SixT4 bcseven_SixT4 (tab (2 * m.P * 4) (eF b m (bp0 m) (bp1 m))) ((m.W : Int)) ((m.T : Int)) ((m.H : Int)) ((m.C : Int)) ((m.A : Int)) ((m.e : Int)) ((m.o : Int)) ((m.s : Int)) (lv b (m.base + m.W) m.T) (lv b (m.base + m.W + m.T) m.H) bcseven_SixT4 (P := m.P) (w := wN b m) (f := m.f) (p2 := bp2 m) hP1 hP3 hw64 ⟨hf2, hf4⟩ (by have := h3; unfold bp3 at this; omega) 16 0 600 (by omega) (by omega)
  rw [upT_zero, ← sq0, show posF m.P (wN b m) m.f (bp2 m) 0 = bp2 m from rfl, show ((0 : Nat) : Int) = 0 from rfl] at l4
  simp only [n8, i1, decide_true, cond_true, Int.natCast_nonneg, Bool.and_self, Int.toNat_natCast, Option.bind_some, row_is hk, hm, g0, g1, g2, g3, g4, g5, g6, g7, g8, g9]
  rw [nextI (by omega), ← hbase]
  simp only [r1, r2, r3, hw, Option.bind_some, e2, i2, decide_true, Int.natCast_nonneg, Bool.and_self, cond_true, Int.toNat_natCast, tab_rep]
  have a0 : m.base + m.W + m.T + m.H = bp0 m := rfl
  have a1 : bp0 m + 6 * m.P * m.C + 2 * m.P * m.A = bp1 m := rfl
  have a2 : bp1 m + 2 * m.P * m.e + m.P * m.o = bp2 m := rfl
  rw [a1] at l0
  rw [a2] at l1
  simp only [a0]
  have l0' := l0 bcseven_SixT4 bcseven_SixT4 bcseven_SixT4 bcseven_SixT4 (m.P : Int) (m.W : Int) (m.T : Int) (m.H : Int) (m.e : Int) (m.o : Int) (m.f : Int) (m.s : Int) (wN b m : Int) (lv b (m.base + m.W) m.T) (lv b (m.base + m.W + m.T) m.H)
  rw [show (595 + 5 : Nat) = 600 from rfl] at l0'
  simp only [l0', Option.bind_some, l1, l4]
  by_cases hs : m.s = 0
  · have : ¬ (0 : Int) < (m.s : Int) := by omega
    simp only [this, decide_false, cond_false]
    rw [show bcseven_SixT4 = tab 16 (secF b m) from sq0.trans (tab_congr fun j hj => by
      unfold secF secV
      rw [if_pos hs])]
    rfl
  · have : (0 : Int) < (m.s : Int) := by omega
    have l6 := read_l6_all hb hl bcseven_SixT4 bcseven_SixT4 (tab (2 * m.P * 4) (eF b m (bp0 m) (bp1 m))) ((m.P : Int)) ((m.W : Int)) ((m.T : Int)) ((m.H : Int)) ((m.C : Int)) ((m.A : Int)) ((m.e : Int)) ((m.o : Int)) ((m.f : Int)) ((wN b m : Int)) (lv b (m.base + m.W) m.T) (lv b (m.base + m.W + m.T) m.H) (tab 16 (firstV b m.P (wN b m) m.f (bp2 m))) (s := m.s) (p3 := bp3 b m) (by omega) (by rw [if_neg hs] at h3; exact h3) 16 0 600 (by omega) (by omega)
    rw [upT_zero, ← sq0, show posS m.s (bp3 b m) 0 = posF m.P (wN b m) m.f (bp2 m) 16 from rfl, show ((0 : Nat) : Int) = 0 from rfl] at l6
    simp only [this, decide_true, cond_true, l6, Option.bind_some]
    rfl

/-! ### texels -/

def wL (n : Nat) : List Int := if n = 2 then [0, 21, 43, 64] else if n = 3 then bctable_WeightsT6 else bctable_WeightsT7
def mx (a z p : Int) (n : Nat) : Int := mixV a z ((wL n).getD p.toNat 0) 64 32

theorem wL_closed : ((List.range 5).all fun n => decide (n < 2) || ((wL n).length == 2 ^ n && ((List.range (2 ^ n)).all fun p => decide (0 ≤ (wL n).getD p 0) && decide ((wL n).getD p 0 ≤ 64)) &&
    (bctable_Weights 600 (n : Int) == some (wL n, ()) && ref08_Weights 600 (n : Int) == some (wL n, ())))) = true := by decide +kernel
theorem wL_is {n : Nat} (h : 2 ≤ n ∧ n ≤ 4) : (wL n).length = 2 ^ n ∧ (∀ p, p < 2 ^ n → 0 ≤ (wL n).getD p 0 ∧ (wL n).getD p 0 ≤ 64) ∧ bctable_Weights 600 (n : Int) = some (wL n, ()) ∧ ref08_Weights 600 (n : Int) = some (wL n, ()) := by
  have := List.all_eq_true.1 wL_closed n (by simp; omega)
  have h2 : ¬ n < 2 := by omega
  simp only [h2, decide_false, Bool.false_or, Bool.and_eq_true, beq_iff_eq] at this
  obtain ⟨⟨h1, h3⟩, h4, h5⟩ := this
  refine ⟨h1, fun p hp => ?_, h4, h5⟩
  have := List.all_eq_true.1 h3 p (by simpa using hp)
  simpa using this

theorem mx_bound {a z p : Int} {n : Nat} (ha : 0 ≤ a ∧ a ≤ 255) (hz : 0 ≤ z ∧ z ≤ 255) (hn : 2 ≤ n ∧ n ≤ 4) (hp : 0 ≤ p ∧ p < 2 ^ n) : 0 ≤ mx a z p n ∧ mx a z p n ≤ 255 := by
  have hp2 : p.toNat < 2 ^ n := by
    have : ((p.toNat : Nat) : Int) < ((2 ^ n : Nat) : Int) := by
      rw [Int.toNat_of_nonneg hp.1, Int.natCast_pow]
      exact hp.2
    omega
  have hw := (wL_is hn).2.1 _ hp2
  unfold mx mixV
  generalize (wL n).getD p.toNat 0 = w at *
  have m1 : a * (64 - w) ≤ 255 * (64 - w) := Int.mul_le_mul_of_nonneg_right ha.2 (by omega)
  have m2 : z * w ≤ 255 * w := Int.mul_le_mul_of_nonneg_right hz.2 (by omega)
  have m3 : 0 ≤ a * (64 - w) := Int.mul_nonneg ha.1 (by omega)
  have m4 : 0 ≤ z * w := Int.mul_nonneg hz.1 hw.1
  omega

theorem mix9 {a z p : Int} {n : Nat} (ha : 0 ≤ a ∧ a ≤ 255) (hz : 0 ≤ z ∧ z ≤ 255) (hn : 2 ≤ n ∧ n ≤ 4) (hp : 0 ≤ p ∧ p < 2 ^ n) :
    bcseven_mix 600 a z p (n : Int) = some (mx a z p n, ()) ∧ ref09_mix 600 a z p (n : Int) = some (mx a z p n, ()) := by
  obtain ⟨h1, h2, h3, h4⟩ := wL_is hn
  have hp2 : p.toNat < 2 ^ n := by
    have : ((p.toNat : Nat) : Int) < ((2 ^ n : Nat) : Int) := by
      rw [Int.toNat_of_nonneg hp.1, Int.natCast_pow]
      exact hp.2
    omega
  have hw := h2 _ hp2
  have i1 : p < ((2 ^ n : Nat) : Int) := by rw [Int.natCast_pow]; exact hp.2
  obtain ⟨m1, m2, _⟩ := Mix_is 600 (a := a) (b := z) (k := (wL n).getD p.toNat 0) (o := 64) (add := 32) (by omega) (by omega) (by omega) (by omega) (by omega) (by omega)
  unfold bcseven_mix ref09_mix
  rw [h3, h4]
  simp only [Option.bind_some, h1, hp.1, i1, decide_true, Bool.and_self, cond_true, m1, m2]
  exact ⟨rfl, rfl⟩

theorem endF_bound (b : List Int) {m : BM} (ok : m.Ok) (j : Nat) : 0 ≤ endF b m j ∧ endF b m j ≤ 255 := by
  have h1 := ok.Ce
  have h2 := ok.Ae
  have h3 := ok.C1
  unfold endF eF
  split
  · split
    · omega
    · exact wideV_bound (by omega) _
  · exact wideV_bound (by omega) _

theorem firF_bound (b : List Int) {m : BM} (ok : m.Ok) (j : Nat) : 0 ≤ firF b m j ∧ firF b m j < 2 ^ m.f := by
  have h := lv_bound b (posF m.P (wN b m) m.f (bp2 m) j) (m.f - lessV m.P (wN b m) j)
  have h2 : (2 : Int) ^ (m.f - lessV m.P (wN b m) j) ≤ 2 ^ m.f := ipow_le (by omega)
  unfold firF firstV
  omega
theorem secF_bound (b : List Int) {m : BM} (ok : m.Ok) (hs : m.s ≠ 0) (j : Nat) : 0 ≤ secF b m j ∧ secF b m j < 2 ^ m.s := by
  have h := lv_bound b (posS m.s (bp3 b m) j) (m.s - if j = 0 then 1 else 0)
  have h2 : (2 : Int) ^ (m.s - if j = 0 then 1 else 0) ≤ 2 ^ m.s := ipow_le (by split <;> omega)
  unfold secF secV
  rw [if_neg hs]
  omega

/-- The place of a colour, and that of alpha. -/
def colP (b : List Int) (m : BM) (i : Nat) : Int × Nat := if m.s ≠ 0 ∧ cN b m = 1 then (secF b m i, m.s) else (firF b m i, m.f)
def alpP (b : List Int) (m : BM) (i : Nat) : Int × Nat := if m.s ≠ 0 ∧ cN b m ≠ 1 then (secF b m i, m.s) else (firF b m i, m.f)
def aF (b : List Int) (m : BM) (i c : Nat) : Int := endF b m (2 * partV m.P (wN b m) i * 4 + c)
def zF (b : List Int) (m : BM) (i c : Nat) : Int := endF b m ((2 * partV m.P (wN b m) i + 1) * 4 + c)
def preV (b : List Int) (m : BM) (i c : Nat) : Int :=
  if c = 3 then mx (aF b m i 3) (zF b m i 3) (alpP b m i).1 (alpP b m i).2 else mx (aF b m i c) (zF b m i c) (colP b m i).1 (colP b m i).2
def turnV (t : Int) (g : Nat → Int) (c : Nat) : Int := if 0 < t then (if c = t.toNat - 1 then g 3 else if c = 3 then g (t.toNat - 1) else g c) else g c
def texV (b : List Int) (m : BM) (i c : Nat) : Int := turnV (tN b m) (preV b m i) c

theorem colP_ok (b : List Int) {m : BM} (ok : m.Ok) (i : Nat) : (2 ≤ (colP b m i).2 ∧ (colP b m i).2 ≤ 4) ∧ (0 ≤ (colP b m i).1 ∧ (colP b m i).1 < 2 ^ (colP b m i).2) := by
  have h1 := ok.f2
  have h2 := ok.f4
  have h3 := ok.s3
  have h4 := ok.s0
  unfold colP
  by_cases h : m.s ≠ 0 ∧ cN b m = 1
  · rw [if_pos h]
    exact ⟨by simp only; omega, secF_bound b ok h.1 i⟩
  · rw [if_neg h]
    exact ⟨by simp only; omega, firF_bound b ok i⟩
theorem alpP_ok (b : List Int) {m : BM} (ok : m.Ok) (i : Nat) : (2 ≤ (alpP b m i).2 ∧ (alpP b m i).2 ≤ 4) ∧ (0 ≤ (alpP b m i).1 ∧ (alpP b m i).1 < 2 ^ (alpP b m i).2) := by
  have h1 := ok.f2
  have h2 := ok.f4
  have h3 := ok.s3
  have h4 := ok.s0
  unfold alpP
  by_cases h : m.s ≠ 0 ∧ cN b m ≠ 1
  · rw [if_pos h]
    exact ⟨by simp only; omega, secF_bound b ok h.1 i⟩
  · rw [if_neg h]
    exact ⟨by simp only; omega, firF_bound b ok i⟩
theorem preV_bound (b : List Int) {m : BM} (ok : m.Ok) (i c : Nat) : 0 ≤ preV b m i c ∧ preV b m i c ≤ 255 := by
  obtain ⟨h1, h2⟩ := colP_ok b ok i
  obtain ⟨h3, h4⟩ := alpP_ok b ok i
  unfold preV
  split
  · exact mx_bound (endF_bound b ok _) (endF_bound b ok _) h3 h4
  · exact mx_bound (endF_bound b ok _) (endF_bound b ok _) h1 h2
theorem tN_bound (b : List Int) {m : BM} (ok : m.Ok) : 0 ≤ tN b m ∧ tN b m < 4 := by
  have h := lv_bound b (m.base + m.W) m.T
  have h2 : (2 : Int) ^ m.T ≤ 2 ^ 2 := ipow_le ok.T2
  unfold tN
  omega
theorem texV_bound (b : List Int) {m : BM} (ok : m.Ok) (i c : Nat) : 0 ≤ texV b m i c ∧ texV b m i c ≤ 255 := by
  unfold texV turnV
  split
  · split
    · exact preV_bound b ok _ _
    · split <;> exact preV_bound b ok _ _
  · exact preV_bound b ok _ _

theorem texel_l0_all (x0 : List Int) (x1 : Int) (x2 : Int) (x3 : Int) (x4 : Int) (x5 : Int) (x6 : Int) (x7 : Int) (x8 : Int) (x9 : Int) (x10 : Int) (x11 : Int) (x12 : Int) (x13 : Int) (x14 : List Int) (x15 : List Int) (x16 : List Int) (x21 : Int) (x22 : Int) {a z g : Nat → Int} {p : Int} {n : Nat} (hg : ∀ c, c < 3 → bcseven_mix 600 (a c) (z c) p (n : Int) = some (g c, ())) :
    ∀ (d c k : Nat), c + d = 3 → d < k → bcseven_fields_texel_l0 600 k x0 x1 x2 x3 x4 x5 x6 x7 x8 x9 x10 x11 x12 x13 x14 x15 x16 (tab 4 a) (tab 4 z) p ((n : Int)) x21 x22 (tab 4 (upT c g)) ((c : Int)) = some (x0, (x1, (x2, (x3, (x4, (x5, (x6, (x7, (x8, (x9, (x10, (x11, (x12, (x13, (x14, (x15, (x16, (tab 4 a, (tab 4 z, (x21, (x22, (tab 4 (upT 3 g), ())))))))))))))))))))))) := by
  intro d
  induction d with
  | zero =>
    intro c k h1 h2
    obtain ⟨k, rfl⟩ : ∃ k', k = k' + 1 := ⟨k - 1, by omega⟩
    obtain rfl : c = 3 := by omega
    unfold bcseven_fields_texel_l0 bcseven_fields_texel_l0S
    have : ¬ (((3 : Nat) : Int) < 3) := by omega
    simp only [this, decide_false, cond_false]
  | succ d ih =>
    intro c k h1 h2
    obtain ⟨k, rfl⟩ : ∃ k', k = k' + 1 := ⟨k - 1, by omega⟩
    have i1 : (c : Int) < 3 := by omega
    have i2 : (c : Int) < 4 := by omega
    unfold bcseven_fields_texel_l0 bcseven_fields_texel_l0S
    simp only [i1, i2, decide_true, cond_true, Int.natCast_nonneg, Bool.and_self, Int.toNat_natCast, tab_get (show c < 4 by omega), hg c (by omega), Option.bind_some, upT_set]
    rw [nextI (by omega)]
    exact ih (c + 1) k (by omega) (by omega)

theorem set3 (g : Nat → Int) : (tab 4 (upT 3 g)).set 3 (g 3) = tab 4 g := by
  rw [upT_set, upT_all]

theorem turn_list {t : Int} (ht : 0 ≤ t ∧ t < 4) (g : Nat → Int) (h : 0 < t) :
    List.set (List.set (tab 4 g) 3 ((tab 4 g).getD (t - 1).toNat 0)) (t - 1).toNat ((tab 4 g).getD 3 0) = tab 4 (turnV t g) := by
  have e : (t - 1).toNat = t.toNat - 1 := by omega
  rw [e, tab_get (by omega), tab_get (by omega), tab_set, tab_set]
  refine tab_congr fun j hj => ?_
  unfold turnV
  rw [if_pos h]

theorem texel_is (b : List Int) {m : BM} (ok : m.Ok) {i : Nat} (hi : i < 16) :
    bcseven_fields_texel 600 (tab (2 * m.P * 4) (endF b m)) (m.P : Int) (m.W : Int) (m.T : Int) (m.H : Int) (m.C : Int) (m.A : Int) (m.e : Int) (m.o : Int) (m.f : Int) (m.s : Int) (wN b m : Int) (tN b m) (cN b m) (tab 16 (firF b m)) (tab 16 (secF b m)) (i : Int) = some (tab 4 (texV b m i), ()) := by
  obtain ⟨q1, _, q3⟩ := part9 ok.P1 ok.P3 (wN_is b ok).2 hi
  have hP3 := ok.P3
  have ht := tN_bound b ok
  have hcol := colP_ok b ok i
  have halp := alpP_ok b ok i
  have i2 : (2 * m.P * 4) / 4 = 2 * m.P := by omega
  have e1 : IntKind.wrap .i64 (2 * ((partV m.P (wN b m) i : Nat) : Int)) = ((2 * partV m.P (wN b m) i : Nat) : Int) := by rw [w64 (by omega) (by omega)]; omega
  have i3 : ((2 * partV m.P (wN b m) i : Nat) : Int) < ((2 * m.P : Nat) : Int) := by omega
  have i4 : ((2 * partV m.P (wN b m) i + 1 : Nat) : Int) < ((2 * m.P : Nat) : Int) := by omega
  have i5 : (i : Int) < 16 := by omega
  have r1 : List.take 4 (List.drop (2 * partV m.P (wN b m) i * 4) (tab (2 * m.P * 4) (endF b m))) = tab 4 (aF b m i) := tab_part (by omega)
  have r2 : List.take 4 (List.drop ((2 * partV m.P (wN b m) i + 1) * 4) (tab (2 * m.P * 4) (endF b m))) = tab 4 (zF b m i) := tab_part (by omega)
  have fin : (bif decide ((0 : Int) < tN b m) then
      (let v : Int := (IntKind.wrap .i64 (tN b m - (1 : Int)))
      let b1 : Bool := ((decide ((0 : Int) ≤ v)) && (decide (v < (4 : Int))))
      cond b1
        (cond b1
          (some ((List.set (List.set (tab 4 (preV b m i)) 3 (List.getD (tab 4 (preV b m i)) (Int.toNat v) (0 : Int))) (Int.toNat v) (List.getD (tab 4 (preV b m i)) 3 (0 : Int))), ()))
          (none))
        (none))
      else some (tab 4 (preV b m i), ())) = some (tab 4 (texV b m i), ()) := by
    by_cases h : 0 < tN b m
    · have ew : IntKind.wrap .i64 (tN b m - 1) = tN b m - 1 := w64 (by omega) (by omega)
      have j1 : (0 : Int) ≤ tN b m - 1 := by omega
      have j2 : tN b m - 1 < 4 := by omega
      simp only [h, decide_true, cond_true, ew, j1, j2, Bool.and_self, turn_list ht _ h]
      rfl
    · simp only [h, decide_false, cond_false]
      rw [tab_congr fun j hj => show preV b m i j = texV b m i j by
        unfold texV turnV
        rw [if_neg h]]
  unfold bcseven_fields_texel
  simp only [q1, Option.bind_some, tab_len, i2, e1]
  rw [nextI (by omega)]
  simp only [i3, i4, i5, r1, r2, decide_true, cond_true, Int.natCast_nonneg, Bool.and_self, Int.toNat_natCast, tab_get hi]
  by_cases hs : m.s = 0
  · have g1 : ¬ (0 : Int) < (m.s : Int) := by omega
    have hc1 : colP b m i = (firF b m i, m.f) := if_neg (by omega)
    have ha1 : alpP b m i = (firF b m i, m.f) := if_neg (by omega)
    rw [hc1] at hcol
    rw [ha1] at halp
    have g2 := beqF (show cN b m ≠ 1 by
      have := lv_bound b (m.base + m.W + m.T) m.H
      rw [ok.Hs hs] at this
      unfold cN
      rw [ok.Hs hs]
      omega)
    have l0 := texel_l0_all (tab (2 * m.P * 4) (endF b m)) ((m.P : Int)) ((m.W : Int)) ((m.T : Int)) ((m.H : Int)) ((m.C : Int)) ((m.A : Int)) ((m.e : Int)) ((m.o : Int)) ((m.f : Int)) ((m.s : Int)) ((wN b m : Int)) (tN b m) (cN b m) (tab 16 (firF b m)) (tab 16 (secF b m)) ([0, 0, 0, 0]) (firF b m i) ((m.f : Int)) (a := aF b m i) (z := zF b m i) (g := preV b m i) (p := firF b m i) (n := m.f) (fun c hc => by
      have := (mix9 (endF_bound b ok (2 * partV m.P (wN b m) i * 4 + c)) (endF_bound b ok ((2 * partV m.P (wN b m) i + 1) * 4 + c)) hcol.1 hcol.2).1
      unfold preV
      rw [if_neg (by omega), hc1]
      exact this) 3 0 600 (by omega) (by omega)
    have m3 := (mix9 (endF_bound b ok (2 * partV m.P (wN b m) i * 4 + 3)) (endF_bound b ok ((2 * partV m.P (wN b m) i + 1) * 4 + 3)) halp.1 halp.2).1
    have p3 : mx (aF b m i 3) (zF b m i 3) (firF b m i) (m.f) = preV b m i 3 := by
      unfold preV
      rw [if_pos rfl, ha1]
    change bcseven_mix 600 (aF b m i 3) (zF b m i 3) (firF b m i) (m.f : Int) = some (mx (aF b m i 3) (zF b m i 3) (firF b m i) (m.f), ()) at m3
    rw [p3] at m3
    rw [upT_zero] at l0
    rw [show ((0 : Nat) : Int) = 0 from rfl, show (tab 4 fun _ => 0) = [0, 0, 0, 0] from rfl] at l0
    simp only [g1, g2, decide_true, decide_false, cond_true, cond_false, l0, Option.bind_some, tab_get (show 3 < 4 by omega), m3]
    rw [set3 (preV b m i)]
    exact fin
  · have g1 : (0 : Int) < (m.s : Int) := by omega
    by_cases hch : cN b m = 1
    · have g2 := beqT hch
      have hc1 : colP b m i = (secF b m i, m.s) := if_pos ⟨hs, hch⟩
      have ha1 : alpP b m i = (firF b m i, m.f) := if_neg (fun h => h.2 hch)
      rw [hc1] at hcol
      rw [ha1] at halp
      have l0 := texel_l0_all (tab (2 * m.P * 4) (endF b m)) ((m.P : Int)) ((m.W : Int)) ((m.T : Int)) ((m.H : Int)) ((m.C : Int)) ((m.A : Int)) ((m.e : Int)) ((m.o : Int)) ((m.f : Int)) ((m.s : Int)) ((wN b m : Int)) (tN b m) (cN b m) (tab 16 (firF b m)) (tab 16 (secF b m)) ([0, 0, 0, 0]) (firF b m i) ((m.f : Int)) (a := aF b m i) (z := zF b m i) (g := preV b m i) (p := secF b m i) (n := m.s) (fun c hc => by
        have := (mix9 (endF_bound b ok (2 * partV m.P (wN b m) i * 4 + c)) (endF_bound b ok ((2 * partV m.P (wN b m) i + 1) * 4 + c)) hcol.1 hcol.2).1
        unfold preV
        rw [if_neg (by omega), hc1]
        exact this) 3 0 600 (by omega) (by omega)
      have m3 := (mix9 (endF_bound b ok (2 * partV m.P (wN b m) i * 4 + 3)) (endF_bound b ok ((2 * partV m.P (wN b m) i + 1) * 4 + 3)) halp.1 halp.2).1
      have p3 : mx (aF b m i 3) (zF b m i 3) (firF b m i) (m.f) = preV b m i 3 := by
        unfold preV
        rw [if_pos rfl, ha1]
      change bcseven_mix 600 (aF b m i 3) (zF b m i 3) (firF b m i) (m.f : Int) = some (mx (aF b m i 3) (zF b m i 3) (firF b m i) (m.f), ()) at m3
      rw [p3] at m3
      rw [upT_zero] at l0
      rw [show ((0 : Nat) : Int) = 0 from rfl, show (tab 4 fun _ => 0) = [0, 0, 0, 0] from rfl] at l0
      simp only [g1, g2, decide_true, decide_false, cond_true, cond_false, l0, Option.bind_some, tab_get (show 3 < 4 by omega), m3]
      rw [set3 (preV b m i)]
      exact fin
    · have g2 := beqF hch
      have hc1 : colP b m i = (firF b m i, m.f) := if_neg (fun h => hch h.2)
      have ha1 : alpP b m i = (secF b m i, m.s) := if_pos ⟨hs, hch⟩
      rw [hc1] at hcol
      rw [ha1] at halp
      have l0 := texel_l0_all (tab (2 * m.P * 4) (endF b m)) ((m.P : Int)) ((m.W : Int)) ((m.T : Int)) ((m.H : Int)) ((m.C : Int)) ((m.A : Int)) ((m.e : Int)) ((m.o : Int)) ((m.f : Int)) ((m.s : Int)) ((wN b m : Int)) (tN b m) (cN b m) (tab 16 (firF b m)) (tab 16 (secF b m)) ([0, 0, 0, 0]) (secF b m i) ((m.s : Int)) (a := aF b m i) (z := zF b m i) (g := preV b m i) (p := firF b m i) (n := m.f) (fun c hc => by
        have := (mix9 (endF_bound b ok (2 * partV m.P (wN b m) i * 4 + c)) (endF_bound b ok ((2 * partV m.P (wN b m) i + 1) * 4 + c)) hcol.1 hcol.2).1
        unfold preV
        rw [if_neg (by omega), hc1]
        exact this) 3 0 600 (by omega) (by omega)
      have m3 := (mix9 (endF_bound b ok (2 * partV m.P (wN b m) i * 4 + 3)) (endF_bound b ok ((2 * partV m.P (wN b m) i + 1) * 4 + 3)) halp.1 halp.2).1
      have p3 : mx (aF b m i 3) (zF b m i 3) (secF b m i) (m.s) = preV b m i 3 := by
        unfold preV
        rw [if_pos rfl, ha1]
      change bcseven_mix 600 (aF b m i 3) (zF b m i 3) (secF b m i) (m.s : Int) = some (mx (aF b m i 3) (zF b m i 3) (secF b m i) (m.s), ()) at m3
      rw [p3] at m3
      rw [upT_zero] at l0
      rw [show ((0 : Nat) : Int) = 0 from rfl, show (tab 4 fun _ => 0) = [0, 0, 0, 0] from rfl] at l0
      simp only [g1, g2, decide_true, decide_false, cond_true, cond_false, l0, Option.bind_some, tab_get (show 3 < 4 by omega), m3]
      rw [set3 (preV b m i)]
      exact fin

/-! ### blocks -/

theorem tab_row {N i : Nat} {g h : Nat → Int} (hN : i * 4 + 4 ≤ N) : (List.take (i * 4) (tab N g) ++ tab 4 h) ++ List.drop (i * 4 + 4) (tab N g) = tab N fun j => if j / 4 = i then h (j % 4) else g j := by
  apply List.ext_getElem
  · simp [tab]
    omega
  · intro j h1 h2
    have hj : j < N := by simpa [tab] using h2
    have l1 : (List.take (i * 4) (tab N g)).length = i * 4 := by simp [tab]; omega
    have l2 : (tab 4 h).length = 4 := tab_len _ _
    simp only [List.getElem_append, List.length_append, l1, l2]
    by_cases c1 : j < i * 4 + 4
    · rw [dif_pos c1]
      by_cases c2 : j < i * 4
      · rw [dif_pos c2]
        simp only [tab, List.getElem_take, List.getElem_map, List.getElem_range]
        rw [if_neg (by omega)]
      · rw [dif_neg c2]
        simp only [tab, List.getElem_map, List.getElem_range]
        rw [if_pos (by omega)]
        congr 1
        omega
    · rw [dif_neg c1]
      simp only [tab, List.getElem_drop, List.getElem_map, List.getElem_range]
      rw [if_neg (by omega)]
      congr 1
      omega

/-- A block's texels. -/
def decF (b : List Int) (m : BM) (j : Nat) : Int := texV b m (j / 4) (j % 4)

theorem Decode_l0_all (b : List Int) {m : BM} (ok : m.Ok) (x0 : List Int) :
    ∀ (d i k : Nat), i + d = 16 → d < k → bcseven_Decode_l0 600 k x0 (tab 64 (upT (i * 4) (decF b m))) (tab (2 * m.P * 4) (endF b m)) ((m.P : Int)) ((m.W : Int)) ((m.T : Int)) ((m.H : Int)) ((m.C : Int)) ((m.A : Int)) ((m.e : Int)) ((m.o : Int)) ((m.f : Int)) ((m.s : Int)) ((wN b m : Int)) (tN b m) (cN b m) (tab 16 (firF b m)) (tab 16 (secF b m)) ((i : Int)) = some (x0, (tab 64 (decF b m), ())) := by
  intro d
  induction d with
  | zero =>
    intro i k h1 h2
    obtain ⟨k, rfl⟩ : ∃ k', k = k' + 1 := ⟨k - 1, by omega⟩
    obtain rfl : i = 16 := by omega
    unfold bcseven_Decode_l0 bcseven_Decode_l0S
    have : ¬ (((16 : Nat) : Int) < 16) := by omega
    simp only [this, decide_false, cond_false]
    rw [show 16 * 4 = 64 from rfl, upT_all]
  | succ d ih =>
    intro i k h1 h2
    obtain ⟨k, rfl⟩ : ∃ k', k = k' + 1 := ⟨k - 1, by omega⟩
    have hi : i < 16 := by omega
    have i1 : (i : Int) < 16 := by omega
    unfold bcseven_Decode_l0 bcseven_Decode_l0S
    simp only [i1, decide_true, cond_true, Int.natCast_nonneg, Bool.and_self, Int.toNat_natCast, texel_is b ok hi, Option.bind_some]
    rw [nextI (by omega), tab_row (by omega), tab_congr fun j hj => show (if j / 4 = i then texV b m i (j % 4) else upT (i * 4) (decF b m) j) = upT ((i + 1) * 4) (decF b m) j by
      unfold upT decF
      by_cases h : j / 4 = i
      · rw [if_pos h, if_pos (by omega), h]
      · rw [if_neg h]
        by_cases h2 : j < i * 4
        · rw [if_pos h2, if_pos (by omega)]
        · rw [if_neg h2, if_neg (by omega)]]
    exact ih (i + 1) k (by omega) (by omega)

/-! ### modes -/

def modeV (x : Int) : Nat := (math_bits_TrailingZeros8T292.getD x.toNat 0).toNat

theorem mode_closed : ((List.range 256).all fun x => (math_bits_TrailingZeros8T292.getD x 0 == ((modeV x : Nat) : Int)) && (decide (modeV x ≤ 8) && ((List.range 8).all fun i => (decide (i < modeV x) && ((x / 2 ^ i % 2) == 0)) || (decide (modeV x < i) || decide (i = modeV x ∧ x / 2 ^ i % 2 = 1))))) = true := by decide +kernel

theorem mode_fact {x : Int} (h : 0 ≤ x ∧ x ≤ 255) : math_bits_TrailingZeros8 600 x = some ((modeV x : Int), ()) ∧ modeV x ≤ 8 ∧ (∀ i, i < modeV x → bitL x i = 0) ∧ (modeV x < 8 → bitL x (modeV x) = 1) := by
  obtain ⟨x, rfl⟩ := Int.eq_ofNat_of_zero_le h.1
  have := List.all_eq_true.1 mode_closed x (by simp; omega)
  simp only [Bool.and_eq_true, beq_iff_eq, decide_eq_true_eq] at this
  obtain ⟨h1, h2, h3⟩ := this
  have hb : ∀ i, bitL (x : Int) i = ((x / 2 ^ i % 2 : Nat) : Int) := fun i => by
    unfold bitL
    rw [Int.natCast_emod, Int.natCast_ediv, Int.natCast_pow]
    rfl
  refine ⟨?_, h2, fun i hi => ?_, fun h8 => ?_⟩
  · unfold math_bits_TrailingZeros8
    have i1 : (x : Int) < 256 := by omega
    simp only [Int.natCast_nonneg, i1, decide_true, Bool.and_self, cond_true, Int.toNat_natCast, h1]
  · have := List.all_eq_true.1 h3 i (by simp; omega)
    simp only [Bool.or_eq_true, Bool.and_eq_true, decide_eq_true_eq, beq_iff_eq] at this
    rw [hb]
    omega
  · have := List.all_eq_true.1 h3 (modeV x) (by simpa using h8)
    simp only [Bool.or_eq_true, Bool.and_eq_true, decide_eq_true_eq, beq_iff_eq] at this
    rw [hb]
    omega

theorem Mode_is {b : List Int} (hb : Bytes b) (hl : b.length = 16) : bcseven_Mode 600 b = some ((modeV (b.getD 0 0) : Int), ()) := by
  have h := mode_fact (hb.getD 0)
  unfold bcseven_Mode
  rw [hl, h.1]
  rfl
theorem Mode_none {b : List Int} (hl : b.length ≠ 16) : bcseven_Mode 600 b = some (8, ()) := by
  unfold bcseven_Mode
  rw [bneT (by omega)]
  rfl

theorem zero64 : bcseven_DecodeT283 = tab 64 fun _ => 0 := by decide +kernel

/-- What a block's texels are. -/
def decAll (b : List Int) : List Int := if modeV (b.getD 0 0) = 8 then bcseven_DecodeT283 else tab 64 (decF b (bmOf (modeV (b.getD 0 0))))

theorem Decode_is {b : List Int} (hb : Bytes b) (hl : b.length = 16) : bcseven_Decode 600 b = some (decAll b, (0, ())) := by
  have h := mode_fact (hb.getD 0)
  have hn : (((b.length : Nat) : Int) != 16) = false := by rw [hl]; rfl
  unfold bcseven_Decode decAll
  rw [hn, Mode_is hb hl]
  simp only [cond_false, Option.bind_some]
  by_cases h8 : modeV (b.getD 0 0) = 8
  · rw [h8, if_pos rfl]
    rfl
  · rw [if_neg h8, beqF (by omega)]
    have hk : modeV (b.getD 0 0) < 8 := by omega
    simp only [cond_false, read_is hb hl hk rfl, Option.bind_some]
    have d := Decode_l0_all b (bm_ok hk) bcseven_DecodeT283 16 0 600 (by omega) (by omega)
    rw [Nat.zero_mul, upT_zero, ← zero64, show ((0 : Nat) : Int) = 0 from rfl] at d
    rw [d]
    rfl
theorem Decode_none {b : List Int} (hl : b.length ≠ 16) : bcseven_Decode 600 b = some (bcseven_DecodeT283, (1, ())) := by
  unfold bcseven_Decode
  rw [bneT (by omega)]
  rfl

end Go.AE.Gn

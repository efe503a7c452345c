/- Layer 9: bcseven. BcsevenSix, BcsevenRamp. -/
import Derived.Test.YtdhhinbhckoipaaPure09f
set_option linter.unusedVariables false
set_option linter.unusedSimpArgs false
namespace Go.AE.Gn
open Go Go.AE

theorem getD64 {l : List Int} (h : ∀ x ∈ l, IntKind.i64.has x) (i : Nat) : -9223372036854775808 ≤ l.getD i 0 ∧ l.getD i 0 ≤ 9223372036854775807 := by
  rw [List.getD_eq_getElem?_getD]
  by_cases hi : i < l.length
  · rw [List.getElem?_eq_getElem hi]
    exact has_iff.1 (h _ (List.getElem_mem hi))
  · rw [List.getElem?_eq_none (by omega)]
    simp

theorem sV_has {ends more which : List Int} (he : ∀ x ∈ ends, IntKind.i64.has x) (hm : ∀ x ∈ more, IntKind.i64.has x) (hw : ∀ x ∈ which, IntKind.i64.has x) (t : Nat) : -9223372036854775808 ≤ sV ends more which t ∧ sV ends more which t ≤ 9223372036854775807 := by
  unfold sV
  split
  · exact getD64 he _
  · split
    · exact getD64 hm _
    · exact getD64 hw _

/-- What Six comes to. -/
theorem Six_both {ends more which : List Int} (he : ∀ x ∈ ends, IntKind.i64.has x) (hm : ∀ x ∈ more, IntKind.i64.has x) (hw : ∀ x ∈ which, IntKind.i64.has x) :
    bcseven_Six 600 ends more which = some (if okU ends more which 26 then (sL ends more which 26, (0, ())) else ([], (1, ()))) := by
  rw [Six_is ends more which fun t _ => sV_has he hm hw t]
  obtain ⟨h1, h2⟩ := sS_ok ends more which 26
  rw [h1]
  by_cases h : okU ends more which 26 = true
  · rw [if_pos h, if_pos h, h2 h]
  · rw [if_neg h, if_neg h]

theorem sL_len (ends more which : List Int) : (sL ends more which 26).length = 16 := by rw [llaid_len]; rfl

theorem rows8 (ends more : List Int) : List.take 4 (tab 8 (endV ends more)) = tab 4 (endV ends more) ∧ List.take 4 (List.drop 4 (tab 8 (endV ends more))) = tab 4 fun c => endV ends more (4 + c) := by
  have h1 := tab_part (N := 8) (i := 0) (m := 4) (g := endV ends more) (by omega)
  have h2 := tab_part (N := 8) (i := 1) (m := 4) (g := endV ends more) (by omega)
  rw [Nat.zero_mul, List.drop_zero] at h1
  rw [Nat.one_mul] at h2
  refine ⟨h1.trans (tab_congr fun j hj => by rw [Nat.zero_add]), h2⟩

theorem law09_BcsevenSix_true (ends more which : List Int) (he : ends.length = 8 ∧ ∀ x ∈ ends, IntKind.i64.has x) (hm : more.length = 2 ∧ ∀ x ∈ more, IntKind.i64.has x) (hw : which.length = 16 ∧ ∀ x ∈ which, IntKind.i64.has x) : ∃ F, law09_BcsevenSix F ends more which = some (true, ()) := by
  refine ⟨600, ?_⟩
  unfold law09_BcsevenSix
  obtain ⟨r1, r2⟩ := rows8 ends more
  obtain ⟨p1, p2⟩ := Ramp_is (a := endV ends more) (z := fun c => endV ends more (4 + c)) (fun c => endV_bound ends more c) (fun c => endV_bound ends more (4 + c))
  have z0 : ((0 : Int) != 0) = false := rfl
  have z1 : ((1 : Int) != 1) = false := rfl
  rw [awake09, Six_both he.2 hm.2 hw.2, rSix_is]
  by_cases h : okU ends more which 26 = true
  · have hs := Same_is (F := 600) (sL ends more which 26) (by rw [sL_len]; omega) (by omega)
    simp only [h, if_true, Option.bind_some, hs, Ends_is ends more he.1, rEnds_is, Bool.not_true, cond_false, cond_true, z0, beq_self_eq_true, r1, r2, p1, p2]
  · have hs := Same_is (F := 600) [] (by simp) (by omega)
    simp only [h, Bool.false_eq_true, if_false, Option.bind_some, hs, Ends_is ends more he.1, rEnds_is, Bool.not_true, cond_false, cond_true, z1, beq_self_eq_true, r1, r2, p1, p2]

/-! ### a block of mode 6, read -/

def m6 : BM := bmOf 6
theorem m6_is : bmOf 6 = ⟨1, 0, 0, 0, 7, 7, 1, 0, 4, 0, 7⟩ := by kernel_rfl

theorem sA_apart : ((List.range 26).all fun i => decide (sA i + sN i ≤ 128) && (List.range 26).all fun j => decide (i = j) || decide (sA i + sN i ≤ sA j ∨ sA j + sN j ≤ sA i)) = true := by decide +kernel

theorem sL_lv {ends more which : List Int} (h : okU ends more which 26 = true) {t : Nat} (ht : t < 26) : lv (sL ends more which 26) (sA t) (sN t) = sV ends more which t := by
  have hr : ∀ i, i < 26 → sA i + sN i ≤ 8 * ref09_SixT5836.length := fun i hi => by
    have := List.all_eq_true.1 sA_apart i (List.mem_range.2 hi)
    have := (Bool.and_eq_true_iff.1 this).1
    have h128 : sA i + sN i ≤ 128 := by simpa using this
    exact h128
  have hd : ∀ i j, i < 26 → j < 26 → i ≠ j → sA i + sN i ≤ sA j ∨ sA j + sN j ≤ sA i := fun i j hi hj hij => by
    have := List.all_eq_true.1 sA_apart i (List.mem_range.2 hi)
    have := List.all_eq_true.1 (Bool.and_eq_true_iff.1 this).2 j (List.mem_range.2 hj)
    simpa [hij] using this
  have hok : 0 ≤ sV ends more which t ∧ sV ends more which t < 2 ^ sN t := by
    have := okU_at ends more which ht h
    simpa [okS, okV] using this
  refine lv_of_bits hok fun q h1 h2 => ?_
  exact llaid_bit six_bytes hr hd ht h1 h2 26 ht (Nat.le_refl _)

theorem sL_mode (ends more which : List Int) : modeV ((sL ends more which 26).getD 0 0) = 6 := by
  have hr : ∀ i, i < 26 → sA i + sN i ≤ 8 * ref09_SixT5836.length := fun i hi => by
    have := List.all_eq_true.1 sA_apart i (List.mem_range.2 hi)
    have := (Bool.and_eq_true_iff.1 this).1
    have h128 : sA i + sN i ≤ 128 := by simpa using this
    exact h128
  refine mode_same six_bytes (llaid_bytes _ _ _ six_bytes 26) rfl (sL_len _ _ _) (k := 6) (by decide +kernel) (by omega) fun q hq => ?_
  refine llaid_out six_bytes hr (fun i hi hc => ?_) 26 (Nat.le_refl _)
  have := sA_mono (Nat.zero_le i)
  simp only [sA] at this
  omega

theorem wide8_closed : ((List.range 256).all fun v => wideS 8 v == (v : Int)) = true := by decide +kernel
theorem wide8 {x : Int} (h : 0 ≤ x ∧ x ≤ 255) : wideV 8 x = x := by
  unfold wideV
  have := List.all_eq_true.1 wide8_closed x.toNat (List.mem_range.2 (by omega))
  rw [beq_iff_eq] at this
  rw [show x % 2 ^ 8 = x by omega, this]
  omega

theorem sA_closed2 : ((List.range 8).all fun t => sA t == 7 + 7 * t) && ((List.range 16).all fun i => posF 1 0 4 65 i == sA (10 + i) && (4 - lessV 1 0 i == sN (10 + i))) && (sA 8 == 63 && sA 9 == 64) = true := by decide +kernel

theorem sA8 {t : Nat} (h : t < 8) : sA t = 7 + 7 * t := by
  have := sA_closed2
  simp only [Bool.and_eq_true] at this
  simpa using List.all_eq_true.1 this.1.1 t (List.mem_range.2 h)
theorem sA10 {i : Nat} (h : i < 16) : posF 1 0 4 65 i = sA (10 + i) ∧ 4 - lessV 1 0 i = sN (10 + i) := by
  have := sA_closed2
  simp only [Bool.and_eq_true] at this
  simpa using List.all_eq_true.1 this.1.2 i (List.mem_range.2 h)

theorem six_end {ends more which : List Int} (h : okU ends more which 26 = true) {j : Nat} (hj : j < 8) : endF (sL ends more which 26) (bmOf 6) j = endV ends more j := by
  have hl : ∀ t, t < 8 → lv (sL ends more which 26) (7 + 7 * t) 7 = sV ends more which t := fun t ht => by
    have := sL_lv h (show t < 26 by omega)
    rwa [sA8 ht, show sN t = 7 from if_pos ht] at this
  have ho : ∀ t, t < 26 → 0 ≤ sV ends more which t ∧ sV ends more which t < 2 ^ sN t := fun t ht => by
    have := okU_at ends more which ht h
    simpa [okS, okV] using this
  have hv : sV ends more which (2 * (j % 4) + j / 4) = ends.getD j 0 := by
    unfold sV
    rw [if_pos (by omega)]
    congr 1
    omega
  have he : e0 (sL ends more which 26) (bmOf 6) (bp0 (bmOf 6)) j = ends.getD j 0 := by
    rw [m6_is]
    unfold e0 bp0
    simp only
    by_cases h3 : j % 4 = 3
    · rw [if_pos h3, show 7 + 0 + 0 + 0 + 6 * 1 * 7 + j / 4 * 7 = 7 + 7 * (2 * (j % 4) + j / 4) by omega, hl _ (by omega), hv]
    · rw [if_neg h3, show 7 + 0 + 0 + 0 + j % 4 * (2 * 1 * 7) + j / 4 * 7 = 7 + 7 * (2 * (j % 4) + j / 4) by omega, hl _ (by omega), hv]
  have hm : sV ends more which (8 + j / 4) = more.getD (j / 4) 0 := by
    unfold sV
    rw [if_neg (by omega), if_pos (by omega)]
    congr 1
    omega
  have hb : bitV (sL ends more which 26) (bmOf 6) (bp1 (bmOf 6)) (j / 4) = more.getD (j / 4) 0 := by
    have h8 := sL_lv h (show 8 + j / 4 < 26 by omega)
    have a8 : sA (8 + j / 4) = 63 + j / 4 := by
      rcases (by omega : j / 4 = 0 ∨ j / 4 = 1) with e | e <;> rw [e] <;> rfl
    have n8 : sN (8 + j / 4) = 1 := by
      unfold sN
      rw [if_neg (by omega), if_pos (by omega)]
    rw [a8, n8, hm] at h8
    rw [m6_is]
    exact h8
  have o1 := ho (2 * (j % 4) + j / 4) (by omega)
  rw [hv, show sN (2 * (j % 4) + j / 4) = 7 from if_pos (by omega)] at o1
  have o2 := ho (8 + j / 4) (by omega)
  rw [hm, show sN (8 + j / 4) = 1 by unfold sN; rw [if_neg (by omega), if_pos (by omega)]] at o2
  unfold endF eF
  rw [he, hb]
  rw [m6_is]
  have hx : (2 : Int) ^ (1 + 0) * ends.getD j 0 + more.getD (j / 4) 0 = endV ends more j := by
    unfold endV
    omega
  simp only [show ¬ (7 : Nat) = 0 by decide, if_false, hx, ite_self]
  exact wide8 (endV_bound ends more j)

theorem six_place {ends more which : List Int} (h : okU ends more which 26 = true) {i : Nat} (hi : i < 16) : firF (sL ends more which 26) (bmOf 6) i = which.getD i 0 ∧ 0 ≤ which.getD i 0 ∧ which.getD i 0 < 16 := by
  have hv : sV ends more which (10 + i) = which.getD i 0 := by
    unfold sV
    rw [if_neg (by omega), if_neg (by omega)]
    congr 1
    omega
  have hl := sL_lv h (show 10 + i < 26 by omega)
  obtain ⟨s1, s2⟩ := sA10 hi
  have ho : 0 ≤ sV ends more which (10 + i) ∧ sV ends more which (10 + i) < 2 ^ sN (10 + i) := by
    have := okU_at ends more which (show 10 + i < 26 by omega) h
    simpa [okS, okV] using this
  have h4 : (2 : Int) ^ sN (10 + i) ≤ 2 ^ 4 := ipow_le (by rw [← s2]; omega)
  rw [hv] at ho hl
  refine ⟨?_, ho.1, by omega⟩
  unfold firF firstV
  have hw : wN (sL ends more which 26) (bmOf 6) = 0 := by
    rw [m6_is]
    rfl
  rw [hw, m6_is]
  show lv (sL ends more which 26) (posF 1 0 4 65 i) (4 - lessV 1 0 i) = _
  rw [s1, s2, hl]

theorem six_dec {ends more which : List Int} (h : okU ends more which 26 = true) : bcseven_Decode 600 (sL ends more which 26) = some (tab 64 fun j => mx (endV ends more (j % 4)) (endV ends more (4 + j % 4)) (which.getD (j / 4) 0) 4, (0, ())) := by
  rw [Decode_is (llaid_bytes _ _ _ six_bytes 26) (sL_len _ _ _)]
  unfold decAll
  rw [sL_mode, if_neg (by omega), tab_congr fun j hj => show decF (sL ends more which 26) (bmOf 6) j = mx (endV ends more (j % 4)) (endV ends more (4 + j % 4)) (which.getD (j / 4) 0) 4 by
    have ht : ¬ 0 < tN (sL ends more which 26) (bmOf 6) := by
      rw [m6_is]
      exact Int.lt_irrefl 0
    have hw : wN (sL ends more which 26) (bmOf 6) = 0 := by
      rw [m6_is]
      rfl
    have hP : (bmOf 6).P = 1 := by rw [m6_is]
    have hs : (bmOf 6).s = 0 := by rw [m6_is]
    have hf : (bmOf 6).f = 4 := by rw [m6_is]
    obtain ⟨_, _, hp⟩ := part9 (P := 1) (w := 0) (i := j / 4) (by omega) (by omega) (by omega) (by omega)
    have hp0 : partV 1 0 (j / 4) = 0 := by omega
    unfold decF texV turnV
    rw [if_neg ht]
    unfold preV colP alpP aF zF
    rw [hw, hP, hp0, hs]
    simp only [ne_eq, not_true_eq_false, false_and, if_false, (six_place h (show j / 4 < 16 by omega)).1, hf]
    have e1 : ∀ c, c < 4 → endF (sL ends more which 26) (bmOf 6) (2 * 0 * 4 + c) = endV ends more c := fun c hc => by
      rw [show 2 * 0 * 4 + c = c by omega]
      exact six_end h (by omega)
    have e2 : ∀ c, c < 4 → endF (sL ends more which 26) (bmOf 6) ((2 * 0 + 1) * 4 + c) = endV ends more (4 + c) := fun c hc => by
      rw [show (2 * 0 + 1) * 4 + c = 4 + c by omega]
      exact six_end h (by omega)
    have hc : j % 4 < 4 := Nat.mod_lt _ (by decide)
    by_cases h3 : j % 4 = 3
    · rw [if_pos h3, h3, e1 3 (by omega), e2 3 (by omega)]
    · rw [if_neg h3, e1 _ hc, e2 _ hc]]

/-! ### ramps turned about -/

theorem wL_turn : ((List.range 16).all fun i => (wL 4).getD (15 - i) 0 == 64 - (wL 4).getD i 0) = true := by decide +kernel

theorem mx_turn (a z : Int) {i : Nat} (hi : i < 16) : mx a z (i : Int) 4 = mx z a ((15 - i : Nat) : Int) 4 := by
  have := List.all_eq_true.1 wL_turn i (List.mem_range.2 hi)
  rw [beq_iff_eq] at this
  unfold mx mixV
  rw [Int.toNat_natCast, Int.toNat_natCast, this]
  generalize (wL 4).getD i 0 = w
  rw [show (64 : Int) - (64 - w) = w by omega, Int.add_comm (a * (64 - w)) (z * w)]

theorem mx_first (a z : Int) : mx a z 0 4 = a := by
  unfold mx mixV
  rw [show (wL 4).getD (Int.toNat 0) 0 = 0 from rfl]
  omega
theorem mx_last (a z : Int) : mx a z 15 4 = z := by
  unfold mx mixV
  rw [show (wL 4).getD (Int.toNat 15) 0 = 64 from rfl]
  omega

theorem bra_l0_all {ends more which : List Int} (h : okU ends more which 26 = true) (x1 : Bool) (x3 : Int) (x4 : List Int) : ∀ (d i k : Nat), i + d = 16 → d < k →
    law09_BcsevenRamp_l0 600 k which x1 (tab 64 fun j => mx (endV ends more (j % 4)) (endV ends more (4 + j % 4)) (which.getD (j / 4) 0) 4) x3 x4 (tab 64 (rampV (endV ends more) fun c => endV ends more (4 + c))) (tab 64 (rampV (fun c => endV ends more (4 + c)) (endV ends more))) (i : Int) = some (.inr (x1, (x3, (x4, (tab 64 (rampV (endV ends more) fun c => endV ends more (4 + c)), ()))))) := by
  intro d
  induction d with
  | zero =>
    intro i k h1 h2
    obtain ⟨k, rfl⟩ : ∃ k', k = k' + 1 := ⟨k - 1, by omega⟩
    obtain rfl : i = 16 := by omega
    unfold law09_BcsevenRamp_l0 law09_BcsevenRamp_l0S
    have : ¬ (((16 : Nat) : Int) < 16) := by omega
    simp only [this, decide_false, cond_false]
  | succ d ih =>
    intro i k h1 h2
    obtain ⟨k, rfl⟩ : ∃ k', k = k' + 1 := ⟨k - 1, by omega⟩
    have hi : i < 16 := by omega
    have i1 : (i : Int) < 16 := by omega
    obtain ⟨_, hw0, hw1⟩ := six_place h hi
    have e15 : IntKind.wrap .i64 (15 - (i : Int)) = ((15 - i : Nat) : Int) := by rw [w64 (by omega) (by omega)]; omega
    have i2 : ((15 - i : Nat) : Int) < 16 := by omega
    obtain ⟨w, hw⟩ := Int.eq_ofNat_of_zero_le hw0
    have hwl : w < 16 := by omega
    have a1 : (tab 4 fun c => mx (endV ends more ((i * 4 + c) % 4)) (endV ends more (4 + (i * 4 + c) % 4)) (which.getD ((i * 4 + c) / 4) 0) 4) = tab 4 fun c => rampV (endV ends more) (fun c => endV ends more (4 + c)) (w * 4 + c) := tab_congr fun c hc => by
      unfold rampV
      rw [(mul4 i c hc).1, (mul4 i c hc).2, (mul4 w c hc).1, (mul4 w c hc).2, hw]
    have a2 : (tab 4 fun c => rampV (endV ends more) (fun c => endV ends more (4 + c)) (i * 4 + c)) = tab 4 fun c => rampV (fun c => endV ends more (4 + c)) (endV ends more) ((15 - i) * 4 + c) := tab_congr fun c hc => by
      unfold rampV
      rw [(mul4 i c hc).1, (mul4 i c hc).2, (mul4 (15 - i) c hc).1, (mul4 (15 - i) c hc).2]
      exact mx_turn _ _ hi
    rw [hw] at hw1
    unfold law09_BcsevenRamp_l0 law09_BcsevenRamp_l0S
    simp only [i1, decide_true, cond_true, Int.natCast_nonneg, Bool.and_self, Int.toNat_natCast, hw, hw1, tab_part (N := 64) (m := 4) (show i * 4 + 4 ≤ 64 by omega), tab_part (N := 64) (m := 4) (show w * 4 + 4 ≤ 64 by omega), a1, beq_self_eq_true, Bool.not_true, cond_false, e15, i2, tab_part (N := 64) (m := 4) (show (15 - i) * 4 + 4 ≤ 64 by omega), a2]
    rw [nextI (by omega)]
    exact ih (i + 1) k (by omega) (by omega)

theorem law09_BcsevenRamp_true (ends more which : List Int) (he : ends.length = 8 ∧ ∀ x ∈ ends, IntKind.i64.has x) (hm : more.length = 2 ∧ ∀ x ∈ more, IntKind.i64.has x) (hw : which.length = 16 ∧ ∀ x ∈ which, IntKind.i64.has x) : ∃ F, law09_BcsevenRamp F ends more which = some (true, ()) := by
  refine ⟨600, ?_⟩
  unfold law09_BcsevenRamp
  rw [awake09, Six_both he.2 hm.2 hw.2]
  by_cases h : okU ends more which 26 = true
  · obtain ⟨r1, r2⟩ := rows8 ends more
    have p1 := (Ramp_is (a := endV ends more) (z := fun c => endV ends more (4 + c)) (fun c => endV_bound ends more c) (fun c => endV_bound ends more (4 + c))).1
    have p2 := (Ramp_is (a := fun c => endV ends more (4 + c)) (z := endV ends more) (fun c => endV_bound ends more (4 + c)) (fun c => endV_bound ends more c)).1
    have l := bra_l0_all h true 0 (tab 8 (endV ends more)) 16 0 600 (by omega) (by omega)
    rw [show ((0 : Nat) : Int) = 0 from rfl] at l
    have z0 : ((0 : Int) != 0) = false := rfl
    have q1 : List.take 4 (tab 64 (rampV (endV ends more) fun c => endV ends more (4 + c))) = tab 4 (endV ends more) := by
      have := tab_part (N := 64) (i := 0) (m := 4) (g := rampV (endV ends more) fun c => endV ends more (4 + c)) (by omega)
      rw [Nat.zero_mul, List.drop_zero] at this
      rw [this]
      refine tab_congr fun c hc => ?_
      unfold rampV
      rw [show (0 + c) / 4 = 0 by omega, show (0 + c) % 4 = c by omega]
      exact mx_first _ _
    have q2 : List.take 4 (List.drop 60 (tab 64 (rampV (endV ends more) fun c => endV ends more (4 + c)))) = tab 4 fun c => endV ends more (4 + c) := by
      have := tab_part (N := 64) (i := 15) (m := 4) (g := rampV (endV ends more) fun c => endV ends more (4 + c)) (by omega)
      rw [show 15 * 4 = 60 from rfl] at this
      rw [this]
      refine tab_congr fun c hc => ?_
      unfold rampV
      rw [show (60 + c) / 4 = 15 by omega, show (60 + c) % 4 = c by omega]
      exact mx_last _ _
    simp only [h, if_true, Option.bind_some, z0, cond_false, cond_true, six_dec h, Ends_is ends more he.1, r1, r2, p1, p2, l, beq_self_eq_true, q1, q2]
  · have z1 : ((1 : Int) != 0) = true := rfl
    simp only [h, Bool.false_eq_true, if_false, Option.bind_some, z1, cond_true, beq_self_eq_true]
    rfl

end Go.AE.Gn

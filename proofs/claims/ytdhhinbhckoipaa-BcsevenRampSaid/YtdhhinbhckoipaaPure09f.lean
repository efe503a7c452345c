/- Layer 9: bcseven. Blocks of mode 6: how they are laid; BcsevenSix, BcsevenRamp. -/
import Derived.Test.YtdhhinbhckoipaaPure09e
set_option linter.unusedVariables false
set_option linter.unusedSimpArgs false
namespace Go.AE.Gn
open Go Go.AE

def okV (n : Nat) (v : Int) : Bool := decide (0 ≤ v ∧ v < 2 ^ n)

theorem wrapU (v : Int) (h : -9223372036854775808 ≤ v ∧ v ≤ 9223372036854775807) : (0 ≤ IntKind.wrap .u64 v ∧ IntKind.wrap .u64 v ≤ 18446744073709551615) ∧ (0 ≤ v → IntKind.wrap .u64 v = v) ∧ (v < 0 → 9223372036854775808 ≤ IntKind.wrap .u64 v) := by
  by_cases h0 : 0 ≤ v
  · rw [wu64 h0 (by omega)]
    omega
  · have : IntKind.wrap .u64 v = v + 18446744073709551616 := by
      simp only [IntKind.wrap]
      simp [IntKind.signed, IntKind.bits]
      omega
    rw [this]
    omega

theorem lay_is {l : List Int} (hb : Bytes l) (hl : l.length = 16) {a n : Nat} (hn : n ≤ 7) (h : a + n ≤ 128) {v : Int} (hv : -9223372036854775808 ≤ v ∧ v ≤ 9223372036854775807) (fine : Bool) :
    bcseven_Six_c1 600 v (n : Int) l (a : Int) fine = some (if fine && okV n v then (lset l a n v, (((a + n : Nat) : Int), (true, ()))) else (l, ((a : Int), (false, ())))) := by
  obtain ⟨hu, hp, hneg⟩ := wrapU v hv
  have hchk : chk l.length a n = 0 := chk_ok (by omega) (by omega)
  have ew : IntKind.wrap .i64 ((a : Int) + (n : Int)) = ((a + n : Nat) : Int) := by rw [w64 (by omega) (by omega), Int.natCast_add]
  have h2n : (2 : Int) ^ n ≤ 2 ^ 7 := ipow_le hn
  have h2p := powPos n
  unfold bcseven_Six_c1
  by_cases hok : 0 ≤ v ∧ v < 2 ^ n
  · rw [hp hok.1, SetLow_ok (by omega) hb (by omega) (by omega) (by omega) hok]
    have : okV n v = true := by simpa [okV] using hok
    cases fine <;> simp only [Option.bind_some, cond_true, cond_false, beq_self_eq_true, ew, this, Bool.and_true, Bool.true_and, Bool.false_and, if_true, Bool.false_eq_true, if_false]
  · rw [SetLow_is (by omega) hb (by omega) (by omega) hu]
    have : okV n v = false := by simpa [okV] using hok
    have hf : fitsV l.length a n (IntKind.wrap .u64 v) = 10 := by
      unfold fitsV
      rw [if_pos hchk, if_pos]
      refine ⟨by omega, fun he => ?_⟩
      rw [Int.toNat_natCast] at he
      have hge : 2 ^ n ≤ IntKind.wrap .u64 v := by
        by_cases h0 : 0 ≤ v
        · rw [hp h0]
          omega
        · have := hneg (by omega)
          omega
      have : (1 : Int) ≤ IntKind.wrap .u64 v / 2 ^ n := (Int.le_ediv_iff_mul_le h2p).2 (by omega)
      omega
    have z : ((10 : Int) == 0) = false := rfl
    cases fine <;> simp only [Option.bind_some, hf, z, cond_true, cond_false, this, Bool.and_false, Bool.false_eq_true, if_false]

/-! ### the fields -/

def sN (t : Nat) : Nat := if t < 8 then 7 else if t < 10 then 1 else if t = 10 then 3 else 4
def sA : Nat → Nat
  | 0 => 7
  | t + 1 => sA t + sN t
def sV (ends more which : List Int) (t : Nat) : Int := if t < 8 then ends.getD (t % 2 * 4 + t / 2) 0 else if t < 10 then more.getD (t - 8) 0 else which.getD (t - 10) 0
def okS (ends more which : List Int) (t : Nat) : Bool := okV (sN t) (sV ends more which t)

/-- The block, how far it is laid, and whether all was fine. -/
def sS (ends more which : List Int) : Nat → List Int × (Nat × Bool)
  | 0 => (ref09_SixT5836, (7, true))
  | t + 1 => let s := sS ends more which t
    if s.2.2 && okS ends more which t then (lset s.1 s.2.1 (sN t) (sV ends more which t), (s.2.1 + sN t, true)) else (s.1, (s.2.1, false))

theorem sA_closed : ((List.range 27).all fun t => decide (sA t ≤ 128)) = true := by decide +kernel
theorem sA_le {t : Nat} (h : t ≤ 26) : sA t ≤ 128 := by simpa using List.all_eq_true.1 sA_closed t (List.mem_range.2 (by omega))
theorem sN_le (t : Nat) : sN t ≤ 7 := by
  unfold sN
  split
  · omega
  · split
    · omega
    · split <;> omega
theorem sA_mono : ∀ {s t : Nat}, s ≤ t → sA s ≤ sA t := by
  intro s t h
  induction h with
  | refl => exact Nat.le_refl _
  | step h ih => exact Nat.le_trans ih (by simp only [sA]; omega)

theorem sS_inv (ends more which : List Int) : ∀ t, Bytes (sS ends more which t).1 ∧ (sS ends more which t).1.length = 16 ∧ (sS ends more which t).2.1 ≤ sA t ∧ ((sS ends more which t).2.2 = true → (sS ends more which t).2.1 = sA t)
  | 0 => by
    refine ⟨?_, rfl, Nat.le_refl _, fun _ => rfl⟩
    have : (ref09_SixT5836.all fun x => decide (0 ≤ x ∧ x ≤ 255)) = true := by decide +kernel
    intro x hx
    simpa using List.all_eq_true.1 this x hx
  | t + 1 => by
    obtain ⟨h1, h2, h3, h4⟩ := sS_inv ends more which t
    simp only [sS]
    by_cases h : ((sS ends more which t).2.2 && okS ends more which t) = true
    · rw [if_pos h]
      have := h4 (Bool.and_eq_true_iff.1 h).1
      exact ⟨lset_bytes h1 _ _ _, by rw [lset_len]; exact h2, by simp only [sA]; omega, fun _ => by simp only [sA]; omega⟩
    · rw [if_neg h]
      exact ⟨h1, h2, by simp only [sA]; omega, fun e => by cases e⟩

theorem lay_step (ends more which : List Int) (hV : ∀ t, t < 26 → -9223372036854775808 ≤ sV ends more which t ∧ sV ends more which t ≤ 9223372036854775807) {t : Nat} (ht : t < 26) :
    bcseven_Six_c1 600 (sV ends more which t) (sN t : Int) (sS ends more which t).1 ((sS ends more which t).2.1 : Int) (sS ends more which t).2.2 = some ((sS ends more which (t + 1)).1, (((sS ends more which (t + 1)).2.1 : Int), ((sS ends more which (t + 1)).2.2, ()))) := by
  obtain ⟨h1, h2, h3, h4⟩ := sS_inv ends more which t
  have h5 := sA_le (show t + 1 ≤ 26 by omega)
  simp only [sA] at h5
  rw [lay_is h1 h2 (sN_le t) (by omega) (hV t ht), show okV (sN t) (sV ends more which t) = okS ends more which t from rfl]
  simp only [sS]
  by_cases h : ((sS ends more which t).2.2 && okS ends more which t) = true
  · rw [if_pos h, if_pos h]
  · rw [if_neg h, if_neg h]

theorem Six_l0_all (ends more which : List Int) (hV : ∀ t, t < 26 → -9223372036854775808 ≤ sV ends more which t ∧ sV ends more which t ≤ 9223372036854775807) : ∀ (d c k : Nat), c + d = 4 → d < k →
    bcseven_Six_l0 600 k ends more which (sS ends more which (2 * c)).1 (sS ends more which (2 * c)).2.2 ((sS ends more which (2 * c)).2.1 : Int) (c : Int) = some (more, (which, ((sS ends more which 8).1, ((sS ends more which 8).2.2, (((sS ends more which 8).2.1 : Int), ()))))) := by
  intro d
  induction d with
  | zero =>
    intro c k h1 h2
    obtain ⟨k, rfl⟩ : ∃ k', k = k' + 1 := ⟨k - 1, by omega⟩
    obtain rfl : c = 4 := by omega
    unfold bcseven_Six_l0 bcseven_Six_l0S
    have : ¬ (((4 : Nat) : Int) < 4) := by omega
    simp only [this, decide_false, cond_false]
  | succ d ih =>
    intro c k h1 h2
    obtain ⟨k, rfl⟩ : ∃ k', k = k' + 1 := ⟨k - 1, by omega⟩
    have hc : c < 4 := by omega
    have i1 : (c : Int) < 4 := by omega
    have s1 := lay_step ends more which hV (t := 2 * c) (by omega)
    have s2 := lay_step ends more which hV (t := 2 * c + 1) (by omega)
    have n1 : sN (2 * c) = 7 := if_pos (by omega)
    have n2 : sN (2 * c + 1) = 7 := if_pos (by omega)
    have v1 : sV ends more which (2 * c) = ends.getD c 0 := by
      unfold sV
      rw [if_pos (by omega)]
      congr 1
      omega
    have v2 : sV ends more which (2 * c + 1) = ends.getD (4 + c) 0 := by
      unfold sV
      rw [if_pos (by omega)]
      congr 1
      omega
    rw [n1, v1, show ((7 : Nat) : Int) = 7 from rfl] at s1
    rw [n2, v2, show ((7 : Nat) : Int) = 7 from rfl] at s2
    unfold bcseven_Six_l0 bcseven_Six_l0S
    simp only [i1, decide_true, cond_true, Int.natCast_nonneg, Bool.and_self, Int.toNat_natCast, s1, s2, Option.bind_some]
    rw [nextI (by omega)]
    exact ih (c + 1) k (by omega) (by omega)

theorem Six_l2_all (ends more which : List Int) (hV : ∀ t, t < 26 → -9223372036854775808 ≤ sV ends more which t ∧ sV ends more which t ≤ 9223372036854775807) : ∀ (d i k : Nat), i + d = 16 → d < k →
    bcseven_Six_l2 600 k (sS ends more which (10 + i)).1 (sS ends more which (10 + i)).2.2 ((sS ends more which (10 + i)).2.1 : Int) which (i : Int) = some ((sS ends more which 26).1, ((sS ends more which 26).2.2, ())) := by
  intro d
  induction d with
  | zero =>
    intro i k h1 h2
    obtain ⟨k, rfl⟩ : ∃ k', k = k' + 1 := ⟨k - 1, by omega⟩
    obtain rfl : i = 16 := by omega
    unfold bcseven_Six_l2 bcseven_Six_l2S
    have : ¬ (((16 : Nat) : Int) < 16) := by omega
    simp only [this, decide_false, cond_false]
  | succ d ih =>
    intro i k h1 h2
    obtain ⟨k, rfl⟩ : ∃ k', k = k' + 1 := ⟨k - 1, by omega⟩
    have i1 : (i : Int) < 16 := by omega
    have hz : (!(((i + 1 : Nat) : Int) == 0)) = true := by
      rw [beqF (by omega)]
      rfl
    have s1 := lay_step ends more which hV (t := 10 + i) (by omega)
    have v1 : sV ends more which (10 + i) = which.getD i 0 := by
      unfold sV
      rw [if_neg (by omega), if_neg (by omega)]
      congr 1
      omega
    have hle : (if i = 0 then 1 else 0 : Nat) ≤ 1 := by split <;> omega
    have ew : IntKind.wrap .i64 (((if i = 0 then 1 else 0 : Nat) : Int)) = ((if i = 0 then 1 else 0 : Nat) : Int) := w64 (by omega) (by omega)
    have en : IntKind.wrap .i64 (4 - ((if i = 0 then 1 else 0 : Nat) : Int)) = ((sN (10 + i) : Nat) : Int) := by
      by_cases h : i = 0
      · subst h
        rfl
      · have : sN (10 + i) = 4 := by
          unfold sN
          rw [if_neg (by omega), if_neg (by omega), if_neg (by omega)]
        rw [this]
        simp only [h, if_false]
        rfl
    rw [v1] at s1
    unfold bcseven_Six_l2 bcseven_Six_l2S
    simp only [i1, decide_true, cond_true, Int.natCast_nonneg, Bool.and_self, Int.toNat_natCast]
    rw [nextI (by omega)]
    simp only [hz, cond_true, tdiv_one, ew, en, s1, Option.bind_some]
    exact ih (i + 1) k (by omega) (by omega)

theorem six_base : bits_SetLow 600 bcseven_SixT4 6 1 1 = some (ref09_SixT5836, (0, ())) := by kernel_rfl

theorem Six_is (ends more which : List Int) (hV : ∀ t, t < 26 → -9223372036854775808 ≤ sV ends more which t ∧ sV ends more which t ≤ 9223372036854775807) :
    bcseven_Six 600 ends more which = some (if (sS ends more which 26).2.2 then ((sS ends more which 26).1, (0, ())) else ([], (1, ()))) := by
  have l0 : bcseven_Six_l0 600 600 ends more which ref09_SixT5836 true (7 : Int) (0 : Int) = _ := Six_l0_all ends more which hV 4 0 600 (by omega) (by omega)
  have s8 := lay_step ends more which hV (t := 8) (by omega)
  have s9 := lay_step ends more which hV (t := 9) (by omega)
  have v8 : sV ends more which 8 = more.getD 0 0 := rfl
  have v9 : sV ends more which 9 = more.getD 1 0 := rfl
  rw [v8, show ((sN 8 : Nat) : Int) = 1 from rfl] at s8
  rw [v9, show ((sN 9 : Nat) : Int) = 1 from rfl] at s9
  have l2 : bcseven_Six_l2 600 600 (sS ends more which 10).1 (sS ends more which 10).2.2 ((sS ends more which 10).2.1 : Int) which (0 : Int) = _ := Six_l2_all ends more which hV 16 0 600 (by omega) (by omega)
  unfold bcseven_Six
  rw [six_base]
  simp only [Option.bind_some, l0, s8, s9, l2]
  cases (sS ends more which 26).2.2 <;> rfl

/-! ### by the document -/

def okU (ends more which : List Int) (t : Nat) : Bool := (List.range t).all (okS ends more which)
theorem okU_succ (ends more which : List Int) (t : Nat) : okU ends more which (t + 1) = (okU ends more which t && okS ends more which t) := by
  unfold okU
  rw [List.range_succ, List.all_append]
  simp
theorem sS_ok (ends more which : List Int) : ∀ t, (sS ends more which t).2.2 = okU ends more which t ∧ (okU ends more which t = true → (sS ends more which t).1 = llaid sA sN (sV ends more which) ref09_SixT5836 t)
  | 0 => ⟨rfl, fun _ => rfl⟩
  | t + 1 => by
    obtain ⟨h1, h2⟩ := sS_ok ends more which t
    have h3 := (sS_inv ends more which t).2.2.2
    rw [okU_succ]
    simp only [sS]
    by_cases h : ((sS ends more which t).2.2 && okS ends more which t) = true
    · rw [if_pos h]
      rw [h1] at h
      rw [h]
      have h4 := (Bool.and_eq_true_iff.1 h).1
      exact ⟨rfl, fun _ => by rw [h2 h4, h3 (by rw [h1]; exact h4)]; rfl⟩
    · rw [if_neg h]
      rw [h1, Bool.not_eq_true] at h
      rw [h]
      exact ⟨rfl, fun e => by cases e⟩

theorem okU_le (ends more which : List Int) {s t : Nat} (h : s ≤ t) (ht : okU ends more which t = true) : okU ends more which s = true := by
  unfold okU at *
  rw [List.all_eq_true] at *
  intro x hx
  exact ht x (List.mem_range.2 (by have := List.mem_range.1 hx; omega))
theorem okU_at (ends more which : List Int) {s t : Nat} (h : s < t) (ht : okU ends more which t = true) : okS ends more which s = true := by
  unfold okU at ht
  rw [List.all_eq_true] at ht
  exact ht s (List.mem_range.2 h)

abbrev sL (ends more which : List Int) (t : Nat) : List Int := llaid sA sN (sV ends more which) ref09_SixT5836 t

theorem six_bytes : Bytes ref09_SixT5836 := (sS_inv [] [] [] 0).1

theorem rset_step (ends more which : List Int) {t : Nat} (ht : t < 26) (hv : 0 ≤ sV ends more which t ∧ sV ends more which t < 2 ^ sN t) :
    ref02_Set 600 (sL ends more which t) (sA t : Int) (sN t : Int) false (IntKind.wrap .u64 (sV ends more which t)) = some (sL ends more which (t + 1), (0, ())) := by
  have h5 := sA_le (show t + 1 ≤ 26 by omega)
  simp only [sA] at h5
  have h2n : (2 : Int) ^ sN t ≤ 2 ^ 7 := ipow_le (sN_le t)
  have hlen : (llaid sA sN (sV ends more which) ref09_SixT5836 t).length = 16 := by rw [llaid_len]; rfl
  rw [wu64 hv.1 (by omega), Set_ok (by omega) (llaid_bytes _ _ _ six_bytes t) (by omega) (by have := sN_le t; omega) (by omega) hv]
  rfl

theorem rSix_l2_all (ends more which : List Int) {c : Nat} (hc : c < 4) : ∀ (d i k : Nat), i + d = 2 → d < k → okU ends more which (2 * c + i) = true →
    ref09_Six_l2 600 k ends more which (sL ends more which (2 * c + i)) (sA (2 * c + i) : Int) (c : Int) (i : Int) = some (if okU ends more which (2 * (c + 1)) then .inr (ends, (more, (which, (sL ends more which (2 * (c + 1)), ((sA (2 * (c + 1)) : Int), ((c : Int), ())))))) else .inl ()) := by
  intro d
  induction d with
  | zero =>
    intro i k h1 h2 h3
    obtain ⟨k, rfl⟩ : ∃ k', k = k' + 1 := ⟨k - 1, by omega⟩
    obtain rfl : i = 2 := by omega
    unfold ref09_Six_l2 ref09_Six_l2S
    have : ¬ (((2 : Nat) : Int) < 2) := by omega
    rw [show 2 * (c + 1) = 2 * c + 2 by omega]
    simp only [this, decide_false, cond_false, h3, if_true]
  | succ d ih =>
    intro i k h1 h2 h3
    obtain ⟨k, rfl⟩ : ∃ k', k = k' + 1 := ⟨k - 1, by omega⟩
    have i1 : (i : Int) < 2 := by omega
    have i2 : (c : Int) < 4 := by omega
    have n1 : sN (2 * c + i) = 7 := if_pos (by omega)
    have v1 : sV ends more which (2 * c + i) = ends.getD (i * 4 + c) 0 := by
      unfold sV
      rw [if_pos (by omega), show (2 * c + i) % 2 = i by omega, show (2 * c + i) / 2 = c by omega]
    have bad : okS ends more which (2 * c + i) = false → okU ends more which (2 * (c + 1)) = false := fun h => by
      rw [← Bool.not_eq_true]
      intro e
      rw [okU_at ends more which (show 2 * c + i < 2 * (c + 1) by omega) e] at h
      cases h
    unfold ref09_Six_l2 ref09_Six_l2S
    simp only [i1, i2, decide_true, cond_true, Int.natCast_nonneg, Bool.and_self, Int.toNat_natCast]
    by_cases hlo : ends.getD (i * 4 + c) 0 < 0
    · simp only [hlo, decide_true, cond_true]
      rw [bad (by
        unfold okS okV
        rw [v1]
        simp only [decide_eq_false_iff_not]
        omega)]
      rfl
    · by_cases hhi : 127 < ends.getD (i * 4 + c) 0
      · simp only [hlo, hhi, decide_true, decide_false, cond_true, cond_false]
        rw [bad (by
          unfold okS okV
          rw [v1, n1]
          simp only [decide_eq_false_iff_not]
          omega)]
        rfl
      · have hok : 0 ≤ sV ends more which (2 * c + i) ∧ sV ends more which (2 * c + i) < 2 ^ sN (2 * c + i) := by
          rw [v1, n1]
          omega
        have s1 := rset_step ends more which (t := 2 * c + i) (by omega) hok
        rw [v1, n1, show ((7 : Nat) : Int) = 7 from rfl] at s1
        have ha := sA_le (show 2 * c + i ≤ 26 by omega)
        have e7 : IntKind.wrap .i64 ((sA (2 * c + i) : Int) + 7) = ((sA (2 * c + (i + 1)) : Nat) : Int) := by
          rw [w64 (by omega) (by omega), show 2 * c + (i + 1) = (2 * c + i) + 1 from rfl]
          simp only [sA, n1]
          omega
        simp only [hlo, hhi, decide_false, cond_false, s1, Option.bind_some, e7]
        rw [nextI (by omega)]
        exact ih (i + 1) k (by omega) (by omega) (by
          rw [show 2 * c + (i + 1) = (2 * c + i) + 1 from rfl, okU_succ, h3]
          unfold okS okV
          simpa using hok)

theorem rSix_l0_all (ends more which : List Int) : ∀ (d c k : Nat), c + d = 4 → d < k → okU ends more which (2 * c) = true →
    ref09_Six_l0 600 k ends more which (sL ends more which (2 * c)) (sA (2 * c) : Int) (c : Int) = some (if okU ends more which 8 then .inr (more, (which, (sL ends more which 8, ((sA 8 : Int), ())))) else .inl ()) := by
  intro d
  induction d with
  | zero =>
    intro c k h1 h2 h3
    obtain ⟨k, rfl⟩ : ∃ k', k = k' + 1 := ⟨k - 1, by omega⟩
    obtain rfl : c = 4 := by omega
    unfold ref09_Six_l0 ref09_Six_l0S
    have : ¬ (((4 : Nat) : Int) < 4) := by omega
    have h3' : okU ends more which 8 = true := h3
    simp only [this, decide_false, cond_false, h3', if_true]
  | succ d ih =>
    intro c k h1 h2 h3
    obtain ⟨k, rfl⟩ : ∃ k', k = k' + 1 := ⟨k - 1, by omega⟩
    have hc : c < 4 := by omega
    have i1 : (c : Int) < 4 := by omega
    have l2 : ref09_Six_l2 600 600 ends more which (sL ends more which (2 * c)) (sA (2 * c) : Int) (c : Int) (0 : Int) = _ := rSix_l2_all ends more which hc 2 0 600 (by omega) (by omega) h3
    unfold ref09_Six_l0 ref09_Six_l0S
    simp only [i1, decide_true, cond_true, l2, Option.bind_some]
    by_cases h : okU ends more which (2 * (c + 1)) = true
    · simp only [h, if_true]
      rw [nextI (by omega)]
      exact ih (c + 1) k (by omega) (by omega) h
    · have h8 : ¬ okU ends more which 8 = true := fun e => h (okU_le ends more which (by omega) e)
      simp only [h, h8, Bool.false_eq_true, if_false]

theorem rSix_l4_all (ends more which : List Int) : ∀ (d i k : Nat), i + d = 2 → d < k → okU ends more which (8 + i) = true →
    ref09_Six_l4 600 k more which (sL ends more which (8 + i)) (sA (8 + i) : Int) (i : Int) = some (if okU ends more which 10 then .inr (which, (sL ends more which 10, ((sA 10 : Int), ()))) else .inl ()) := by
  intro d
  induction d with
  | zero =>
    intro i k h1 h2 h3
    obtain ⟨k, rfl⟩ : ∃ k', k = k' + 1 := ⟨k - 1, by omega⟩
    obtain rfl : i = 2 := by omega
    unfold ref09_Six_l4 ref09_Six_l4S
    have : ¬ (((2 : Nat) : Int) < 2) := by omega
    have h3' : okU ends more which 10 = true := h3
    simp only [this, decide_false, cond_false, h3', if_true]
  | succ d ih =>
    intro i k h1 h2 h3
    obtain ⟨k, rfl⟩ : ∃ k', k = k' + 1 := ⟨k - 1, by omega⟩
    have i1 : (i : Int) < 2 := by omega
    have n1 : sN (8 + i) = 1 := by
      unfold sN
      rw [if_neg (by omega), if_pos (by omega)]
    have v1 : sV ends more which (8 + i) = more.getD i 0 := by
      unfold sV
      rw [if_neg (by omega), if_pos (by omega)]
      congr 1
      omega
    have bad : okS ends more which (8 + i) = false → okU ends more which 10 = false := fun h => by
      rw [← Bool.not_eq_true]
      intro e
      rw [okU_at ends more which (show 8 + i < 10 by omega) e] at h
      cases h
    unfold ref09_Six_l4 ref09_Six_l4S
    simp only [i1, decide_true, cond_true, Int.natCast_nonneg, Bool.and_self, Int.toNat_natCast]
    by_cases hlo : more.getD i 0 < 0
    · simp only [hlo, decide_true, cond_true]
      rw [bad (by
        unfold okS okV
        rw [v1]
        simp only [decide_eq_false_iff_not]
        omega)]
      rfl
    · by_cases hhi : 1 < more.getD i 0
      · simp only [hlo, hhi, decide_true, decide_false, cond_true, cond_false]
        rw [bad (by
          unfold okS okV
          rw [v1, n1]
          simp only [decide_eq_false_iff_not]
          omega)]
        rfl
      · have hok : 0 ≤ sV ends more which (8 + i) ∧ sV ends more which (8 + i) < 2 ^ sN (8 + i) := by
          rw [v1, n1]
          omega
        have s1 := rset_step ends more which (t := 8 + i) (by omega) hok
        rw [v1, n1, show ((1 : Nat) : Int) = 1 from rfl] at s1
        have ha := sA_le (show 8 + i ≤ 26 by omega)
        have e7 : IntKind.wrap .i64 ((sA (8 + i) : Int) + 1) = ((sA (8 + (i + 1)) : Nat) : Int) := by
          rw [w64 (by omega) (by omega), show 8 + (i + 1) = (8 + i) + 1 from rfl]
          simp only [sA, n1]
          omega
        simp only [hlo, hhi, decide_false, cond_false, s1, Option.bind_some, e7]
        rw [nextI (by omega)]
        exact ih (i + 1) k (by omega) (by omega) (by
          rw [show 8 + (i + 1) = (8 + i) + 1 from rfl, okU_succ, h3]
          unfold okS okV
          simpa using hok)

theorem rSix_l6_all (ends more which : List Int) : ∀ (d i k : Nat), i + d = 16 → d < k → okU ends more which (10 + i) = true →
    ref09_Six_l6 600 k which (sL ends more which (10 + i)) (sA (10 + i) : Int) (i : Int) = some (if okU ends more which 26 then .inr (sL ends more which 26, ()) else .inl ()) := by
  intro d
  induction d with
  | zero =>
    intro i k h1 h2 h3
    obtain ⟨k, rfl⟩ : ∃ k', k = k' + 1 := ⟨k - 1, by omega⟩
    obtain rfl : i = 16 := by omega
    unfold ref09_Six_l6 ref09_Six_l6S
    have : ¬ (((16 : Nat) : Int) < 16) := by omega
    have h3' : okU ends more which 26 = true := h3
    simp only [this, decide_false, cond_false, h3', if_true]
  | succ d ih =>
    intro i k h1 h2 h3
    obtain ⟨k, rfl⟩ : ∃ k', k = k' + 1 := ⟨k - 1, by omega⟩
    have i1 : (i : Int) < 16 := by omega
    have v1 : sV ends more which (10 + i) = which.getD i 0 := by
      unfold sV
      rw [if_neg (by omega), if_neg (by omega)]
      congr 1
      omega
    have bad : okS ends more which (10 + i) = false → okU ends more which 26 = false := fun h => by
      rw [← Bool.not_eq_true]
      intro e
      rw [okU_at ends more which (show 10 + i < 26 by omega) e] at h
      cases h
    have ha := sA_le (show 10 + i ≤ 26 by omega)
    have lo : which.getD i 0 < 0 → okU ends more which 26 = false := fun h => bad (by
      unfold okS okV
      rw [v1]
      simp only [decide_eq_false_iff_not]
      omega)
    unfold ref09_Six_l6 ref09_Six_l6S
    by_cases h0 : i = 0
    · subst h0
      have n1 : sN (10 + 0) = 3 := rfl
      simp only [i1, decide_true, cond_true, beqT (show ((0 : Nat) : Int) = 0 from rfl), Int.natCast_nonneg, Bool.and_self, Int.toNat_natCast]
      by_cases hlo : which.getD 0 0 < 0
      · simp only [hlo, decide_true, cond_true]
        rw [lo hlo]
        rfl
      · by_cases hhi : 7 < which.getD 0 0
        · simp only [hlo, hhi, decide_true, decide_false, cond_true, cond_false]
          rw [bad (by
            unfold okS okV
            rw [v1, n1]
            simp only [decide_eq_false_iff_not]
            omega)]
          rfl
        · have hok : 0 ≤ sV ends more which (10 + 0) ∧ sV ends more which (10 + 0) < 2 ^ sN (10 + 0) := by
            rw [v1, n1]
            omega
          have s1 := rset_step ends more which (t := 10 + 0) (by omega) hok
          rw [v1, n1, show ((3 : Nat) : Int) = 3 from rfl] at s1
          have e7 : IntKind.wrap .i64 ((sA (10 + 0) : Int) + 3) = ((sA (10 + (0 + 1)) : Nat) : Int) := by
            rw [w64 (by omega) (by omega)]
            rfl
          simp only [hlo, hhi, decide_false, cond_false, s1, Option.bind_some, e7]
          rw [nextI (by omega)]
          exact ih (0 + 1) k (by omega) (by omega) (by
            rw [show 10 + (0 + 1) = (10 + 0) + 1 from rfl, okU_succ, h3]
            unfold okS okV
            simpa using hok)
    · have n1 : sN (10 + i) = 4 := by
        unfold sN
        rw [if_neg (by omega), if_neg (by omega), if_neg (by omega)]
      simp only [i1, decide_true, cond_true, beqF (show ((i : Nat) : Int) ≠ 0 by omega), cond_false, Int.natCast_nonneg, Bool.and_self, Int.toNat_natCast]
      by_cases hlo : which.getD i 0 < 0
      · simp only [hlo, decide_true, cond_true]
        rw [lo hlo]
        rfl
      · by_cases hhi : 15 < which.getD i 0
        · simp only [hlo, hhi, decide_true, decide_false, cond_true, cond_false]
          rw [bad (by
            unfold okS okV
            rw [v1, n1]
            simp only [decide_eq_false_iff_not]
            omega)]
          rfl
        · have hok : 0 ≤ sV ends more which (10 + i) ∧ sV ends more which (10 + i) < 2 ^ sN (10 + i) := by
            rw [v1, n1]
            omega
          have s1 := rset_step ends more which (t := 10 + i) (by omega) hok
          rw [v1, n1, show ((4 : Nat) : Int) = 4 from rfl] at s1
          have e7 : IntKind.wrap .i64 ((sA (10 + i) : Int) + 4) = ((sA (10 + (i + 1)) : Nat) : Int) := by
            rw [w64 (by omega) (by omega), show 10 + (i + 1) = (10 + i) + 1 from rfl]
            simp only [sA, n1]
            omega
          simp only [hlo, hhi, decide_false, cond_false, s1, Option.bind_some, e7]
          rw [nextI (by omega)]
          exact ih (i + 1) k (by omega) (by omega) (by
            rw [show 10 + (i + 1) = (10 + i) + 1 from rfl, okU_succ, h3]
            unfold okS okV
            simpa using hok)

theorem rSix_is (ends more which : List Int) : ref09_Six 600 ends more which = some (if okU ends more which 26 then (sL ends more which 26, (0, ())) else ([], (1, ()))) := by
  have l0 : ref09_Six_l0 600 600 ends more which ref09_SixT5836 (7 : Int) (0 : Int) = _ := rSix_l0_all ends more which 4 0 600 (by omega) (by omega) rfl
  unfold ref09_Six
  rw [l0]
  by_cases h8 : okU ends more which 8 = true
  · have l4 : ref09_Six_l4 600 600 more which (sL ends more which 8) (sA 8 : Int) (0 : Int) = _ := rSix_l4_all ends more which 2 0 600 (by omega) (by omega) h8
    simp only [h8, if_true, Option.bind_some, l4]
    by_cases h10 : okU ends more which 10 = true
    · have l6 : ref09_Six_l6 600 600 which (sL ends more which 10) (sA 10 : Int) (0 : Int) = _ := rSix_l6_all ends more which 16 0 600 (by omega) (by omega) h10
      simp only [h10, if_true, Option.bind_some, l6]
      by_cases h26 : okU ends more which 26 = true
      · simp only [h26, if_true]
      · simp only [h26, Bool.false_eq_true, if_false]
    · have h26 : ¬ okU ends more which 26 = true := fun e => h10 (okU_le ends more which (by omega) e)
      simp only [h10, h26, Bool.false_eq_true, if_false, Option.bind_some]
  · have h26 : ¬ okU ends more which 26 = true := fun e => h8 (okU_le ends more which (by omega) e)
    simp only [h8, h26, Bool.false_eq_true, if_false, Option.bind_some]

end Go.AE.Gn

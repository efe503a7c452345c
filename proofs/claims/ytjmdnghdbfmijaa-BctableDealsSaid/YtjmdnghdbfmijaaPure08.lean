/- Layer 8: the laws are true of what the functions come to. -/
import Derived.Test.YtjmdnghdbfmijaaA08defs
import Derived.KernelRfl
set_option linter.unusedSimpArgs false
set_option linter.unusedVariables false
namespace Go.AE.Gn
open Go Go.AE

theorem beqF {a b : Int} (h : a ≠ b) : (a == b) = false := by simpa using h

theorem law08_awake_is (F : Nat) : law08_awake F = some (true, ()) := by kernel_rfl

theorem deals_closed : ((List.range 8).all fun i => law08_Deals 40 i == some (true, ())) = true := by kernel_rfl

theorem law08_Deals_true (a0 : Int) (w0 : (Lit.int .i64 a0).wf = true) : ∃ F, law08_Deals F a0 = some (true, ()) := by
  refine ⟨40, ?_⟩
  by_cases h1 : a0 < 0
  · simp [law08_Deals, law08_awake_is, h1]
  · by_cases h2 : 7 < a0
    · simp [law08_Deals, law08_awake_is, h1, h2]
    · obtain ⟨n, rfl⟩ := Int.eq_ofNat_of_zero_le (a := a0) (by omega)
      have := List.all_eq_true.1 deals_closed n (by simp; omega)
      simpa using this

theorem weighs_closed : ((List.range 5).all fun i => decide (i < 2) || law08_Weighs 40 i == some (true, ())) = true := by kernel_rfl

theorem bctable_Weights_none {a0 : Int} (h : ¬(a0 = 2 ∨ a0 = 3 ∨ a0 = 4)) (F : Nat) : bctable_Weights F a0 = some ([], ()) := by
  simp only [not_or] at h
  simp only [bctable_Weights, beqF h.1, beqF h.2.1, beqF h.2.2, cond_false]

theorem law08_Weighs_true (a0 : Int) (w0 : (Lit.int .i64 a0).wf = true) : ∃ F, law08_Weighs F a0 = some (true, ()) := by
  refine ⟨40, ?_⟩
  by_cases h : a0 = 2 ∨ a0 = 3 ∨ a0 = 4
  · obtain ⟨n, rfl⟩ := Int.eq_ofNat_of_zero_le (a := a0) (by omega)
    have := List.all_eq_true.1 weighs_closed n (by simp; omega)
    have h2 : ¬ n < 2 := by omega
    simpa [h2] using this
  · have e := bctable_Weights_none h 40
    by_cases h1 : a0 < 2
    · simp [law08_Weighs, law08_awake_is, e, h1]
    · have h2 : 4 < a0 := by omega
      simp [law08_Weighs, law08_awake_is, e, h1, h2]

/-! ### parts and anchors -/

theorem bneT {a b : Int} (h : a ≠ b) : (a != b) = true := by simpa using h

def okSame (x y : Option (Int × Unit)) : Bool := match x, y with
  | some a, some b => a.1 == b.1
  | _, _ => false

theorem okSame_spec {x y : Option (Int × Unit)} (h : okSame x y = true) : ∃ n, x = some (n, ()) ∧ y = some (n, ()) := by
  unfold okSame at h
  split at h
  · rename_i a b
    obtain ⟨a, ⟨⟩⟩ := a
    obtain ⟨b, ⟨⟩⟩ := b
    have : a = b := by simpa using h
    exact ⟨a, rfl, by rw [this]⟩
  · cases h

theorem part_closed : ((List.range 64).all fun w => (List.range 16).all fun t => okSame (bctable_Part 40 2 w t) (ref08_Part 40 2 w t) && okSame (bctable_Part 40 3 w t) (ref08_Part 40 3 w t)) = true := by kernel_rfl

theorem part_same (a0 a1 a2 : Int) : ∃ n, bctable_Part 40 a0 a1 a2 = some (n, ()) ∧ ref08_Part 40 a0 a1 a2 = some (n, ()) := by
  by_cases h1 : a1 < 0
  · have : ¬ (0 : Int) ≤ a1 := by omega
    exact ⟨0, by simp [bctable_Part, bctable_in, this], by simp [ref08_Part, h1]⟩
  by_cases h2 : 63 < a1
  · have : (0 : Int) ≤ a1 := by omega
    have h3 : ¬ a1 < 64 := by omega
    exact ⟨0, by simp [bctable_Part, bctable_in, this, h3], by simp [ref08_Part, h1, h2]⟩
  have h3 : (0 : Int) ≤ a1 := by omega
  have h4 : a1 < 64 := by omega
  by_cases h5 : a2 < 0
  · have : ¬ (0 : Int) ≤ a2 := by omega
    exact ⟨0, by simp [bctable_Part, bctable_in, h3, h4, this], by simp [ref08_Part, h1, h2, h5]⟩
  by_cases h6 : 15 < a2
  · have : (0 : Int) ≤ a2 := by omega
    have h7 : ¬ a2 < 16 := by omega
    exact ⟨0, by simp [bctable_Part, bctable_in, h3, h4, this, h7], by simp [ref08_Part, h1, h2, h5, h6]⟩
  have h7 : (0 : Int) ≤ a2 := by omega
  have h8 : a2 < 16 := by omega
  by_cases h9 : a0 = 2 ∨ a0 = 3
  · obtain ⟨w, rfl⟩ := Int.eq_ofNat_of_zero_le h3
    obtain ⟨t, rfl⟩ := Int.eq_ofNat_of_zero_le h7
    have := List.all_eq_true.1 (List.all_eq_true.1 part_closed w (by simp; omega)) t (by simp; omega)
    simp only [Bool.and_eq_true] at this
    rcases h9 with rfl | rfl
    · exact okSame_spec this.1
    · exact okSame_spec this.2
  · simp only [not_or] at h9
    exact ⟨0, by simp [bctable_Part, bctable_in, h3, h4, h7, h8, beqF h9.1, beqF h9.2], by simp [ref08_Part, h1, h2, h5, h6, bneT h9.1, bneT h9.2]⟩

theorem anchor_closed : ((List.range 64).all fun w => okSame (bctable_Anchor 40 2 w 1) (ref08_Anchor 40 2 w 1) && (okSame (bctable_Anchor 40 3 w 1) (ref08_Anchor 40 3 w 1) && okSame (bctable_Anchor 40 3 w 2) (ref08_Anchor 40 3 w 2))) = true := by kernel_rfl

theorem anchors_len (a b : Int) : ∃ l, bctable_anchors 40 (a, (b, ())) = some (l, ()) ∧ (l = [] ∨ l.length = 64) := by
  unfold bctable_anchors
  cases (a == 2) && (b == 1)
  · cases (a == 3) && (b == 1)
    · cases (a == 3) && (b == 2)
      · exact ⟨[], rfl, .inl rfl⟩
      · exact ⟨_, rfl, .inr (by kernel_rfl)⟩
    · exact ⟨_, rfl, .inr (by kernel_rfl)⟩
  · exact ⟨_, rfl, .inr (by kernel_rfl)⟩

theorem anchor_same (a0 a1 a2 : Int) : ∃ n, bctable_Anchor 40 a0 a1 a2 = some (n, ()) ∧ ref08_Anchor 40 a0 a1 a2 = some (n, ()) := by
  by_cases hw : a1 < 0 ∨ 63 < a1
  · refine ⟨0, ?_, ?_⟩
    · obtain ⟨l, e, hl⟩ := anchors_len a0 a2
      have h1 : ¬ (0 ≤ a1 ∧ a1 < (l.length : Int)) := by
        rcases hl with rfl | hl
        · simp
        · rw [hl]; omega
      by_cases h0 : 0 ≤ a1
      · have h2 : ¬ a1 < (l.length : Int) := fun h => h1 ⟨h0, h⟩
        simp [bctable_Anchor, e, bctable_in, h0, h2]
      · simp [bctable_Anchor, e, bctable_in, h0]
    · rcases hw with h | h
      · simp [ref08_Anchor, h]
      · have : ¬ a1 < 0 := by omega
        simp [ref08_Anchor, h, this]
  · simp only [not_or] at hw
    have h1 : (0 : Int) ≤ a1 := by omega
    obtain ⟨w, rfl⟩ := Int.eq_ofNat_of_zero_le h1
    have hc := List.all_eq_true.1 anchor_closed w (by simp; omega)
    simp only [Bool.and_eq_true] at hc
    by_cases c1 : a0 = 2 ∧ a2 = 1
    · obtain ⟨rfl, rfl⟩ := c1
      exact okSame_spec hc.1
    by_cases c2 : a0 = 3 ∧ a2 = 1
    · obtain ⟨rfl, rfl⟩ := c2
      exact okSame_spec hc.2.1
    by_cases c3 : a0 = 3 ∧ a2 = 2
    · obtain ⟨rfl, rfl⟩ := c3
      exact okSame_spec hc.2.2
    have e : bctable_anchors 40 (a0, (a2, ())) = some ([], ()) := by
      have b1 : ((a0 == 2) && (a2 == 1)) = false := by
        rw [Bool.eq_false_iff]; simpa using c1
      have b2 : ((a0 == 3) && (a2 == 1)) = false := by
        rw [Bool.eq_false_iff]; simpa using c2
      have b3 : ((a0 == 3) && (a2 == 2)) = false := by
        rw [Bool.eq_false_iff]; simpa using c3
      simp only [bctable_anchors, b1, b2, b3, cond_false]
    refine ⟨0, ?_, ?_⟩
    ·       simp [bctable_Anchor, e, bctable_in]
    · have n1 : ¬ (w : Int) < 0 := by omega
      have n2 : ¬ 63 < (w : Int) := by omega
      by_cases d2 : a0 = 2
      · subst d2
        have : a2 ≠ 1 := fun h => c1 ⟨rfl, h⟩
        simp [ref08_Anchor, n1, n2, beqF this]
      · by_cases d3 : a0 = 3
        · subst d3
          have m1 : a2 ≠ 1 := fun h => c2 ⟨rfl, h⟩
          have m2 : a2 ≠ 2 := fun h => c3 ⟨rfl, h⟩
          simp [ref08_Anchor, n1, n2, beqF m1, beqF m2]
        · simp [ref08_Anchor, n1, n2, beqF d2, beqF d3]

theorem weights_same (a2 : Int) : ∃ l, bctable_Weights 40 a2 = some (l, ()) ∧ ref08_Weights 40 a2 = some (l, ()) ∧ ∀ p q b, law08_Tells_l2 40 40 p q a2 b l l 0 = some (.inr (p, (q, (a2, (b, ()))))) := by
  by_cases h : a2 = 2 ∨ a2 = 3 ∨ a2 = 4
  · rcases h with rfl | rfl | rfl
    · exact ⟨_, rfl, rfl, fun p q b => by kernel_rfl⟩
    · exact ⟨_, rfl, rfl, fun p q b => by kernel_rfl⟩
    · exact ⟨_, rfl, rfl, fun p q b => by kernel_rfl⟩
  · refine ⟨[], bctable_Weights_none h 40, ?_, fun p q b => by kernel_rfl⟩
    simp only [not_or] at h
    simp only [ref08_Weights, beqF h.1, beqF h.2.1, beqF h.2.2, cond_false]

theorem law08_Tells_true (a0 a1 a2 : Int) (w0 : (Lit.int .i64 a0).wf = true) (w1 : (Lit.int .i64 a1).wf = true) (w2 : (Lit.int .i64 a2).wf = true) : ∃ F, law08_Tells F a0 a1 a2 = some (true, ()) := by
  refine ⟨40, ?_⟩
  obtain ⟨l, e1, e2, e3⟩ := weights_same a2
  obtain ⟨n, p1, p2⟩ := part_same a0 a1 a2
  obtain ⟨m, q1, q2⟩ := anchor_same a0 a1 a2
  simp [law08_Tells, law08_awake_is, e1, e2, e3, p1, p2, q1, q2]

end Go.AE.Gn

/- Layer 10: etcone. Blocks that are put together. -/
import Derived.Test.YtpipmhfkdeaebaaPure10
import Derived.Test.YtpipmhfkdeaebaaFw22
set_option linter.unusedSimpArgs false
set_option linter.unusedVariables false
namespace Go.AE.Gn
open Go Go.AE

/-! ### fields laid one by one, as long as they fit -/

/-- A number that fits into so many bits. -/
abbrev Fits (n : Nat) (v : Int) : Prop := 0 ≤ v ∧ v < 2 ^ n

def lay1 (st : List Int × Bool) (a n : Nat) (v : Int) : List Int × Bool := if st.2 = true ∧ Fits n v then (hset st.1 a n v, true) else (st.1, false)

theorem lay10_is {F : Nat} (hF : 66 ≤ F) {out : List Int} (hb : Bytes out) (hl : out.length = 8) {a n : Nat} (hn : n ≤ 16) (h : a + n ≤ 64) {v : Int} (hv : IntKind.i64.has v) (fine : Bool) :
    etcone_Join_c1 F a n v out fine = some ((lay1 (out, fine) a n v).1, ((lay1 (out, fine) a n v).2, ())) := by
  have hv' := has_iff.1 hv
  simp only [loB, hiB] at hv'
  have h2 : (2 : Int) ^ n ≤ 2 ^ 16 := ipow_le hn
  have hp := powPos n
  unfold etcone_Join_c1 lay1
  by_cases hf : Fits n v
  · have hf' := hf
    obtain ⟨f1, f2⟩ := hf
    rw [wu64 f1 (by omega), SetHigh_ok hF hb (by omega) (by omega) (by omega) ⟨f1, f2⟩]
    cases fine
    · rfl
    · simp only [Option.bind_some, cond_true, beq_self_eq_true, true_and, if_pos hf']
  · have hw : ∃ u, IntKind.wrap .u64 v = u ∧ 0 ≤ u ∧ u ≤ 18446744073709551615 ∧ 2 ^ n ≤ u := by
      by_cases h0 : 0 ≤ v
      · exact ⟨v, wu64 h0 (by omega), h0, by omega, by unfold Fits at hf; omega⟩
      · refine ⟨v + 18446744073709551616, ?_, by omega, by omega, by omega⟩
        simp only [IntKind.wrap, IntKind.bits, IntKind.signed]
        simp
        omega
    obtain ⟨u, e, u1, u2, u3⟩ := hw
    rw [e, SetHigh_is hF hb (by omega) (by omega) ⟨u1, u2⟩]
    have hfit : fitsV out.length (a : Int) (n : Int) u = 10 := by
      unfold fitsV
      rw [if_pos (chk_ok (by omega) (by omega)), if_pos]
      refine ⟨by omega, ?_⟩
      intro h0
      have h1 := Int.emod_add_mul_ediv u (2 ^ (n : Int).toNat)
      have h3 := Int.emod_lt_of_pos u (powPos (n : Int).toNat)
      rw [h0] at h1
      simp only [Int.toNat_natCast] at h1 h3
      omega
    simp only [hfit, Option.bind_some, hf, and_false, if_false]
    cases fine <;> rfl

/-- What is laid so far. -/
structure Laid (A N : Nat → Nat) (V : Nat → Int) (m : Nat) (st : List Int × Bool) : Prop where
  len : st.1.length = 8
  bytes : Bytes st.1
  fine : st.2 = true ↔ ∀ i, i < m → Fits (N i) (V i)
  eq : st.2 = true → st.1 = hlaid A N V [0, 0, 0, 0, 0, 0, 0, 0] m

theorem Laid.nil (A N : Nat → Nat) (V : Nat → Int) : Laid A N V 0 ([0, 0, 0, 0, 0, 0, 0, 0], true) :=
  ⟨rfl, fun x hx => by simp at hx; omega, by simp, fun _ => rfl⟩

theorem lay1_keep {st : List Int × Bool} (hl : st.1.length = 8) (hb : Bytes st.1) (a n : Nat) (v : Int) : (lay1 st a n v).1.length = 8 ∧ Bytes (lay1 st a n v).1 := by
  unfold lay1
  split
  · exact ⟨by rw [hset_len, hl], hset_bytes hb _ _ _⟩
  · exact ⟨hl, hb⟩

theorem Laid.step {A N : Nat → Nat} {V : Nat → Int} {m : Nat} {st : List Int × Bool} (h : Laid A N V m st) : Laid A N V (m + 1) (lay1 st (A m) (N m) (V m)) := by
  have hk := lay1_keep h.len h.bytes (A m) (N m) (V m)
  refine ⟨hk.1, hk.2, ?_, ?_⟩
  · unfold lay1
    by_cases hc : st.2 = true ∧ Fits (N m) (V m)
    · rw [if_pos hc]
      simp only [true_iff]
      intro i hi
      rcases Nat.lt_or_ge i m with h1 | h1
      · exact h.fine.1 hc.1 i h1
      · have : i = m := by omega
        subst this
        exact hc.2
    · rw [if_neg hc]
      simp only [Bool.false_eq_true, false_iff]
      exact fun hall => hc ⟨h.fine.2 fun i hi => hall i (by omega), hall m (by omega)⟩
  · unfold lay1
    split
    · rename_i hc
      intro _
      show hset st.1 (A m) (N m) (V m) = _
      rw [h.eq hc.1]
      rfl
    · intro h2; cases h2

/-- One that does not fit. -/
theorem Laid.bad {A N : Nat → Nat} {V : Nat → Int} {m : Nat} {st st' : List Int × Bool} (h : Laid A N V m st) (hl : st'.1.length = 8) (hb : Bytes st'.1) (hf : st'.2 = false) (hv : ¬ Fits (N m) (V m)) : Laid A N V (m + 1) st' :=
  ⟨hl, hb, by rw [hf]; simp only [Bool.false_eq_true, false_iff]; exact fun hall => hv (hall m (by omega)), by rw [hf]; intro h2; cases h2⟩

/-! ### a block's fields -/

def jA (d : Bool) (j : Nat) : Nat := if j < 6 then (if d then (if j % 2 = 0 then 8 * (j / 2) else 8 * (j / 2) + 5) else 4 * j) else if j = 6 then 24 else if j = 7 then 27 else if j = 8 then 30 else if j = 9 then 31
  else if j % 2 = 0 then 47 - col10 ((j - 10) / 2) else 63 - col10 ((j - 10) / 2)
def jN (d : Bool) (j : Nat) : Nat := if j < 6 then (if d then (if j % 2 = 0 then 5 else 3) else 4) else if j < 8 then 3 else 1
def truth10 (b : Bool) : Int := if b then 1 else 0
def jV (d f : Bool) (A B T W : List Int) (j : Nat) : Int :=
  if j < 6 then (if j % 2 = 0 then A.getD (j / 2) 0 else if d then (if -4 ≤ B.getD (j / 2) 0 ∧ B.getD (j / 2) 0 < 4 then B.getD (j / 2) 0 % 8 else -1) else B.getD (j / 2) 0)
  else if j = 6 then T.getD 0 0 else if j = 7 then T.getD 1 0 else if j = 8 then truth10 d else if j = 9 then truth10 f
  else if 0 ≤ W.getD ((j - 10) / 2) 0 ∧ W.getD ((j - 10) / 2) 0 ≤ 3 then (if j % 2 = 0 then W.getD ((j - 10) / 2) 0 / 2 else W.getD ((j - 10) / 2) 0 % 2) else -1

theorem j_pos : ∀ d : Bool, ∀ i, i < 42 → jA d i + jN d i ≤ 64 ∧ jN d i ≤ 8 := by decide +kernel
theorem j_apart : ∀ d : Bool, ∀ i, i < 42 → ∀ j, j < 42 → i ≠ j → jA d i + jN d i ≤ jA d j ∨ jA d j + jN d j ≤ jA d i := by decide +kernel
theorem j_cover : ∀ d : Bool, ∀ q, q < 64 → ∃ i, i < 42 ∧ jA d i ≤ q ∧ q < jA d i + jN d i := by decide +kernel

/-- Parts that may be a block's. -/
def Ok10 (d : Bool) (A B T W : List Int) : Prop :=
  (∀ c, c < 3 → if d then (0 ≤ A.getD c 0 ∧ A.getD c 0 ≤ 31) ∧ (-4 ≤ B.getD c 0 ∧ B.getD c 0 ≤ 3) else (0 ≤ A.getD c 0 ∧ A.getD c 0 ≤ 15) ∧ (0 ≤ B.getD c 0 ∧ B.getD c 0 ≤ 15)) ∧
  (∀ i, i < 16 → 0 ≤ W.getD i 0 ∧ W.getD i 0 ≤ 3) ∧ (0 ≤ T.getD 0 0 ∧ T.getD 0 0 ≤ 7) ∧ (0 ≤ T.getD 1 0 ∧ T.getD 1 0 ≤ 7)

theorem ok10_fits (d f : Bool) (A B T W : List Int) : Ok10 d A B T W ↔ ∀ j, j < 42 → Fits (jN d j) (jV d f A B T W j) := by
  have p1 : (2 : Int) ^ 1 = 2 := rfl
  have p3 : (2 : Int) ^ 3 = 8 := rfl
  have p4 : (2 : Int) ^ 4 = 16 := rfl
  have p5 : (2 : Int) ^ 5 = 32 := rfl
  constructor
  · rintro ⟨h1, h2, h3, h4⟩ j hj
    by_cases c6 : j < 6
    · have hc := h1 (j / 2) (by omega)
      unfold jV jN Fits
      rw [if_pos c6, if_pos c6]
      cases d
      · simp only [Bool.false_eq_true, if_false] at hc ⊢
        rw [p4]
        split <;> omega
      · simp only [if_true] at hc ⊢
        rcases Nat.mod_two_eq_zero_or_one j with e | e
        · simp only [e, if_true]
          rw [p5]
          omega
        · have : ¬ (1 : Nat) = 0 := by omega
          simp only [e, this, if_false]
          rw [if_pos (by omega), p3]
          omega
    · by_cases c6' : j = 6
      · subst c6'; show Fits 3 (T.getD 0 0); unfold Fits; omega
      by_cases c7 : j = 7
      · subst c7; show Fits 3 (T.getD 1 0); unfold Fits; omega
      by_cases c8 : j = 8
      · subst c8; show Fits 1 (truth10 d); cases d <;> decide
      by_cases c9 : j = 9
      · subst c9; show Fits 1 (truth10 f); cases f <;> decide
      have hw := h2 ((j - 10) / 2) (by omega)
      unfold jV jN Fits
      rw [if_neg c6, if_neg (show ¬ j < 8 by omega), if_neg c6, if_neg c6', if_neg c7, if_neg c8, if_neg c9, if_pos (by omega), p1]
      split <;> omega
  · intro h
    refine ⟨fun c hc => ?_, fun i hi => ?_, ?_, ?_⟩
    · have h1 := h (2 * c) (by omega)
      have h2 := h (2 * c + 1) (by omega)
      unfold jV jN Fits at h1 h2
      rw [if_pos (show 2 * c < 6 by omega), if_pos (show 2 * c < 6 by omega), if_pos (show 2 * c % 2 = 0 by omega), show 2 * c / 2 = c by omega] at h1
      rw [if_pos (show 2 * c + 1 < 6 by omega), if_pos (show 2 * c + 1 < 6 by omega), if_neg (show ¬ (2 * c + 1) % 2 = 0 by omega), show (2 * c + 1) / 2 = c by omega] at h2
      cases d
      · simp only [Bool.false_eq_true, if_false] at h1 h2 ⊢
        rw [p4] at h1 h2
        omega
      · simp only [if_true, show 2 * c % 2 = 0 by omega] at h1
        simp only [if_true, show ¬ (2 * c + 1) % 2 = 0 by omega, if_false] at h2
        rw [p5] at h1
        simp only [if_true]
        split at h2 <;> omega
    · have h1 := h (10 + 2 * i) (by omega)
      unfold jV jN Fits at h1
      rw [if_neg (show ¬ 10 + 2 * i < 6 by omega), if_neg (show ¬ 10 + 2 * i < 6 by omega), if_neg (show ¬ 10 + 2 * i = 6 by omega), if_neg (show ¬ 10 + 2 * i = 7 by omega), if_neg (show ¬ 10 + 2 * i = 8 by omega), if_neg (show ¬ 10 + 2 * i = 9 by omega),
        show (10 + 2 * i - 10) / 2 = i by omega] at h1
      split at h1 <;> omega
    · have : Fits 3 (T.getD 0 0) := h 6 (by omega)
      unfold Fits at this
      omega
    · have : Fits 3 (T.getD 1 0) := h 7 (by omega)
      unfold Fits at this
      omega

theorem truth_is (F : Nat) (b : Bool) : etcone_truth F b = some (truth10 b, ()) := by cases b <;> rfl
theorem bit10_is (F : Nat) (b : Bool) : ref10_bit F b = some (truth10 b, ()) := by cases b <;> rfl

/-- Parts that are numbers of Go. -/
def Is64 (l : List Int) : Prop := ∀ i, IntKind.i64.has (l.getD i 0)

theorem Is64.of {l : List Int} (h : ∀ x ∈ l, IntKind.i64.has x) : Is64 l := fun i => getD_all (p := fun x => IntKind.i64.has x) (has_iff.2 (by decide)) h i

/-- The fields of colours. -/
theorem Join10_l0_step {F : Nat} (hF : 66 ≤ F) (k : Nat) (d f : Bool) {A B : List Int} (T W : List Int) (hA : Is64 A) (hB : Is64 B) {c : Nat} (hc : c < 3) {st : List Int × Bool} (h : Laid (jA d) (jN d) (jV d f A B T W) (2 * c) st) :
    ∃ st', etcone_Join_l0 F (k + 1) d f A B T W st.1 st.2 c = etcone_Join_l0 F k d f A B T W st'.1 st'.2 ((c + 1 : Nat) : Int) ∧ Laid (jA d) (jN d) (jV d f A B T W) (2 * c + 2) st' := by
  obtain ⟨out, fine⟩ := st
  have h0 : etcone_Join_l0 F (k + 1) d f A B T W out fine c = etcone_Join_l0S F (etcone_Join_l0 F k) d f A B T W out fine c := rfl
  simp only [h0]
  unfold etcone_Join_l0S
  have h1 : (c : Int) < 3 := by omega
  have e8 : IntKind.wrap .i64 ((8 : Int) * (c : Int)) = ((8 * c : Nat) : Int) := by rw [w64 (by omega) (by omega)]; omega
  have e4 : IntKind.wrap .i64 (((8 * c : Nat) : Int) + 4) = ((8 * c + 4 : Nat) : Int) := by rw [w64 (by omega) (by omega)]; omega
  have e5 : IntKind.wrap .i64 (((8 * c : Nat) : Int) + 5) = ((8 * c + 5 : Nat) : Int) := by rw [w64 (by omega) (by omega)]; omega
  have hb0 := has_iff.1 (hB c)
  simp only [loB, hiB] at hb0
  have step1 := h.step
  have k1 := lay1_keep h.len h.bytes (jA d (2 * c)) (jN d (2 * c)) (jV d f A B T W (2 * c))
  cases d
  · have aA : jA false (2 * c) = 8 * c := by simp [jA, show 2 * c < 6 by omega]; omega
    have aN : jN false (2 * c) = 4 := by simp [jN, show 2 * c < 6 by omega]
    have aV : jV false f A B T W (2 * c) = A.getD c 0 := by simp [jV, show 2 * c < 6 by omega]
    have bA : jA false (2 * c + 1) = 8 * c + 4 := by simp [jA, show 2 * c + 1 < 6 by omega]; omega
    have bN : jN false (2 * c + 1) = 4 := by simp [jN, show 2 * c + 1 < 6 by omega]
    have bV : jV false f A B T W (2 * c + 1) = B.getD c 0 := by simp [jV, show 2 * c + 1 < 6 by omega, show (2 * c + 1) % 2 = 1 by omega, show (2 * c + 1) / 2 = c by omega]
    have step2 := step1.step
    rw [aA, aN, aV] at k1 step1 step2
    rw [bA, bN, bV] at step2
    have g1 := lay10_is hF h.bytes h.len (a := 8 * c) (n := 4) (by decide) (by omega) (hA c) fine
    have g2 := lay10_is hF k1.2 k1.1 (a := 8 * c + 4) (n := 4) (by decide) (by omega) (hB c) (lay1 (out, fine) (8 * c) 4 (A.getD c 0)).2
    simp only [Int.cast_ofNat_Int] at g1 g2
    refine ⟨_, ?_, step2⟩
    simp only [h1, decide_true, cond_true, Bool.not_false, Int.natCast_nonneg, Bool.and_self, Int.toNat_natCast, e8, e4, g1, g2, Option.bind_some, nextI (show c < 1000000000000 by omega)]
  · have aA : jA true (2 * c) = 8 * c := by simp [jA, show 2 * c < 6 by omega]
    have aN : jN true (2 * c) = 5 := by simp [jN, show 2 * c < 6 by omega]
    have aV : jV true f A B T W (2 * c) = A.getD c 0 := by simp [jV, show 2 * c < 6 by omega]
    have bA : jA true (2 * c + 1) = 8 * c + 5 := by simp [jA, show 2 * c + 1 < 6 by omega, show (2 * c + 1) % 2 = 1 by omega, show (2 * c + 1) / 2 = c by omega]
    have bN : jN true (2 * c + 1) = 3 := by simp [jN, show 2 * c + 1 < 6 by omega, show (2 * c + 1) % 2 = 1 by omega]
    have bV : jV true f A B T W (2 * c + 1) = if -4 ≤ B.getD c 0 ∧ B.getD c 0 < 4 then B.getD c 0 % 8 else -1 := by simp [jV, show 2 * c + 1 < 6 by omega, show (2 * c + 1) % 2 = 1 by omega, show (2 * c + 1) / 2 = c by omega]
    rw [aA, aN, aV] at k1 step1
    have g1 := lay10_is hF h.bytes h.len (a := 8 * c) (n := 5) (by decide) (by omega) (hA c) fine
    have g2 := fun v hv => lay10_is hF k1.2 k1.1 (a := 8 * c + 5) (n := 3) (by decide) (by omega) (v := v) hv (lay1 (out, fine) (8 * c) 5 (A.getD c 0)).2
    have step2 := step1.step
    rw [bA, bN, bV] at step2
    have bad2 := fun (st' : List Int × Bool) hl hb hf hv => step1.bad (st' := st') hl hb hf hv
    rw [bN, bV] at bad2
    have keep2 := fun v => lay1_keep k1.1 k1.2 (8 * c + 5) 3 v
    simp only [Int.cast_ofNat_Int] at g1 g2
    generalize hst : lay1 (out, fine) (8 * c) 5 (A.getD c 0) = st1 at *
    generalize hB' : B.getD c 0 = y at *
    simp only [h1, decide_true, cond_true, Bool.not_true, cond_false, Int.natCast_nonneg, Bool.and_self, Int.toNat_natCast, e8, e5, g1, hB', Option.bind_some, truth_is, nextI (show c < 1000000000000 by omega)]
    by_cases hneg : y < 0
    · simp only [hneg, decide_true, cond_true]
      by_cases hm4 : -4 ≤ y
      · have et : IntKind.wrap .i64 (y - IntKind.wrap .i64 (-8 * truth10 (decide (-4 ≤ y)))) = y + 8 := by
          simp only [hm4, decide_true, truth10, if_true]
          rw [w64 (x := -8 * 1) (by decide) (by decide), w64 (by omega) (by omega)]
          omega
        rw [if_pos ⟨hm4, by omega⟩, show y % 8 = y + 8 by omega] at step2
        have hy4 : y < 4 := by omega
        simp only [et, g2 (y + 8) (has_iff.2 (by simp only [loB, hiB]; omega)), Option.bind_some, hy4, decide_true]
        refine ⟨lay1 st1 (8 * c + 5) 3 (y + 8), ?_, step2⟩
        cases hq : (lay1 st1 (8 * c + 5) 3 (y + 8)).2 <;> rfl
      · have et : IntKind.wrap .i64 (y - IntKind.wrap .i64 (-8 * truth10 (decide (-4 ≤ y)))) = y := by
          simp only [hm4, decide_false, truth10, Bool.false_eq_true, if_false]
          rw [w64 (x := -8 * 0) (by decide) (by decide), w64 (by omega) (by omega)]
          omega
        rw [if_neg (by omega)] at bad2
        have hq : (lay1 st1 (8 * c + 5) 3 y).2 = false := by unfold lay1; rw [if_neg]; unfold Fits; omega
        simp only [et, g2 y (has_iff.2 (by simp only [loB, hiB]; omega)), Option.bind_some, hq, cond_false]
        exact ⟨((lay1 st1 (8 * c + 5) 3 y).1, false), rfl, bad2 _ (keep2 y).1 (keep2 y).2 rfl (by unfold Fits; omega)⟩
    · have et : IntKind.wrap .i64 (y - IntKind.wrap .i64 (-8 * truth10 false)) = y := by
        simp only [truth10, Bool.false_eq_true, if_false]
        rw [w64 (x := -8 * 0) (by decide) (by decide), w64 (by omega) (by omega)]
        omega
      simp only [hneg, decide_false, cond_false, et, g2 y (has_iff.2 (by simp only [loB, hiB]; omega)), Option.bind_some]
      by_cases hy4 : y < 4
      · rw [if_pos ⟨by omega, hy4⟩, show y % 8 = y by omega] at step2
        simp only [hy4, decide_true]
        refine ⟨lay1 st1 (8 * c + 5) 3 y, ?_, step2⟩
        cases hq : (lay1 st1 (8 * c + 5) 3 y).2 <;> rfl
      · rw [if_neg (by omega)] at bad2
        simp only [hy4, decide_false]
        refine ⟨((lay1 st1 (8 * c + 5) 3 y).1, false), ?_, bad2 _ (keep2 y).1 (keep2 y).2 rfl (by unfold Fits; omega)⟩
        cases hq : (lay1 st1 (8 * c + 5) 3 y).2 <;> rfl

theorem Laid.off {A N : Nat → Nat} {V : Nat → Int} {m : Nat} {st st' : List Int × Bool} (h : Laid A N V m st) (h0 : st.2 = false) (hl : st'.1.length = 8) (hb : Bytes st'.1) (hf : st'.2 = false) : Laid A N V (m + 1) st' := by
  refine ⟨hl, hb, ?_, ?_⟩
  · rw [hf]
    simp only [Bool.false_eq_true, false_iff]
    intro hall
    rw [h.fine.2 fun i hi => hall i (by omega)] at h0
    cases h0
  · rw [hf]
    intro h2
    cases h2

theorem lay10_st {F : Nat} (hF : 66 ≤ F) {st : List Int × Bool} (hb : Bytes st.1) (hl : st.1.length = 8) {a n : Nat} (hn : n ≤ 16) (h : a + n ≤ 64) {v : Int} (hv : IntKind.i64.has v) :
    etcone_Join_c1 F a n v st.1 st.2 = some ((lay1 st a n v).1, ((lay1 st a n v).2, ())) := lay10_is hF hb hl hn h hv st.2

theorem lay1_off (out : List Int) (a n : Nat) (v : Int) : lay1 (out, false) a n v = (out, false) := by unfold lay1; rw [if_neg]; simp
theorem iand1 (x : Int) : iand .i64 x 1 = x % 2 := iand_mask (x := x) (b := 1) (by decide)

/-- The fields of texels. -/
theorem Join10_l2_step {F : Nat} (hF : 66 ≤ F) (k : Nat) (d f : Bool) (A B T : List Int) {W : List Int} (hW : Is64 W) {i : Nat} (hi : i < 16) {st : List Int × Bool} (h : Laid (jA d) (jN d) (jV d f A B T W) (10 + 2 * i) st) :
    ∃ st', etcone_Join_l2 F (k + 1) st.1 st.2 W i = etcone_Join_l2 F k st'.1 st'.2 W ((i + 1 : Nat) : Int) ∧ Laid (jA d) (jN d) (jV d f A B T W) (10 + 2 * (i + 1)) st' := by
  obtain ⟨out, fine⟩ := st
  have h0 : etcone_Join_l2 F (k + 1) out fine W i = etcone_Join_l2S F (etcone_Join_l2 F k) out fine W i := rfl
  simp only [h0]
  unfold etcone_Join_l2S
  have h1 : (i : Int) < 16 := by omega
  have hc := col10_lt hi
  have e1 : IntKind.wrap .i64 ((47 : Int) - (col10 i : Int)) = ((47 - col10 i : Nat) : Int) := by rw [w64 (by omega) (by omega)]; omega
  have e2 : IntKind.wrap .i64 ((63 : Int) - (col10 i : Int)) = ((63 - col10 i : Nat) : Int) := by rw [w64 (by omega) (by omega)]; omega
  have hw := has_iff.1 (hW i)
  simp only [loB, hiB] at hw
  have aA : jA d (10 + 2 * i) = 47 - col10 i := by
    unfold jA
    rw [if_neg (by omega), if_neg (by omega), if_neg (by omega), if_neg (by omega), if_neg (by omega), if_pos (by omega), show (10 + 2 * i - 10) / 2 = i by omega]
  have bA : jA d (10 + 2 * i + 1) = 63 - col10 i := by
    unfold jA
    rw [if_neg (by omega), if_neg (by omega), if_neg (by omega), if_neg (by omega), if_neg (by omega), if_neg (by omega), show (10 + 2 * i + 1 - 10) / 2 = i by omega]
  have aN : jN d (10 + 2 * i) = 1 := by unfold jN; rw [if_neg (by omega), if_neg (by omega)]
  have bN : jN d (10 + 2 * i + 1) = 1 := by unfold jN; rw [if_neg (by omega), if_neg (by omega)]
  have aV : jV d f A B T W (10 + 2 * i) = if 0 ≤ W.getD i 0 ∧ W.getD i 0 ≤ 3 then W.getD i 0 / 2 else -1 := by
    unfold jV
    rw [if_neg (by omega), if_neg (by omega), if_neg (by omega), if_neg (by omega), if_neg (by omega), show (10 + 2 * i - 10) / 2 = i by omega, if_pos (show (10 + 2 * i) % 2 = 0 by omega)]
  have bV : jV d f A B T W (10 + 2 * i + 1) = if 0 ≤ W.getD i 0 ∧ W.getD i 0 ≤ 3 then W.getD i 0 % 2 else -1 := by
    unfold jV
    rw [if_neg (by omega), if_neg (by omega), if_neg (by omega), if_neg (by omega), if_neg (by omega), show (10 + 2 * i + 1 - 10) / 2 = i by omega, if_neg (show ¬ (10 + 2 * i + 1) % 2 = 0 by omega)]
  have sh : ishr .i64 (W.getD i 0) 1 = W.getD i 0 / 2 := ishr64' (x := W.getD i 0) (k := 1) (by decide)
  have l1 := fun (o : List Int) (hb : Bytes o) (hl : o.length = 8) (fl : Bool) (v : Int) (hv : IntKind.i64.has v) => lay10_is hF hb hl (a := 47 - col10 i) (n := 1) (by decide) (by omega) hv fl
  have l2 := fun (o : List Int) (hb : Bytes o) (hl : o.length = 8) (fl : Bool) (v : Int) (hv : IntKind.i64.has v) => lay10_is hF hb hl (a := 63 - col10 i) (n := 1) (by decide) (by omega) hv fl
  have m1 : IntKind.i64.has (W.getD i 0 / 2 % 2) := has_iff.2 (by simp only [loB, hiB]; omega)
  have m2 : IntKind.i64.has (W.getD i 0 % 2) := has_iff.2 (by simp only [loB, hiB]; omega)
  simp only [Int.cast_ofNat_Int] at l1 l2
  have off : ∀ v1 v2, etcone_Join_c1 F ((47 - col10 i : Nat) : Int) 1 v1 out false = some (out, (false, ())) → etcone_Join_c1 F ((63 - col10 i : Nat) : Int) 1 v2 out false = some (out, (false, ())) → True := fun _ _ _ _ => trivial
  have o1 : etcone_Join_c1 F ((47 - col10 i : Nat) : Int) 1 (W.getD i 0 / 2 % 2) out false = some (out, (false, ())) := by rw [l1 out h.bytes h.len false _ m1, lay1_off]
  have o2 : etcone_Join_c1 F ((63 - col10 i : Nat) : Int) 1 (W.getD i 0 % 2) out false = some (out, (false, ())) := by rw [l2 out h.bytes h.len false _ m2, lay1_off]
  simp only [h1, decide_true, cond_true, Int.natCast_nonneg, Bool.and_self, Int.toNat_natCast, column_is F hi, Option.bind_some, e1, e2, sh, iand1, nextI (show i < 1000000000000 by omega)]
  cases fine
  · simp only [cond_false, o1, o2, Option.bind_some]
    exact ⟨(out, false), rfl, (h.off rfl (st' := (out, false)) h.len h.bytes rfl).off rfl h.len h.bytes rfl⟩
  · simp only [cond_true]
    by_cases hg : 0 ≤ W.getD i 0 ∧ W.getD i 0 ≤ 3
    · have h4 : W.getD i 0 < 4 := by omega
      have step1 := h.step
      have k1 := lay1_keep h.len h.bytes (47 - col10 i) 1 (W.getD i 0 / 2)
      have step2 := step1.step
      rw [aA, aN, aV, if_pos hg] at step1 step2
      rw [bA, bN, bV, if_pos hg] at step2
      have em : W.getD i 0 / 2 % 2 = W.getD i 0 / 2 := by omega
      rw [em] at m1
      simp only [hg.1, decide_true, cond_true, h4, em, l1 out h.bytes h.len true _ m1, Option.bind_some, l2 _ k1.2 k1.1 _ _ m2]
      exact ⟨_, rfl, step2⟩
    · have b1 := h.bad (st' := (out, false)) h.len h.bytes rfl (by rw [aN, aV, if_neg hg]; unfold Fits; omega)
      refine ⟨(out, false), ?_, b1.off rfl h.len h.bytes rfl⟩
      by_cases hn : 0 ≤ W.getD i 0
      · have h4 : ¬ W.getD i 0 < 4 := by omega
        simp only [hn, h4, decide_true, decide_false, cond_true, o1, o2, Option.bind_some]
      · simp only [hn, decide_false, cond_false, o1, o2, Option.bind_some]

theorem Join10_l2_is {F : Nat} (hF : 66 ≤ F) (d f : Bool) (A B T : List Int) {W : List Int} (hW : Is64 W) : ∀ (k i : Nat) (st : List Int × Bool), i ≤ 16 → 16 - i < k → Laid (jA d) (jN d) (jV d f A B T W) (10 + 2 * i) st →
    ∃ st', etcone_Join_l2 F k st.1 st.2 W i = some (st'.1, (st'.2, ())) ∧ Laid (jA d) (jN d) (jV d f A B T W) 42 st'
  | 0, i, st, _, h, _ => by omega
  | k + 1, i, st, hi, hk, h => by
    by_cases h16 : i < 16
    · obtain ⟨st', e, h'⟩ := Join10_l2_step hF k d f A B T hW h16 h
      rw [e]
      exact Join10_l2_is hF d f A B T hW k (i + 1) st' (by omega) (by omega) h'
    · have : i = 16 := by omega
      subst this
      exact ⟨st, rfl, h⟩

instance (d : Bool) (A B T W : List Int) : Decidable (Ok10 d A B T W) := by
  unfold Ok10
  have : ∀ c, Decidable (if d then (0 ≤ A.getD c 0 ∧ A.getD c 0 ≤ 31) ∧ (-4 ≤ B.getD c 0 ∧ B.getD c 0 ≤ 3) else (0 ≤ A.getD c 0 ∧ A.getD c 0 ≤ 15) ∧ (0 ≤ B.getD c 0 ∧ B.getD c 0 ≤ 15)) := fun c => by
    cases d <;> simp only [Bool.false_eq_true, if_false, if_true] <;> exact inferInstance
  exact inferInstance

/-- The block of parts. -/
def join10 (d f : Bool) (A B T W : List Int) : List Int := hlaid (jA d) (jN d) (jV d f A B T W) [0, 0, 0, 0, 0, 0, 0, 0] 42

theorem Join10_is {F : Nat} (hF : 66 ≤ F) (d f : Bool) {A B T W : List Int} (hA : Is64 A) (hB : Is64 B) (hT : Is64 T) (hW : Is64 W) :
    etcone_Join F (d, (f, (A, (B, (T, (W, ())))))) = if Ok10 d A B T W then some (join10 d f A B T W, (0, ())) else some ([], (1, ())) := by
  unfold etcone_Join
  obtain ⟨n, hn⟩ : ∃ n, F = n + 4 := ⟨F - 4, by omega⟩
  have colours : ∀ (m : Nat), m = n + 4 → ∃ st : List Int × Bool, etcone_Join_l0 F m d f A B T W [0, 0, 0, 0, 0, 0, 0, 0] true 0 = some (d, (f, (A, (B, (T, (W, (st.1, (st.2, ())))))))) ∧ Laid (jA d) (jN d) (jV d f A B T W) 6 st := by
    intro m hm
    subst hm
    obtain ⟨s1, e1, h1⟩ := Join10_l0_step hF (n + 3) d f T W hA hB (c := 0) (by decide) (Laid.nil _ _ _)
    obtain ⟨s2, e2, h2⟩ := Join10_l0_step hF (n + 2) d f T W hA hB (c := 1) (by decide) h1
    obtain ⟨s3, e3, h3⟩ := Join10_l0_step hF (n + 1) d f T W hA hB (c := 2) (by decide) h2
    exact ⟨s3, e1.trans (e2.trans (e3.trans rfl)), h3⟩
  obtain ⟨st6, e6, l6⟩ := colours F hn
  have l7 := l6.step
  have l8 := l7.step
  have l9 := l8.step
  have l10 := l9.step
  have f6 : jA d 6 = 24 ∧ jN d 6 = 3 ∧ jV d f A B T W 6 = T.getD 0 0 := ⟨rfl, rfl, rfl⟩
  have f7 : jA d 7 = 27 ∧ jN d 7 = 3 ∧ jV d f A B T W 7 = T.getD 1 0 := ⟨rfl, rfl, rfl⟩
  have f8 : jA d 8 = 30 ∧ jN d 8 = 1 ∧ jV d f A B T W 8 = truth10 d := ⟨rfl, rfl, rfl⟩
  have f9 : jA d 9 = 31 ∧ jN d 9 = 1 ∧ jV d f A B T W 9 = truth10 f := ⟨rfl, rfl, rfl⟩
  rw [f6.1, f6.2.1, f6.2.2] at l7 l8 l9 l10
  rw [f7.1, f7.2.1, f7.2.2] at l8 l9 l10
  rw [f8.1, f8.2.1, f8.2.2] at l9 l10
  rw [f9.1, f9.2.1, f9.2.2] at l10
  have g6 := lay10_st hF l6.bytes l6.len (a := 24) (n := 3) (by decide) (by decide) (hT 0)
  have g7 := lay10_st hF l7.bytes l7.len (a := 27) (n := 3) (by decide) (by decide) (hT 1)
  have g8 := lay10_st hF l8.bytes l8.len (a := 30) (n := 1) (by decide) (by decide) (v := truth10 d) (by cases d <;> exact has_iff.2 (by decide))
  have g9 := lay10_st hF l9.bytes l9.len (a := 31) (n := 1) (by decide) (by decide) (v := truth10 f) (by cases f <;> exact has_iff.2 (by decide))
  obtain ⟨st, e, l42⟩ := Join10_l2_is hF d f A B T hW F 0 _ (by omega) (by omega) l10
  simp only [Int.cast_ofNat_Int] at g6 g7 g8 g9
  rw [Int.natCast_zero] at e
  have e6' : etcone_Join_l0 F F d f A B T W etcone_JoinT4 true 0 = _ := e6
  simp only [e6', Option.bind_some, g6, g7, g8, g9, truth_is, e]
  have hfine := l42.fine
  rw [← ok10_fits] at hfine
  by_cases hok : Ok10 d A B T W
  · have := hfine.2 hok
    rw [if_pos hok, this, l42.eq this]
    rfl
  · have : st.2 = false := by
      cases hq : st.2
      · rfl
      · exact absurd (hfine.1 hq) hok
    rw [if_neg hok, this]
    rfl

/-! ### the document's blocks -/

def okc (d : Bool) (A B : List Int) (c : Nat) : Prop := if d then (0 ≤ A.getD c 0 ∧ A.getD c 0 ≤ 31) ∧ (-4 ≤ B.getD c 0 ∧ B.getD c 0 ≤ 3) else (0 ≤ A.getD c 0 ∧ A.getD c 0 ≤ 15) ∧ (0 ≤ B.getD c 0 ∧ B.getD c 0 ≤ 15)

theorem May10_l0_step (F k : Nat) (d f : Bool) (A B T W : List Int) {c : Nat} (hc : c < 3) :
    (okc d A B c → ref10_May_l0 F (k + 1) d f A B T W c = ref10_May_l0 F k d f A B T W ((c + 1 : Nat) : Int)) ∧ (¬ okc d A B c → ref10_May_l0 F (k + 1) d f A B T W c = some (.inl ())) := by
  have h0 : ref10_May_l0 F (k + 1) d f A B T W c = ref10_May_l0S F (ref10_May_l0 F k) d f A B T W c := rfl
  rw [h0]
  unfold ref10_May_l0S okc
  have h1 : (c : Int) < 3 := by omega
  simp only [h1, decide_true, cond_true, Int.natCast_nonneg, Bool.and_self, Int.toNat_natCast, In10_is, Option.bind_some, nextI (show c < 1000000000000 by omega)]
  cases d
  · simp only [cond_false, cond_true, Bool.not_false, Bool.false_eq_true, if_false]
    by_cases h2 : 0 ≤ A.getD c 0 ∧ A.getD c 0 ≤ 15 <;> by_cases h3 : 0 ≤ B.getD c 0 ∧ B.getD c 0 ≤ 15 <;>
      simp only [h2, h3, decide_true, decide_false, Bool.not_true, Bool.not_false, cond_true, cond_false, and_self, and_true, true_and, and_false, false_and, not_true_eq_false, not_false_eq_true, false_implies, forall_const, true_implies, imp_self]
  · simp only [cond_false, cond_true, Bool.not_true, if_true]
    by_cases h2 : 0 ≤ A.getD c 0 ∧ A.getD c 0 ≤ 31 <;> by_cases h3 : -4 ≤ B.getD c 0 ∧ B.getD c 0 ≤ 3 <;>
      simp only [h2, h3, decide_true, decide_false, Bool.not_true, Bool.not_false, cond_true, cond_false, and_self, and_true, true_and, and_false, false_and, not_true_eq_false, not_false_eq_true, false_implies, forall_const, true_implies, imp_self]

theorem May10_l0_is (F : Nat) (d f : Bool) (A B T W : List Int) : ∀ (k i : Nat), i ≤ 3 → 3 - i < k →
    ((∀ c, i ≤ c → c < 3 → okc d A B c) → ref10_May_l0 F k d f A B T W i = some (.inr (d, (f, (A, (B, (T, (W, ())))))))) ∧ ((∃ c, i ≤ c ∧ c < 3 ∧ ¬ okc d A B c) → ref10_May_l0 F k d f A B T W i = some (.inl ()))
  | 0, i, _, h => by omega
  | k + 1, i, hi, hk => by
    by_cases h3 : i < 3
    · obtain ⟨s1, s2⟩ := May10_l0_step F k d f A B T W h3
      have ih := May10_l0_is F d f A B T W k (i + 1) (by omega) (by omega)
      constructor
      · intro h
        rw [s1 (h i (Nat.le_refl _) h3)]
        exact ih.1 fun c h1 h2 => h c (by omega) h2
      · rintro ⟨c, h1, h2, h4⟩
        by_cases hc : okc d A B i
        · rw [s1 hc]
          refine ih.2 ⟨c, ?_, h2, h4⟩
          rcases Nat.eq_or_lt_of_le h1 with e | e
          · subst e; exact absurd hc h4
          · exact e
        · exact s2 hc
    · have : i = 3 := by omega
      subst this
      exact ⟨fun _ => rfl, fun ⟨c, h1, h2, _⟩ => by omega⟩

theorem May10_l2_is (F : Nat) (d f : Bool) (A B T W : List Int) : ∀ (k i : Nat), i ≤ 16 → 16 - i < k →
    ((∀ c, i ≤ c → c < 16 → 0 ≤ W.getD c 0 ∧ W.getD c 0 ≤ 3) → ref10_May_l2 F k d f A B T W i = some (.inr (d, (f, (A, (B, (T, (W, ())))))))) ∧ ((∃ c, i ≤ c ∧ c < 16 ∧ ¬ (0 ≤ W.getD c 0 ∧ W.getD c 0 ≤ 3)) → ref10_May_l2 F k d f A B T W i = some (.inl ()))
  | 0, i, _, h => by omega
  | k + 1, i, hi, hk => by
    by_cases h3 : i < 16
    · have ih := May10_l2_is F d f A B T W k (i + 1) (by omega) (by omega)
      have h0 : ref10_May_l2 F (k + 1) d f A B T W i = ref10_May_l2S F (ref10_May_l2 F k) d f A B T W i := rfl
      rw [h0]
      unfold ref10_May_l2S
      have h1 : (i : Int) < 16 := by omega
      simp only [h1, decide_true, cond_true, Int.natCast_nonneg, Bool.and_self, Int.toNat_natCast, In10_is, Option.bind_some, nextI (show i < 1000000000000 by omega)]
      constructor
      · intro h
        simp only [h i (Nat.le_refl _) h3, and_self, decide_true, Bool.not_true, cond_false]
        exact ih.1 fun c h1 h2 => h c (by omega) h2
      · rintro ⟨c, h1, h2, h4⟩
        by_cases hc : 0 ≤ W.getD i 0 ∧ W.getD i 0 ≤ 3
        · simp only [hc, and_self, decide_true, Bool.not_true, cond_false]
          refine ih.2 ⟨c, ?_, h2, h4⟩
          rcases Nat.eq_or_lt_of_le h1 with e | e
          · subst e; exact absurd hc h4
          · exact e
        · simp only [hc, decide_false, Bool.not_false, cond_true]
    · have : i = 16 := by omega
      subst this
      exact ⟨fun _ => rfl, fun ⟨c, h1, h2, _⟩ => by omega⟩

theorem May10_is {F : Nat} (hF : 17 ≤ F) (d f : Bool) (A B T W : List Int) : ref10_May F (d, (f, (A, (B, (T, (W, ())))))) = some (decide (Ok10 d A B T W), ()) := by
  unfold ref10_May
  have m0 := May10_l0_is F d f A B T W F 0 (by omega) (by omega)
  have m2 := May10_l2_is F d f A B T W F 0 (by omega) (by omega)
  rw [Int.natCast_zero] at m0 m2
  by_cases h0 : ∀ c, 0 ≤ c → c < 3 → okc d A B c
  · simp only [m0.1 h0, Option.bind_some]
    by_cases h2 : ∀ c, 0 ≤ c → c < 16 → 0 ≤ W.getD c 0 ∧ W.getD c 0 ≤ 3
    · simp only [m2.1 h2, Option.bind_some, In10_is]
      have e : Ok10 d A B T W ↔ (0 ≤ T.getD 0 0 ∧ T.getD 0 0 ≤ 7) ∧ (0 ≤ T.getD 1 0 ∧ T.getD 1 0 ≤ 7) := ⟨fun h => h.2.2, fun h => ⟨fun c hc => h0 c (by omega) hc, fun i hi => h2 i (by omega) hi, h⟩⟩
      by_cases h3 : 0 ≤ T.getD 0 0 ∧ T.getD 0 0 ≤ 7
      · have e2 : Ok10 d A B T W ↔ 0 ≤ T.getD 1 0 ∧ T.getD 1 0 ≤ 7 := e.trans ⟨fun h => h.2, fun h => ⟨h3, h⟩⟩
        simp only [h3, and_self, decide_true, cond_true, e2]
      · have e2 : ¬ Ok10 d A B T W := fun h => h3 (e.1 h).1
        simp only [h3, decide_false, cond_false, e2]
    · have : ∃ c, 0 ≤ c ∧ c < 16 ∧ ¬ (0 ≤ W.getD c 0 ∧ W.getD c 0 ≤ 3) := by
        apply Classical.byContradiction
        intro hn
        exact h2 fun c h1 h3 => Classical.byContradiction fun h4 => hn ⟨c, h1, h3, h4⟩
      have e : ¬ Ok10 d A B T W := fun h => h2 fun c _ hc => h.2.1 c hc
      simp only [m2.2 this, Option.bind_some, e, decide_false]
  · have : ∃ c, 0 ≤ c ∧ c < 3 ∧ ¬ okc d A B c := by
      apply Classical.byContradiction
      intro hn
      exact h0 fun c h1 h3 => Classical.byContradiction fun h4 => hn ⟨c, h1, h3, h4⟩
    have e : ¬ Ok10 d A B T W := fun h => h0 fun c _ hc => h.1 c hc
    simp only [m0.2 this, Option.bind_some, e, decide_false]

theorem set10_is {F : Nat} (hF : 66 ≤ F) {b : List Int} (hb : Bytes b) (hl : b.length = 8) {a n : Nat} (hn : n ≤ 16) (h : a + n ≤ 64) {v : Int} (hv : Fits n v) : ref10_set F b a n v = some (hset b a n v, ()) := by
  have h2 : (2 : Int) ^ n ≤ 2 ^ 16 := ipow_le hn
  obtain ⟨h3, h4⟩ := hv
  unfold ref10_set
  rw [wu64 h3 (by omega), SetTop_ok hF hb (by omega) (by omega) (by omega) ⟨h3, h4⟩]
  rfl

/-- So many fields of a block of parts. -/
def jl (d f : Bool) (A B T W : List Int) (m : Nat) : List Int := hlaid (jA d) (jN d) (jV d f A B T W) [0, 0, 0, 0, 0, 0, 0, 0] m

theorem jz_bytes : Bytes [0, 0, 0, 0, 0, 0, 0, 0] := fun x hx => by simp at hx; omega
theorem jl_bytes (d f : Bool) (A B T W : List Int) (m : Nat) : Bytes (jl d f A B T W m) := hlaid_bytes _ _ _ jz_bytes m
theorem jl_len (d f : Bool) (A B T W : List Int) (m : Nat) : (jl d f A B T W m).length = 8 := by unfold jl; rw [hlaid_len]; rfl

theorem set10_next {F : Nat} (hF : 66 ≤ F) {d f : Bool} {A B T W : List Int} (hok : Ok10 d A B T W) {m : Nat} (hm : m < 42) {a n : Nat} {v : Int} (ha : jA d m = a) (hn : jN d m = n) (hv : jV d f A B T W m = v) :
    ref10_set F (jl d f A B T W m) a n v = some (jl d f A B T W (m + 1), ()) := by
  have hp := j_pos d m hm
  have hf := (ok10_fits d f A B T W).1 hok m hm
  rw [ha, hn] at hp
  rw [hn, hv] at hf
  rw [set10_is hF (jl_bytes d f A B T W m) (jl_len d f A B T W m) (by omega) hp.1 hf, ← ha, ← hn, ← hv]
  rfl

theorem rJoin10_l0_step {F : Nat} (hF : 66 ≤ F) (k : Nat) {d f : Bool} {A B T W : List Int} (hok : Ok10 d A B T W) {c : Nat} (hc : c < 3) :
    ref10_Join_l0 F (k + 1) d f A B T W (jl d f A B T W (2 * c)) c = ref10_Join_l0 F k d f A B T W (jl d f A B T W (2 * (c + 1))) ((c + 1 : Nat) : Int) := by
  have h0 : ref10_Join_l0 F (k + 1) d f A B T W (jl d f A B T W (2 * c)) c = ref10_Join_l0S F (ref10_Join_l0 F k) d f A B T W (jl d f A B T W (2 * c)) c := rfl
  rw [h0]
  unfold ref10_Join_l0S
  have h1 : (c : Int) < 3 := by omega
  have e8 : IntKind.wrap .i64 ((8 : Int) * (c : Int)) = ((8 * c : Nat) : Int) := by rw [w64 (by omega) (by omega)]; omega
  have e4 : IntKind.wrap .i64 (((8 * c : Nat) : Int) + 4) = ((8 * c + 4 : Nat) : Int) := by rw [w64 (by omega) (by omega)]; omega
  have e5 : IntKind.wrap .i64 (((8 * c : Nat) : Int) + 5) = ((8 * c + 5 : Nat) : Int) := by rw [w64 (by omega) (by omega)]; omega
  have hcc := hok.1 c hc
  cases d
  · have g1 := set10_next hF (f := f) hok (m := 2 * c) (by omega) (a := 8 * c) (n := 4) (v := A.getD c 0) (by simp [jA, show 2 * c < 6 by omega]; omega) (by simp [jN, show 2 * c < 6 by omega]) (by simp [jV, show 2 * c < 6 by omega])
    have g2 := set10_next hF (f := f) hok (m := 2 * c + 1) (by omega) (a := 8 * c + 4) (n := 4) (v := B.getD c 0) (by simp [jA, show 2 * c + 1 < 6 by omega]; omega) (by simp [jN, show 2 * c + 1 < 6 by omega])
      (by simp [jV, show 2 * c + 1 < 6 by omega, show (2 * c + 1) % 2 = 1 by omega, show (2 * c + 1) / 2 = c by omega])
    simp only [Int.cast_ofNat_Int] at g1 g2
    simp only [h1, decide_true, cond_true, cond_false, Int.natCast_nonneg, Bool.and_self, Int.toNat_natCast, e8, e4, g1, g2, Option.bind_some, nextI (show c < 1000000000000 by omega)]
    rfl
  · simp only [if_true] at hcc
    have g1 := set10_next hF (f := f) hok (m := 2 * c) (by omega) (a := 8 * c) (n := 5) (v := A.getD c 0) (by simp [jA, show 2 * c < 6 by omega]) (by simp [jN, show 2 * c < 6 by omega]) (by simp [jV, show 2 * c < 6 by omega])
    have g2 := set10_next hF (f := f) hok (m := 2 * c + 1) (by omega) (a := 8 * c + 5) (n := 3) (v := B.getD c 0 % 8) (by simp [jA, show 2 * c + 1 < 6 by omega, show (2 * c + 1) % 2 = 1 by omega, show (2 * c + 1) / 2 = c by omega])
      (by simp [jN, show 2 * c + 1 < 6 by omega, show (2 * c + 1) % 2 = 1 by omega])
      (by
        unfold jV
        rw [if_pos (by omega), if_neg (by omega), show (2 * c + 1) / 2 = c by omega, if_pos rfl, if_pos (by omega)])
    simp only [Int.cast_ofNat_Int] at g1 g2
    simp only [h1, decide_true, cond_true, Int.natCast_nonneg, Bool.and_self, Int.toNat_natCast, e8, e5, g1, mod10_is F (show (0 : Int) < 8 ∧ (8 : Int) ≤ 1000000000 by decide), g2, Option.bind_some, nextI (show c < 1000000000000 by omega)]
    rfl

theorem rLay10_is {F : Nat} (hF : 66 ≤ F) {d f : Bool} {A B T W : List Int} (hok : Ok10 d A B T W) : ∀ (k i : Nat), i ≤ 16 → 16 - i < k → ref10_Lay_l0 F k (jl d f A B T W (10 + 2 * i)) W i = some (jl d f A B T W 42, ())
  | 0, i, _, h => by omega
  | k + 1, i, hi, hk => by
    by_cases h16 : i < 16
    · have ih := rLay10_is hF (f := f) hok k (i + 1) (by omega) (by omega)
      have h0 : ref10_Lay_l0 F (k + 1) (jl d f A B T W (10 + 2 * i)) W i = ref10_Lay_l0S F (ref10_Lay_l0 F k) (jl d f A B T W (10 + 2 * i)) W i := rfl
      rw [h0]
      unfold ref10_Lay_l0S
      have h1 : (i : Int) < 16 := by omega
      have hc := col10_lt h16
      have hg := hok.2.1 i h16
      have e1 : IntKind.wrap .i64 ((47 : Int) - (col10 i : Int)) = ((47 - col10 i : Nat) : Int) := by rw [w64 (by omega) (by omega)]; omega
      have e2 : IntKind.wrap .i64 ((63 : Int) - (col10 i : Int)) = ((63 - col10 i : Nat) : Int) := by rw [w64 (by omega) (by omega)]; omega
      have g1 := set10_next hF (f := f) hok (m := 10 + 2 * i) (by omega) (a := 47 - col10 i) (n := 1) (v := W.getD i 0 / 2)
        (by unfold jA; rw [if_neg (by omega), if_neg (by omega), if_neg (by omega), if_neg (by omega), if_neg (by omega), if_pos (by omega), show (10 + 2 * i - 10) / 2 = i by omega])
        (by unfold jN; rw [if_neg (by omega), if_neg (by omega)])
        (by unfold jV; rw [if_neg (by omega), if_neg (by omega), if_neg (by omega), if_neg (by omega), if_neg (by omega), show (10 + 2 * i - 10) / 2 = i by omega, if_pos hg, if_pos (show (10 + 2 * i) % 2 = 0 by omega)])
      have g2 := set10_next hF (f := f) hok (m := 10 + 2 * i + 1) (by omega) (a := 63 - col10 i) (n := 1) (v := W.getD i 0 % 2)
        (by unfold jA; rw [if_neg (by omega), if_neg (by omega), if_neg (by omega), if_neg (by omega), if_neg (by omega), if_neg (by omega), show (10 + 2 * i + 1 - 10) / 2 = i by omega])
        (by unfold jN; rw [if_neg (by omega), if_neg (by omega)])
        (by unfold jV; rw [if_neg (by omega), if_neg (by omega), if_neg (by omega), if_neg (by omega), if_neg (by omega), show (10 + 2 * i + 1 - 10) / 2 = i by omega, if_pos hg, if_neg (show ¬ (10 + 2 * i + 1) % 2 = 0 by omega)])
      simp only [Int.cast_ofNat_Int] at g1 g2
      have t1 : IntKind.wrap .i64 (Int.tdiv (W.getD i 0) 2) = W.getD i 0 / 2 := by rw [tdiv_nonneg hg.1, w64 (by omega) (by omega)]
      have t2 : Int.tmod (W.getD i 0) 2 = W.getD i 0 % 2 := tmod_nonneg hg.1
      simp only [h1, decide_true, cond_true, Int.natCast_nonneg, Bool.and_self, Int.toNat_natCast, rcol_is h16, e1, e2, t1, t2, g1, g2, Option.bind_some, nextI (show i < 1000000000000 by omega)]
      exact ih
    · have : i = 16 := by omega
      subst this
      rfl

theorem rJoin10_is {F : Nat} (hF : 66 ≤ F) (d f : Bool) (A B T W : List Int) :
    ref10_Join F (d, (f, (A, (B, (T, (W, ())))))) = if Ok10 d A B T W then some (join10 d f A B T W, (0, ())) else some ([], (1, ())) := by
  unfold ref10_Join
  rw [May10_is (by omega)]
  by_cases hok : Ok10 d A B T W
  · obtain ⟨n, hn⟩ : ∃ n, F = n + 4 := ⟨F - 4, by omega⟩
    have colours : ∀ (m : Nat), m = n + 4 → ref10_Join_l0 F m d f A B T W [0, 0, 0, 0, 0, 0, 0, 0] 0 = some (d, (f, (A, (B, (T, (W, (jl d f A B T W 6, ()))))))) := by
      intro m hm
      subst hm
      have s0 := rJoin10_l0_step hF (n + 3) (f := f) hok (c := 0) (by decide)
      have s1 := rJoin10_l0_step hF (n + 2) (f := f) hok (c := 1) (by decide)
      have s2 := rJoin10_l0_step hF (n + 1) (f := f) hok (c := 2) (by decide)
      have z0 : jl d f A B T W 0 = [0, 0, 0, 0, 0, 0, 0, 0] := rfl
      simp only [Nat.mul_zero, Nat.reduceMul, Nat.reduceAdd, Nat.zero_add, Int.natCast_zero, Int.cast_ofNat_Int] at s0 s1 s2
      rw [z0] at s0
      rw [s0, s1, s2]
      rfl
    have e6 : ref10_Join_l0 F F d f A B T W etcone_JoinT4 0 = _ := colours F hn
    have g6 := set10_next hF (f := f) hok (m := 6) (by decide) (a := 24) (n := 3) (v := T.getD 0 0) rfl rfl rfl
    have g7 := set10_next hF (f := f) hok (m := 7) (by decide) (a := 27) (n := 3) (v := T.getD 1 0) rfl rfl rfl
    have g8 := set10_next hF (f := f) hok (m := 8) (by decide) (a := 30) (n := 1) (v := truth10 d) rfl rfl rfl
    have g9 := set10_next hF (f := f) hok (m := 9) (by decide) (a := 31) (n := 1) (v := truth10 f) rfl rfl rfl
    have g10 := rLay10_is hF (f := f) hok F 0 (by omega) (by omega)
    simp only [Int.cast_ofNat_Int] at g6 g7 g8 g9
    rw [Int.natCast_zero, Nat.mul_zero, Nat.add_zero] at g10
    have lay : ref10_Lay F (jl d f A B T W 10) W = some (jl d f A B T W 42, ()) := by
      unfold ref10_Lay
      rw [g10]
      simp only [Option.bind_some]
    simp only [hok, decide_true, Bool.not_true, cond_false, if_true, e6, Option.bind_some, g6, g7, g8, g9, bit10_is, lay]
    rw [show join10 d f A B T W = jl d f A B T W 42 from rfl]
  · simp only [hok, decide_false, Bool.not_false, cond_true, if_false, Option.bind_some]

theorem Ok10.fair {d : Bool} {A B T W : List Int} (h : Ok10 d A B T W) (hA : A.length = 3) (hB : B.length = 3) : Fair10 A B := by
  have out : ∀ (l : List Int) (c : Nat), l.length = 3 → 3 ≤ c → l.getD c 0 = 0 := fun l c hl hc => by rw [List.getD_eq_getElem?_getD, List.getElem?_eq_none (by omega)]; rfl
  refine ⟨hA, hB, fun c => ?_, fun c => ?_⟩
  · rcases Nat.lt_or_ge c 3 with hc | hc
    · have := h.1 c hc
      cases d
      · simp only [Bool.false_eq_true, if_false] at this; omega
      · simp only [if_true] at this; omega
    · rw [out A c hA hc]; decide
  · rcases Nat.lt_or_ge c 3 with hc | hc
    · have := h.1 c hc
      cases d
      · simp only [Bool.false_eq_true, if_false] at this; omega
      · simp only [if_true] at this; omega
    · rw [out B c hB hc]; decide

theorem Ok10.which {d : Bool} {A B T W : List Int} (h : Ok10 d A B T W) (hW : W.length = 16) : ∀ i, 0 ≤ W.getD i 0 ∧ W.getD i 0 ≤ 3 := fun i => by
  rcases Nat.lt_or_ge i 16 with hc | hc
  · exact h.2.1 i hc
  · rw [List.getD_eq_getElem?_getD, List.getElem?_eq_none (by omega)]; decide

theorem law10_EtconeJoins_true (x : Blk10) (hx : wfC [.bool, .bool, .is .i64 3, .is .i64 3, .is .i64 2, .is .i64 16] x) : ∃ F, law10_EtconeJoins F x = some (true, ()) := by
  obtain ⟨d, f, A, B, T, W, ⟨⟩⟩ := x
  obtain ⟨⟨lA, hA⟩, ⟨lB, hB⟩, ⟨lT, hT⟩, ⟨lW, hW⟩, _⟩ := hx
  refine ⟨600, ?_⟩
  unfold law10_EtconeJoins
  rw [awake10]
  simp only [Option.bind_some, law10_to]
  rw [Join10_is (by decide) d f (Is64.of hA) (Is64.of hB) (Is64.of hT) (Is64.of hW), rJoin10_is (by decide) d f]
  by_cases hok : Ok10 d A B T W
  · have hf := hok.fair lA lB
    have hw := hok.which lW
    simp only [hok, if_true, Option.bind_some]
    rw [Same_is _ (by rw [show join10 d f A B T W = jl d f A B T W 42 from rfl, jl_len]; decide) (by decide)]
    simp only [Option.bind_some, Bool.not_true, cond_false, bne_self_eq_false]
    rw [Bases10_is (by decide) d f hf, rBases10_is (by decide) d f hf]
    simp only [Option.bind_some, cond_true, beq_self_eq_true]
    rw [Paint10_is (by decide) d f hf hw, rPaint10_is (by decide) d f hf hw]
    simp only [Option.bind_some, beq_self_eq_true]
  · simp only [hok, if_false, Option.bind_some]
    rw [Same_is _ (by decide) (by decide)]
    rfl

end Go.AE.Gn

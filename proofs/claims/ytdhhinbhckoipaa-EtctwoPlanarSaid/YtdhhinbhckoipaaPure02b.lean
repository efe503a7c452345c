/- Layer 2: what was set is got; bits turned about. -/
import Derived.Test.YtdhhinbhckoipaaPure02
set_option linter.unusedSimpArgs false
set_option linter.unusedVariables false
namespace Go.AE.Gn
open Go Go.AE

/-! ### BitsTurn -/

def turnB (x : Int) : Int := sumLo (fun i => bitL x (7 - i)) 8

theorem turn_closed (n : Nat) : ((List.range 256).all fun x => law02_turned (n + 9) x == some (turnB x, ())) = true := by kernel_rfl
theorem turnB_closed : ((List.range 256).all fun x => (decide (0 ≤ turnB x) && decide (turnB x ≤ 255)) && (List.range 8).all fun j => bitL (turnB x) (7 - j) == bitL x j) = true := by kernel_rfl

theorem turned_is {F : Nat} (hF : 9 ≤ F) {x : Int} (h : 0 ≤ x ∧ x ≤ 255) : law02_turned F x = some (turnB x, ()) := by
  obtain ⟨m, rfl⟩ := Int.eq_ofNat_of_zero_le h.1
  obtain ⟨n, rfl⟩ : ∃ n, F = n + 9 := ⟨F - 9, by omega⟩
  have := List.all_eq_true.1 (turn_closed n) m (by simp; omega)
  simpa using this

theorem turnB_is {x : Int} (h : 0 ≤ x ∧ x ≤ 255) : (0 ≤ turnB x ∧ turnB x ≤ 255) ∧ ∀ j, j < 8 → bitL (turnB x) (7 - j) = bitL x j := by
  obtain ⟨m, rfl⟩ := Int.eq_ofNat_of_zero_le h.1
  have := List.all_eq_true.1 turnB_closed m (by simp; omega)
  simp only [Bool.and_eq_true, decide_eq_true_eq] at this
  refine ⟨this.1, fun j hj => ?_⟩
  have := List.all_eq_true.1 this.2 j (by simp; omega)
  simpa using this

theorem Turn_l0_is {F : Nat} (hF : 9 ≤ F) {b : List Int} (hb : Bytes b) (hl : b.length ≤ 64) (a : Int) (up : Bool) : ∀ (k i : Nat), i ≤ b.length → b.length - i < k →
    law02_BitsTurn_l0 F k b a up ((b.take i).map turnB) i = some (b, (a, (up, (b.map turnB, ()))))
  | 0, i, _, h => by omega
  | k + 1, i, hi, hk => by
    unfold law02_BitsTurn_l0 law02_BitsTurn_l0S
    by_cases h : i < b.length
    · have h1 : (i : Int) < (b.length : Int) := by omega
      have e2 : IntKind.wrap .i64 ((i : Int) + 1) = ((i + 1 : Nat) : Int) := by rw [w64 (by omega) (by omega)]; omega
      have h3 : ((b.take i).map turnB).length + 1 ≤ 1099511627776 := by simp; omega
      have e4 : (b.take i).map turnB ++ [turnB (b.getD i 0)] = (b.take (i + 1)).map turnB := by
        rw [List.take_add_one, List.map_append, List.getD_eq_getElem?_getD, List.getElem?_eq_getElem h]
        rfl
      have ih := Turn_l0_is hF hb hl a up k (i + 1) (by omega) (by omega)
      simp only [h1, decide_true, cond_true, Int.natCast_nonneg, Bool.and_self, Int.toNat_natCast, turned_is hF (hb.getD i), Option.bind_some, h3, Bool.true_and, Bool.false_eq_true, if_false, e2, e4]
      exact ih
    · have : i = b.length := by omega
      subst this
      simp

theorem law02_BitsTurn_pure (b : List Int) (a : Int) (hb : Bytes b) (ha : a ≤ 9223372036854775807) : ∃ F, law02_BitsTurn F b a = some (true, ()) := by
  refine ⟨600, ?_⟩
  unfold law02_BitsTurn
  by_cases hl : 64 < b.length
  · have h1 : (64 : Int) < (b.length : Int) := by omega
    simp [awake02, h1]
  · have h1 : ¬ (64 : Int) < (b.length : Int) := by omega
    have k0 := Turn_l0_is (F := 600) (by omega) hb (by omega) a true 600 0 (by omega) (by omega)
    simp only [List.take_zero, List.map_nil, Int.natCast_zero] at k0
    have hc : Bytes (b.map turnB) := by
      intro x hx
      obtain ⟨y, hy, rfl⟩ := List.mem_map.1 hx
      exact (turnB_is (hb y hy)).1
    have l1 := Low_is (F := 600) (by omega) hb (by omega) (a := a) (n := 1) ha
    have l2 := High_is (F := 600) (by omega) hc (by simp; omega) (a := a) (n := 1) ha
    rw [List.length_map] at l2
    have key : lowV b a 1 = highV (b.map turnB) a 1 := by
      unfold lowV highV
      rw [List.length_map]
      split
      · rename_i hk
        obtain ⟨g1, g2, g3, g4⟩ := chk0 hk
        obtain ⟨A, rfl⟩ := Int.eq_ofNat_of_zero_le g1
        simp only [Int.toNat_natCast, show (1 : Int).toNat = 1 from rfl, sumLo, sumHi, Nat.add_zero, Int.pow_zero]
        have hA : A / 8 < b.length := by omega
        have e : (b.map turnB).getD (A / 8) 0 = turnB (b.getD (A / 8) 0) := by
          simp [List.getD_eq_getElem?_getD, List.getElem?_map, List.getElem?_eq_getElem hA]
        have := (turnB_is (hb.getD (A / 8))).2 (A % 8) (by omega)
        unfold lowBit highBit
        rw [e, this]
        omega
      · rfl
    simp [awake02, h1, k0, l1, l2, key]

theorem law02_BitsTurn_true (b : List Int) (a : Int) (hb : ∀ x ∈ b, IntKind.u8.has x) (ha : IntKind.i64.has a) : ∃ F, law02_BitsTurn F b a = some (true, ()) :=
  law02_BitsTurn_pure b a (bytes_of hb) (has_iff.1 ha).2

/-! ### BitsBack -/

theorem lowBit_sets {b : List Int} (hb : Bytes b) {A N : Nat} (hA : A + N ≤ 8 * b.length) (n : Int) (q : Nat) : ∀ i, i ≤ N → lowBit (sets (posLo A) n b i) q = if A ≤ q ∧ q < A + i then n / 2 ^ (q - A) % 2 else lowBit b q
  | 0, _ => by
    rw [if_neg (by omega)]
    rfl
  | i + 1, hi => by
    have ih := lowBit_sets hb hA n q i (by omega)
    have hbs := sets_bytes (n := n) hb (posLo8 A) i
    unfold lowBit at ih ⊢
    rw [sets, getD_set _ _ _ _ (by rw [sets_len]; simp only [posLo]; omega)]
    have p2 : (posLo A i).2 = (A + i) % 8 := rfl
    by_cases h1 : (posLo A i).1 = q / 8
    · have h1' : (A + i) / 8 = q / 8 := h1
      rw [if_pos h1, h1, setB_bit (hbs.getD _) (by omega) (by omega) (by omega)]
      by_cases h2 : q % 8 = (posLo A i).2
      · have hq : q = A + i := by omega
        rw [if_pos h2, if_pos (by omega), hq, Nat.add_sub_cancel_left]
      · rw [if_neg h2, ih]
        have : (A ≤ q ∧ q < A + i) ↔ (A ≤ q ∧ q < A + (i + 1)) := by omega
        simp only [this]
    · have h1' : ¬ (A + i) / 8 = q / 8 := h1
      rw [if_neg h1, ih]
      have : (A ≤ q ∧ q < A + i) ↔ (A ≤ q ∧ q < A + (i + 1)) := by omega
      simp only [this]

theorem highBit_sets {b : List Int} (hb : Bytes b) {A N : Nat} (hA : A + N ≤ 8 * b.length) (n : Int) (q : Nat) : ∀ i, i ≤ N → highBit (sets (posHi A N) n b i) q = if A + N - i ≤ q ∧ q < A + N then n / 2 ^ (A + N - 1 - q) % 2 else highBit b q
  | 0, _ => by
    rw [if_neg (by omega)]
    rfl
  | i + 1, hi => by
    have ih := highBit_sets hb hA n q i (by omega)
    have hbs := sets_bytes (n := n) hb (posHi8 A N) i
    unfold highBit at ih ⊢
    rw [sets, getD_set _ _ _ _ (by rw [sets_len]; simp only [posHi]; omega)]
    have p2 : (posHi A N i).2 = 7 - (A + (N - 1 - i)) % 8 := rfl
    by_cases h1 : (posHi A N i).1 = q / 8
    · have h1' : (A + (N - 1 - i)) / 8 = q / 8 := h1
      rw [if_pos h1, h1, setB_bit (hbs.getD _) (by omega) (by omega) (by omega)]
      by_cases h2 : 7 - q % 8 = (posHi A N i).2
      · have hq : q = A + (N - 1 - i) := by omega
        rw [if_pos h2, if_pos (by omega), show A + N - 1 - q = i by omega]
      · rw [if_neg h2, ih]
        have : (A + N - i ≤ q ∧ q < A + N) ↔ (A + N - (i + 1) ≤ q ∧ q < A + N) := by omega
        simp only [this]
    · have h1' : ¬ (A + (N - 1 - i)) / 8 = q / 8 := h1
      rw [if_neg h1, ih]
      have : (A + N - i ≤ q ∧ q < A + N) ↔ (A + N - (i + 1) ≤ q ∧ q < A + N) := by omega
      simp only [this]

theorem Back_l0_is {F : Nat} (hF : 66 ≤ F) {b c d l : List Int} (hb : Bytes b) (hc : Bytes c) (hd : Bytes d) (hl : b.length ≤ 64) (hcl : c.length = b.length) (hdl : d.length = b.length) {A N : Nat} (hA : A + N ≤ 8 * b.length) (h0 : l.getD 0 0 = A) (h1 : l.getD 1 0 = N)
    (hlo : ∀ q, ¬ (A ≤ q ∧ q < A + N) → lowBit c q = lowBit b q) (hhi : ∀ q, ¬ (A ≤ q ∧ q < A + N) → highBit d q = highBit b q) (up : Bool) : ∀ (k i : Nat), i ≤ 8 * b.length → 8 * b.length - i < k →
    law02_BitsBack_l0 F k b l up c d i = some (.inr (up, ()))
  | 0, i, _, h => by omega
  | k + 1, i, hi, hk => by
    have e0 : IntKind.wrap .i64 (8 * (b.length : Int)) = ((8 * b.length : Nat) : Int) := by rw [w64 (by omega) (by omega)]; omega
    unfold law02_BitsBack_l0 law02_BitsBack_l0S
    by_cases h : i < 8 * b.length
    · have g1 : (i : Int) < ((8 * b.length : Nat) : Int) := by omega
      have e2 : IntKind.wrap .i64 ((i : Int) + 1) = ((i + 1 : Nat) : Int) := by rw [w64 (by omega) (by omega)]; omega
      have e3 : IntKind.wrap .i64 ((A : Int) + (N : Int)) = ((A + N : Nat) : Int) := by rw [w64 (by omega) (by omega)]; omega
      have ih := Back_l0_is hF hb hc hd hl hcl hdl hA h0 h1 hlo hhi up k (i + 1) (by omega) (by omega)
      have ck : ∀ {x : List Int}, x.length = b.length → chk x.length (i : Int) 1 = 0 := by
        intro x hx
        unfold chk
        rw [if_neg (by omega), if_pos (by omega)]
      have lv : ∀ {x : List Int}, x.length = b.length → lowV x (i : Int) 1 = lowBit x i := by
        intro x hx
        unfold lowV
        rw [if_pos (ck hx)]
        simp [sumLo]
      have hv : ∀ {x : List Int}, x.length = b.length → highV x (i : Int) 1 = highBit x i := by
        intro x hx
        unfold highV
        rw [if_pos (ck hx)]
        simp [sumHi]
      have l1 := Low_is hF hc (by omega) (a := (i : Int)) (n := 1) (by omega)
      have l2 := Low_is hF hb (by omega) (a := (i : Int)) (n := 1) (by omega)
      have l3 := High_is hF hd (by omega) (a := (i : Int)) (n := 1) (by omega)
      have l4 := High_is hF hb (by omega) (a := (i : Int)) (n := 1) (by omega)
      rw [lv hcl] at l1
      rw [lv rfl] at l2
      rw [hv hdl] at l3
      rw [hv rfl] at l4
      by_cases c1 : A ≤ i
      · have c1' : (A : Int) ≤ (i : Int) := by omega
        by_cases c2 : i < A + N
        · have c2' : (i : Int) < ((A + N : Nat) : Int) := by omega
          simp only [e0, g1, decide_true, cond_true, h0, h1, c1', e3, c2', e2]
          exact ih
        · have c2' : ¬ (i : Int) < ((A + N : Nat) : Int) := by omega
          simp only [e0, g1, decide_true, decide_false, cond_true, cond_false, h0, h1, c1', e3, c2', e2, l1, l2, l3, l4, Option.bind_some, hlo i (by omega), hhi i (by omega), bne_self_eq_false]
          exact ih
      · have c1' : ¬ (A : Int) ≤ (i : Int) := by omega
        simp only [e0, g1, decide_true, decide_false, cond_true, cond_false, h0, h1, c1', e2, l1, l2, l3, l4, Option.bind_some, hlo i (by omega), hhi i (by omega), bne_self_eq_false]
        exact ih
    · have : i = 8 * b.length := by omega
      subst this
      simp [e0]

theorem law02_BitsBack_pure (b l : List Int) (n : Int) (hb : Bytes b) (hat : ∀ x ∈ l, -9223372036854775808 ≤ x ∧ x ≤ 9223372036854775807) (hn : 0 ≤ n ∧ n ≤ 18446744073709551615) : ∃ F, law02_BitsBack F b l n = some (true, ()) := by
  refine ⟨600, ?_⟩
  unfold law02_BitsBack
  by_cases hl : 64 < b.length
  · have h1 : (64 : Int) < (b.length : Int) := by omega
    simp [awake02, h1]
  · have h1 : ¬ (64 : Int) < (b.length : Int) := by omega
    have ha : l.getD 0 0 ≤ 9223372036854775807 := by
      cases l with
      | nil => simp
      | cons x r => exact (hat x (by simp)).2
    have hbl : b.length ≤ 1099511627776 := by omega
    have l4 := SetLow_is (F := 600) (by omega) hb hbl (a := l.getD 0 0) (n := l.getD 1 0) (v := n) ha hn
    have l5 := SetHigh_is (F := 600) (by omega) hb hbl (a := l.getD 0 0) (n := l.getD 1 0) (v := n) ha hn
    by_cases hf : fitsV b.length (l.getD 0 0) (l.getD 1 0) n = 0
    · obtain ⟨hk, hs⟩ := fits0 hf
      obtain ⟨g1, g2, g3, g4⟩ := chk0 hk
      obtain ⟨A, eA⟩ := Int.eq_ofNat_of_zero_le g1
      obtain ⟨N, eN⟩ := Int.eq_ofNat_of_zero_le g2
      have hAN : A + N ≤ 8 * b.length := by omega
      have ec : setV false b (l.getD 0 0) (l.getD 1 0) n = sets (posLo A) n b N := by
        unfold setV
        rw [if_pos hf, eA, eN]
        rfl
      have ed : setV true b (l.getD 0 0) (l.getD 1 0) n = sets (posHi A N) n b N := by
        unfold setV
        rw [if_pos hf, eA, eN]
        rfl
      have hc := sets_bytes (n := n) hb (posLo8 A) N
      have hd := sets_bytes (n := n) hb (posHi8 A N) N
      have hcl := sets_len (posLo A) n b N
      have hdl := sets_len (posHi A N) n b N
      have hmod : n % 2 ^ N = n := by
        by_cases h64 : N < 64
        · have := hs (by omega)
          rw [eN] at this
          simp only [Int.toNat_natCast] at this
          have h2 := Int.emod_add_mul_ediv n (2 ^ N)
          rw [this] at h2
          omega
        · have : N = 64 := by omega
          subst this
          omega
      have hsum : sumLo (fun i => n / 2 ^ i % 2) N = n := by rw [sumLo_bits n hn.1 N, hmod]
      have v1 : lowV (sets (posLo A) n b N) A N = n := by
        unfold lowV
        rw [hcl, if_pos (by rw [← eA, ← eN]; exact hk)]
        simp only [Int.toNat_natCast]
        refine Eq.trans (sumLo_congr fun j hj => ?_) hsum
        rw [lowBit_sets hb hAN n (A + j) N (Nat.le_refl _), if_pos (by omega), Nat.add_sub_cancel_left]
      have v2 : highV (sets (posHi A N) n b N) A N = n := by
        unfold highV
        rw [hdl, if_pos (by rw [← eA, ← eN]; exact hk)]
        simp only [Int.toNat_natCast]
        refine Eq.trans (sumHi_congr fun j hj => ?_) ((sumHi_rev (fun i => n / 2 ^ i % 2) N).trans hsum)
        rw [highBit_sets hb hAN n (A + j) N (Nat.le_refl _), if_pos (by omega), show A + N - 1 - (A + j) = N - 1 - j by omega]
      have l6 := Low_is (F := 600) (by omega) hc (by omega) (a := (A : Int)) (n := N) (by omega)
      have l7 := High_is (F := 600) (by omega) hd (by omega) (a := (A : Int)) (n := N) (by omega)
      rw [hcl, ← eA, ← eN, hk, eA, eN, v1] at l6
      rw [hdl, ← eA, ← eN, hk, eA, eN, v2] at l7
      have key := Back_l0_is (F := 600) (by omega) hb hc hd (by omega) hcl hdl hAN eA eN
        (fun q hq => by rw [lowBit_sets hb hAN n q N (Nat.le_refl _), if_neg hq])
        (fun q hq => by rw [highBit_sets hb hAN n q N (Nat.le_refl _), if_neg (by omega)]) true 600 0 (by omega) (by omega)
      simp only [Int.natCast_zero] at key
      rw [ec] at l4
      rw [ed] at l5
      rw [eA, eN] at l4 l5 hf
      simp only [awake02, Option.bind_some, h1, decide_false, cond_false, l4, l5, hf, bne_self_eq_false, eA, eN, l6, l7, hcl, hdl, key]
    · have ec : setV false b (l.getD 0 0) (l.getD 1 0) n = [] := by
        unfold setV
        rw [if_neg hf]
      have ed : setV true b (l.getD 0 0) (l.getD 1 0) n = [] := by
        unfold setV
        rw [if_neg hf]
      rw [ec] at l4
      rw [ed] at l5
      simp only [awake02, Option.bind_some, h1, decide_false, cond_false, l4, l5, bne_self_eq_false, bneT hf, cond_true, List.length_nil]
      simp

theorem law02_BitsBack_true (b a : List Int) (n : Int) (hb : ∀ x ∈ b, IntKind.u8.has x) (ha : a.length = 2 ∧ ∀ x ∈ a, IntKind.i64.has x) (hn : IntKind.u64.has n) : ∃ F, law02_BitsBack F b a n = some (true, ()) :=
  law02_BitsBack_pure b a n (bytes_of hb) (i64s_of ha) (has_iff.1 hn)

end Go.AE.Gn

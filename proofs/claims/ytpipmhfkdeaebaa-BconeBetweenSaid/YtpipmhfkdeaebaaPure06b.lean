import Derived.Test.YtpipmhfkdeaebaaPure06
set_option linter.unusedVariables false
set_option linter.unusedSimpArgs false

namespace Go.AE.Gn
open Go

/-! ### parts of a laid list -/

theorem flat_part {m : Nat} (f : Nat → List Int) : ∀ (N : Nat), (∀ i, i < N → (f i).length = m) → ((List.range N).flatMap f).length = N * m ∧ ∀ i, i < N → (((List.range N).flatMap f).drop (i * m)).take m = f i
  | 0, _ => ⟨by simp, fun i h => absurd h (by omega)⟩
  | N + 1, hf => by
    obtain ⟨h1, h2⟩ := flat_part f N fun i hi => hf i (by omega)
    have h3 := hf N (by omega)
    rw [List.range_succ, List.flatMap_append]
    constructor
    · rw [List.length_append, h1, Nat.add_mul]; simp [h3]
    · intro i hi
      rcases Nat.lt_or_ge i N with h | h
      · have him : (i + 1) * m ≤ N * m := Nat.mul_le_mul_right m (by omega)
        rw [Nat.add_mul, Nat.one_mul] at him
        rw [List.drop_append_of_le_length (by omega), List.take_append_of_le_length (by rw [List.length_drop]; omega)]
        exact h2 i h
      · have : i = N := by omega
        subst this
        rw [List.drop_append, h1, Nat.sub_self, List.drop_of_length_le (by omega)]
        simp [← h3]

theorem part_getD (l : List Int) {a c m : Nat} (hc : c < m) : l.getD (a + c) 0 = ((l.drop a).take m).getD c 0 := by
  simp [List.getD_eq_getElem?_getD, List.getElem?_take, List.getElem?_drop, hc]

def palE (p : List Int) (n : Nat) : List Int := (p.drop (n * 4)).take 4

theorem tile_part {p w : List Int} (hp : p.length = 16) (hw : ∀ i, i < 16 → okW 2 w i) {i : Nat} (hi : i < 16) : ((tileV p w).drop (i * 4)).take 4 = palE p (w.getD i 0).toNat :=
  (flat_part (fun i => (p.drop ((w.getD i 0).toNat * 4)).take 4) 16 (fun i hi => partLen hp (by have := hw i hi; unfold okW at this; omega))).2 i hi

/-! ### the palette lies between -/

theorem mix_between {a b k o : Int} (hk : 0 ≤ k ∧ k ≤ o) (ho : 1 ≤ o) : min a b ≤ mixV a b k o 0 ∧ mixV a b k o 0 ≤ max a b := by
  unfold mixV
  rw [Int.add_zero]
  have e1 : ∀ m : Int, m * (o - k) + m * k = m * o := fun m => by rw [← Int.mul_add]; congr 1; omega
  constructor
  · rw [Int.le_ediv_iff_mul_le (by omega), ← e1]
    exact Int.add_le_add (Int.mul_le_mul_of_nonneg_right (by omega) (by omega)) (Int.mul_le_mul_of_nonneg_right (by omega) (by omega))
  · have h : a * (o - k) + b * k ≤ max a b * o := by
      rw [← e1]
      exact Int.add_le_add (Int.mul_le_mul_of_nonneg_right (by omega) (by omega)) (Int.mul_le_mul_of_nonneg_right (by omega) (by omega))
    have := Int.ediv_le_ediv (show (0 : Int) < o by omega) h
    rwa [Int.mul_ediv_cancel _ (by omega)] at this

theorem betw_ok (A B : Int) {k o : Int} (hk : 0 ≤ k ∧ k ≤ o) (ho : 1 ≤ o) : ∀ c, c < 4 → min ((colV A).getD c 0) ((colV B).getD c 0) ≤ (betw (colV A) (colV B) k o).getD c 0 ∧ (betw (colV A) (colV B) k o).getD c 0 ≤ max ((colV A).getD c 0) ((colV B).getD c 0) := by
  intro c hc
  have h : c = 0 ∨ c = 1 ∨ c = 2 ∨ c = 3 := by omega
  rcases h with rfl | rfl | rfl | rfl
  · exact mix_between hk ho
  · exact mix_between hk ho
  · exact mix_between hk ho
  · exact ⟨by show min (255 : Int) 255 ≤ 255; omega, by show (255 : Int) ≤ max 255 255; omega⟩

theorem palE_ok (A B : Int) (f : Bool) {n : Nat} (hn : n < 4) : (f = false ∧ A ≤ B ∧ palE (palV A B f) n = [0, 0, 0, 0]) ∨ ∀ c, c < 4 → min ((colV A).getD c 0) ((colV B).getD c 0) ≤ (palE (palV A B f) n).getD c 0 ∧ (palE (palV A B f) n).getD c 0 ≤ max ((colV A).getD c 0) ((colV B).getD c 0) := by
  have h : n = 0 ∨ n = 1 ∨ n = 2 ∨ n = 3 := by omega
  by_cases hf : f = true ∨ B < A
  · have e : palV A B f = colV A ++ (colV B ++ (betw (colV A) (colV B) 1 3 ++ betw (colV A) (colV B) 2 3)) := by unfold palV; rw [if_pos hf]
    rw [e]
    refine .inr fun c hc => ?_
    rcases h with rfl | rfl | rfl | rfl
    · show min ((colV A).getD c 0) ((colV B).getD c 0) ≤ (colV A).getD c 0 ∧ (colV A).getD c 0 ≤ _
      omega
    · show min ((colV A).getD c 0) ((colV B).getD c 0) ≤ (colV B).getD c 0 ∧ (colV B).getD c 0 ≤ _
      omega
    · exact betw_ok A B (by decide) (by decide) c hc
    · exact betw_ok A B (by decide) (by decide) c hc
  · have e : palV A B f = colV A ++ (colV B ++ (betw (colV A) (colV B) 1 2 ++ [0, 0, 0, 0])) := by unfold palV; rw [if_neg hf]
    rw [e]
    rcases h with rfl | rfl | rfl | rfl
    · refine .inr fun c hc => ?_
      show min ((colV A).getD c 0) ((colV B).getD c 0) ≤ (colV A).getD c 0 ∧ (colV A).getD c 0 ≤ _
      omega
    · refine .inr fun c hc => ?_
      show min ((colV A).getD c 0) ((colV B).getD c 0) ≤ (colV B).getD c 0 ∧ (colV B).getD c 0 ≤ _
      omega
    · exact .inr fun c hc => betw_ok A B (by decide) (by decide) c hc
    · refine .inl ⟨?_, by omega, rfl⟩
      cases f
      · rfl
      · exact absurd (.inl rfl) hf

/-! ### the loops -/

theorem Between_l4 (x0 : List Int) (x1 : Int) (x2 : Bool) (x3 : Int) (x4 : List Int) (x5 x6 : Int) (x7 x8 : List Int) {i : Nat} (hi : i < 16)
    (h : ∀ c, c < 4 → min (x7.getD c 0) (x8.getD c 0) ≤ ((x4.drop (i * 4)).take 4).getD c 0 ∧ ((x4.drop (i * 4)).take 4).getD c 0 ≤ max (x7.getD c 0) (x8.getD c 0)) :
    law06_BconeBetween_l4 600 600 x0 x1 x2 x3 x4 x5 x6 x7 x8 i 0 = some (.inr (x0, (x1, (x2, (x3, (x4, (x5, (x6, (x7, (x8, (i, ())))))))))))  := by
  have key : ∀ (m c k : Nat), 4 - c = m → c ≤ 4 → m < k → law06_BconeBetween_l4 600 k x0 x1 x2 x3 x4 x5 x6 x7 x8 i c = some (.inr (x0, (x1, (x2, (x3, (x4, (x5, (x6, (x7, (x8, (i, ()))))))))))) := by
    intro m
    induction m with
    | zero =>
      intro c k h1 h2 h3
      obtain ⟨k, rfl⟩ : ∃ k', k = k' + 1 := ⟨k - 1, by omega⟩
      have : c = 4 := by omega
      subst this
      rfl
    | succ m ih =>
      intro c k h1 h2 h3
      obtain ⟨k, rfl⟩ : ∃ k', k = k' + 1 := ⟨k - 1, by omega⟩
      show law06_BconeBetween_l4S 600 (law06_BconeBetween_l4 600 k) x0 x1 x2 x3 x4 x5 x6 x7 x8 i c = _
      unfold law06_BconeBetween_l4S
      have c1 : (c : Int) < 4 := by omega
      have c2 : (i : Int) < 16 := by omega
      have hc := h c (by omega)
      rw [← part_getD x4 (show c < 4 by omega)] at hc
      have d1 : ¬ x4.getD (i * 4 + c) 0 < min (x7.getD c 0) (x8.getD c 0) := by omega
      have d2 : ¬ max (x7.getD c 0) (x8.getD c 0) < x4.getD (i * 4 + c) 0 := by omega
      simp only [c1, c2, decide_true, cond_true, Int.natCast_nonneg, Bool.and_self, Int.toNat_natCast, d1, d2, decide_false, cond_false, nextI (show c < 1000000000000 by omega)]
      exact ih (c + 1) k (by omega) (by omega) (by omega)
  exact key 4 0 600 (by omega) (by omega) (by decide)

theorem Between_l2 (x0 : List Int) (x1 : Int) (x2 : Bool) (x3 : Int) (x4 : List Int) (x5 x6 : Int) (x7 x8 : List Int)
    (h : ∀ i, i < 16 → (x3 = 0 ∧ x5 ≤ x6 ∧ (x4.drop (i * 4)).take 4 = [0, 0, 0, 0]) ∨ ∀ c, c < 4 → min (x7.getD c 0) (x8.getD c 0) ≤ ((x4.drop (i * 4)).take 4).getD c 0 ∧ ((x4.drop (i * 4)).take 4).getD c 0 ≤ max (x7.getD c 0) (x8.getD c 0)) :
    law06_BconeBetween_l2 600 600 x0 x1 x2 x3 x4 x5 x6 x7 x8 0 = some (.inr (x0, (x1, (x2, (x3, ()))))) := by
  have key : ∀ (m i k : Nat), 16 - i = m → i ≤ 16 → m < k → law06_BconeBetween_l2 600 k x0 x1 x2 x3 x4 x5 x6 x7 x8 i = some (.inr (x0, (x1, (x2, (x3, ()))))) := by
    intro m
    induction m with
    | zero =>
      intro c k h1 h2 h3
      obtain ⟨k, rfl⟩ : ∃ k', k = k' + 1 := ⟨k - 1, by omega⟩
      have : c = 16 := by omega
      subst this
      rfl
    | succ m ih =>
      intro i k h1 h2 h3
      obtain ⟨k, rfl⟩ : ∃ k', k = k' + 1 := ⟨k - 1, by omega⟩
      show law06_BconeBetween_l2S 600 (law06_BconeBetween_l2 600 k) x0 x1 x2 x3 x4 x5 x6 x7 x8 i = _
      unfold law06_BconeBetween_l2S
      have c1 : (i : Int) < 16 := by omega
      have ihi := ih (i + 1) k (by omega) (by omega) (by omega)
      have hi := h i (by omega)
      simp only [c1, decide_true, cond_true, Int.natCast_nonneg, Bool.and_self, Int.toNat_natCast, nextI (show i < 1000000000000 by omega)]
      by_cases hz : (x4.drop (i * 4)).take 4 = [0, 0, 0, 0]
      · by_cases h0 : x3 = 0
        · by_cases h56 : x5 ≤ x6
          · simp only [h0, h56, hz, beq_self_eq_true, decide_true, cond_true]
            rw [h0] at ihi
            exact ihi
          · have hi' := hi.resolve_left fun q => h56 q.2.1
            have l := Between_l4 x0 x1 x2 x3 x4 x5 x6 x7 x8 (show i < 16 by omega) hi'
            subst h0
            simp only [h56, beq_self_eq_true, decide_false, cond_true, cond_false, l, Option.bind_some, nextI (show i < 1000000000000 by omega)]
            exact ihi
        · have hi' := hi.resolve_left fun q => h0 q.1
          have l := Between_l4 x0 x1 x2 x3 x4 x5 x6 x7 x8 (show i < 16 by omega) hi'
          have e0 : (x3 == 0) = false := beq_false_of_ne h0
          simp only [e0, cond_false, l, Option.bind_some, nextI (show i < 1000000000000 by omega)]
          exact ihi
      · have hi' := hi.resolve_left fun q => hz q.2.2
        have l := Between_l4 x0 x1 x2 x3 x4 x5 x6 x7 x8 (show i < 16 by omega) hi'
        have ez : ((x4.drop (i * 4)).take 4 == [(0 : Int), 0, 0, 0]) = false := beq_false_of_ne hz
        simp only [ez, cond_false, l, Option.bind_some, nextI (show i < 1000000000000 by omega)]
        cases (x3 == 0) <;> cases (decide (x5 ≤ x6)) <;> exact ihi
  exact key 16 0 600 (by omega) (by omega) (by decide)

theorem Between_l0 {b : List Int} (hb : Bytes b) (hl : b.length = 8) (n : Int) (up : Bool) : law06_BconeBetween_l0 600 600 b n up 0 = some (.inr (n, (up, ()))) := by
  have step : ∀ (k i : Nat), i < 2 → law06_BconeBetween_l0 600 (k + 1) b n up i = law06_BconeBetween_l0 600 k b n up ((i + 1 : Nat) : Int) := by
    intro k i hi
    show law06_BconeBetween_l0S 600 (law06_BconeBetween_l0 600 k) b n up i = _
    unfold law06_BconeBetween_l0S
    have c1 : (i : Int) < 2 := by omega
    have l2 := Between_l2 b n up i (tileV (palV (lv b 0 16) (lv b 16 16) ((i : Int) == 1)) (oneW b)) (lv b 0 16) (lv b 16 16) (colV (lv b 0 16)) (colV (lv b 16 16)) (by
      intro j hj
      rw [tile_part (palV_len _ _ _) (oneW_ok b) hj]
      have hw := oneW_ok b j hj
      unfold okW at hw
      rcases palE_ok (lv b 0 16) (lv b 16 16) ((i : Int) == 1) (n := ((oneW b).getD j 0).toNat) (by omega) with ⟨q1, q2, q3⟩ | q
      · refine .inl ⟨?_, q2, q3⟩
        have : (i : Int) ≠ 1 := by simpa using q1
        omega
      · exact .inr q)
    simp only [c1, decide_true, cond_true, Decode6_is (F := 600) (by decide) hb hl, Parts6_is (F := 600) (by decide) hb hl, Colour_is (F := 600) (by decide), Option.bind_some, bne_self_eq_false, cond_false, and_self, if_true, l2, nextI (show i < 1000000000000 by omega)]
  have s0 := step 599 0 (by decide)
  have s1 := step 598 1 (by decide)
  rw [show ((0 : Int)) = ((0 : Nat) : Int) from rfl, s0, s1]
  rfl

theorem Between_l6 (up : Bool) (m e : Int) {t : List Int} (er : Int) (h : ∀ i, i < 16 → (t.drop (i * 4)).take 4 = colV m) : law06_BconeBetween_l6 600 600 up m e t er 0 = some (.inr (up, (m, (e, (er, ()))))) := by
  have key : ∀ (d i k : Nat), 16 - i = d → i ≤ 16 → d < k → law06_BconeBetween_l6 600 k up m e t er i = some (.inr (up, (m, (e, (er, ()))))) := by
    intro d
    induction d with
    | zero =>
      intro c k h1 h2 h3
      obtain ⟨k, rfl⟩ : ∃ k', k = k' + 1 := ⟨k - 1, by omega⟩
      have : c = 16 := by omega
      subst this
      rfl
    | succ d ih =>
      intro i k h1 h2 h3
      obtain ⟨k, rfl⟩ : ∃ k', k = k' + 1 := ⟨k - 1, by omega⟩
      show law06_BconeBetween_l6S 600 (law06_BconeBetween_l6 600 k) up m e t er i = _
      unfold law06_BconeBetween_l6S
      have c1 : (i : Int) < 16 := by omega
      simp only [c1, decide_true, cond_true, Int.natCast_nonneg, Bool.and_self, Int.toNat_natCast, h i (by omega), Colour_is (F := 600) (by decide), Option.bind_some, beq_self_eq_true, Bool.not_true, cond_false, nextI (show i < 1000000000000 by omega)]
      exact ih (i + 1) k (by omega) (by omega) (by omega)
  exact key 16 0 600 (by omega) (by omega) (by decide)

/-! ### one colour -/

theorem near5 : ((List.range 32).all fun v => nearS 5 (wideS 5 v) 32 == v) = true := by kernel_rfl
theorem near6 : ((List.range 64).all fun v => nearS 6 (wideS 6 v) 64 == v) = true := by kernel_rfl

theorem packV_col {m : Int} (hm : 0 ≤ m ∧ m ≤ 65535) : packV (colV m) = m := by
  have a5 : ∀ x : Int, (nearS 5 (wideV 5 x) 32 : Int) = x % 32 := by
    intro x
    have h := List.all_eq_true.1 near5 (x % 2 ^ 5).toNat (by simp; omega)
    have h' : nearS 5 (wideV 5 x) 32 = (x % 2 ^ 5).toNat := by simpa [wideV] using h
    rw [h']
    omega
  have a6 : ∀ x : Int, (nearS 6 (wideV 6 x) 64 : Int) = x % 64 := by
    intro x
    have h := List.all_eq_true.1 near6 (x % 2 ^ 6).toNat (by simp; omega)
    have h' : nearS 6 (wideV 6 x) 64 = (x % 2 ^ 6).toNat := by simpa [wideV] using h
    rw [h']
    omega
  show 2048 * (nearS 5 (wideV 5 (m / 2048)) 32 : Int) + 32 * (nearS 6 (wideV 6 (m / 32)) 64 : Int) + (nearS 5 (wideV 5 m) 32 : Int) = m
  rw [a5, a6, a5]
  omega

theorem zerosW : (∀ j, j < 16 → okW 2 bcone_PartsT205 j) ∧ (∀ j, bcone_PartsT205.getD j 0 = 0) := by
  have h : ∀ j, bcone_PartsT205.getD j 0 = 0 := by
    intro j
    rcases Nat.lt_or_ge j 16 with h | h
    · have : ∀ j : Fin 16, bcone_PartsT205.getD j.1 0 = 0 := by decide
      exact this ⟨j, h⟩
    · rw [List.getD_eq_getElem?_getD, List.getElem?_eq_none (by simpa [bcone_PartsT205] using h)]
      rfl
  refine ⟨fun j _ => ?_, h⟩
  unfold okW
  rw [h j]
  decide

theorem same_lv {m : Int} (hm : 0 ≤ m ∧ m ≤ 65535) : lv (packed (m + m * 2 ^ 16) 32 2 bcone_PartsT205) 0 16 = m ∧ lv (packed (m + m * 2 ^ 16) 32 2 bcone_PartsT205) 16 16 = m ∧ ∀ i, i < 16 → lv (packed (m + m * 2 ^ 16) 32 2 bcone_PartsT205) (32 + 2 * i) 2 = 0 := by
  have hb : ∀ q, q < 64 → _ := fun q hq => packed_bit (low := m + m * 2 ^ 16) (from_ := 32) (each := 2) (w := bcone_PartsT205) (by omega) (by decide) (by decide) zerosW.1 (q := q) hq
  refine ⟨lv_of_bits (by omega) fun q h1 h2 => ?_, lv_of_bits (by omega) fun q h1 h2 => ?_, fun i hi => lv_of_bits (by decide) fun q h1 h2 => ?_⟩
  · rw [hb q (by omega), if_pos (by omega), digit_field (by omega), if_pos (by omega), Nat.sub_zero]
  · rw [hb q (by omega), if_pos (by omega), digit_field (by omega), if_neg (by omega)]
  · rw [hb q (by omega), if_neg (by omega), zerosW.2]
    simp

theorem law06_BconeBetween_true (b : List Int) (n : Int) (hb' : ∀ x ∈ b, IntKind.u8.has x) (hn' : IntKind.i64.has n) : ∃ F, law06_BconeBetween F b n = some (true, ()) := by
  have hb := bytes_of hb'
  refine ⟨600, ?_⟩
  unfold law06_BconeBetween
  rw [awake06]
  simp only [Option.bind_some]
  by_cases hl : ¬ b.length = 8
  · have e : ((b.length : Int) != 8) = true := bneT (by omega)
    simp [e]
  have hl := Decidable.not_not.1 hl
  have e : ((b.length : Int) != 8) = false := by rw [hl]; rfl
  have em : iand .i64 n 65535 = n % 65536 := iand_mask (b := 16) (by decide)
  simp only [e, cond_false, Between_l0 hb hl, Option.bind_some, em]
  have hm : 0 ≤ n % 65536 ∧ n % 65536 ≤ 65535 := by omega
  generalize n % 65536 = m at hm ⊢
  have j := Join6_ok (F := 600) (by decide) hm hm (w := bcone_PartsT205) (fun j => by rw [zerosW.2 j]; decide) zerosW.1
  obtain ⟨v1, v2, v3⟩ := same_lv hm
  have hpb := packed_bytes (m + m * 2 ^ 16) 32 2 bcone_PartsT205
  have hpl := packed_len (m + m * 2 ^ 16) 32 2 bcone_PartsT205
  have d := Decode6_is (F := 600) (by decide) hpb hpl (Int.tmod n 2 == 0)
  rw [v1, v2] at d
  have l6 := Between_l6 true m 0 (t := tileV (palV m m (Int.tmod n 2 == 0)) (oneW (packed (m + m * 2 ^ 16) 32 2 bcone_PartsT205))) 0 (by
    intro i hi
    rw [tile_part (palV_len _ _ _) (oneW_ok _) hi, oneW_get _ hi, v3 i hi]
    unfold palV
    split <;> rfl)
  obtain ⟨p1, _⟩ := Pack_is (F := 600) (by decide) (t := colV m) (fun c hc => by have := colV_get (n := m) (show c < 4 by omega); omega)
  simp only [j, d, l6, Option.bind_some, and_self, if_true, cond_true, beq_self_eq_true, Colour_is (F := 600) (by decide), p1, packV_col hm]

end Go.AE.Gn
